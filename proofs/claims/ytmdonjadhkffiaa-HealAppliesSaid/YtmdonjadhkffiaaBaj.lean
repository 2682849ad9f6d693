/- Texts HebB, HebC, HebD, HebE, HebF, HebG, HebH, HebI, HebJ, HebK, HebL, HebM, HebN, HebO in one. Conditions: as each law names them. -/
import Derived.Test.YtmdonjadhkffiaaBah
import Derived.Test.YtmdonjadhkffiaaBai
/- Heal: places in memory made since. Conditions: as each law names them. -/
namespace Go.Proofs.Ytmdonjadhkffiaa
open Go.RowKit
open HE

/-- One cell of a row set, whatever the elements' size. -/
theorem Row.setAny {w w' : World} {e : TypeId} {size g n cap : Nat} {xs : List Value} (h : Row w e size (.slice (.some ⟨g, 0, none⟩) n cap) n xs) (i : Nat) (u : Value) (hw : w' = w.setCell ⟨g, i, none⟩ u) :
    Row w' e size (.slice (.some ⟨g, 0, none⟩) n cap) n (xs.set i u) := by
  subst hw
  obtain ⟨h0, h⟩ := h
  rcases h with ⟨hv, _⟩ | ⟨g', cap', cur, fz, hv, hg, hf, h1, h2, h3, h4⟩
  · cases hv
  · cases hv
    refine ⟨by simpa using h0, .inr ⟨g, cap, cur.setIfInBounds i u, fz, rfl, ?_, by simpa using hf, h1, h2, by simpa using h3, ?_⟩⟩
    · simp [World.setCell]
      rw [Array.getElem?_modify]
      simp [hg]
    · rw [← h4]
      simp only [Array.toList_setIfInBounds]
      rw [List.take_set]

def plV (x : Pl × Value) : List Value := [.int .i64 x.1.chunk, x.2]
def plsV (xs : List (Pl × Value)) : List Value := xs.flatMap plV
theorem plsV_snoc (xs : List (Pl × Value)) (x : Pl × Value) : plsV (xs ++ [x]) = plsV xs ++ plV x := by unfold plsV; simp
theorem plsV_cons (x : Pl × Value) (xs : List (Pl × Value)) : plsV (x :: xs) = .int .i64 x.1.chunk :: x.2 :: plsV xs := rfl
theorem plsV_length : ∀ xs : List (Pl × Value), (plsV xs).length = xs.length * 2
  | [] => rfl
  | x :: xs => by rw [plsV_cons]; simp only [List.length_cons, plsV_length xs]; omega
theorem plsV_get : ∀ (xs : List (Pl × Value)) (i : Nat) (hi : i < xs.length), (plsV xs)[i * 2]? = some (.int .i64 xs[i].1.chunk) ∧ (plsV xs)[i * 2 + 1]? = some xs[i].2
  | [], i, hi => by simp at hi
  | x :: xs, 0, _ => ⟨rfl, rfl⟩
  | x :: xs, i + 1, hi => by
    have h := plsV_get xs i (by simpa using hi)
    rw [plsV_cons, show (i + 1) * 2 = i * 2 + 1 + 1 by omega, show i * 2 + 1 + 1 + 1 = i * 2 + 1 + 1 + 1 from rfl]
    exact ⟨by simpa using h.1, by simpa using h.2⟩
theorem plsV_set : ∀ (xs : List (Pl × Value)) (i : Nat) (hi : i < xs.length) (l : List Int) (u : Value), (plsV xs).set (i * 2 + 1) u = plsV (xs.set i (⟨xs[i].1.chunk, l⟩, u))
  | [], i, hi, _, _ => by simp at hi
  | x :: xs, 0, _, _, _ => rfl
  | x :: xs, i + 1, hi, l, u => by
    have h := plsV_set xs i (by simpa using hi) l u
    rw [plsV_cons, show (i + 1) * 2 + 1 = i * 2 + 1 + 1 + 1 by omega, List.set_cons_succ, List.set_cons_succ, h, List.set_cons_succ, plsV_cons]
    rfl
theorem plsV_turn : ∀ (xs : List (Pl × Value)) (i : Nat) (hi : i < xs.length) (l : List Int), plsV xs = plsV (xs.set i (⟨xs[i].1.chunk, l⟩, xs[i].2))
  | [], i, hi, _ => by simp at hi
  | x :: xs, 0, _, _ => rfl
  | x :: xs, i + 1, hi, l => by
    have h := plsV_turn xs i (by simpa using hi) l
    rw [List.set_cons_succ, plsV_cons, plsV_cons]
    have e : (x :: xs)[i + 1] = xs[i]'(by simpa using hi) := rfl
    rw [e, ← h]
theorem plV_one {x : Pl × Value} (h : x.2.oneCell' = true) : ∀ u ∈ plV x, u.oneCell' = true := by
  intro u hu
  simp only [plV, List.mem_cons, List.not_mem_nil, or_false] at hu
  rcases hu with rfl | rfl
  · rfl
  · exact h
theorem ty_places : SliceTy Try.prog 24 44 (.agg #[.int .i64 0, .slice none 0 0]) 2 32 := ⟨by kernel_rfl, by kernel_rfl, rfl, by decide⟩

/-- Places made since there were B blocks: each with nodes of its own. -/
structure PlsO (B : Nat) (w : World) (v : Value) (xs : List (Pl × Value)) : Prop where
  row : Row w 44 2 v xs.length (plsV xs)
  each : ∀ x ∈ xs, Row w 3 1 x.2 x.1.nodes.length (numsV x.1.nodes)
  own : ∀ k, v.ownBlock = some k → B ≤ k
  owns : ∀ x ∈ xs, ∀ k, x.2.ownBlock = some k → B ≤ k ∧ v.ownBlock ≠ some k
  apart : xs.Pairwise fun x y => ∀ k, x.2.ownBlock = some k → y.2.ownBlock ≠ some k
  i64 : ∀ x ∈ xs, I64 x.1.chunk ∧ ∀ z ∈ x.1.nodes, I64 z

variable {B : Nat} {w w' : World} {v : Value} {xs : List (Pl × Value)}

theorem PlsO.nil (B : Nat) (w : World) : PlsO B w (.slice none 0 0) [] := ⟨Row.nil _ _ _, by simp, fun k e => by simp [Value.ownBlock] at e, by simp, List.Pairwise.nil, by simp⟩
theorem PlsO.keep (H : PlsO B w v xs) {F : Nat → Prop} (hk : Keep F w w') (hF : ∀ k, B ≤ k → k < w.heap.size → ¬ F k) : PlsO B w' v xs :=
  ⟨H.row.keep hk fun k e => hF k (H.own k e) (H.row.lt e), fun x hx => (H.each x hx).keep hk fun k e => hF k (H.owns x hx k e).1 ((H.each x hx).lt e), H.own, H.owns, H.apart, H.i64⟩
theorem PlsO.later (H : PlsO B w v xs) (hk : Keep (fun _ => False) w w') : PlsO B w' v xs := H.keep hk fun _ _ _ x => x
theorem PlsO.at (H : PlsO B w v xs) (i : Nat) (hi : i < xs.length) :
    ∃ g cap, v = .slice (some ⟨g, 0, none⟩) xs.length cap ∧ w.cell? ⟨g, i * 2, none⟩ = some (.int .i64 xs[i].1.chunk) ∧ w.cell? ⟨g, i * 2 + 1, none⟩ = some xs[i].2 ∧ w.frozen? ⟨g, i * 2 + 1, none⟩ = false := by
  obtain ⟨h1, h2⟩ := plsV_get xs i hi
  obtain ⟨g, cap, rfl, hc⟩ := H.row.getCell h1
  obtain ⟨g', cap', he, hc'⟩ := H.row.getCell h2
  cases he
  exact ⟨g, cap, rfl, hc, hc', H.row.frozen (i * 2 + 1) (by omega)⟩
theorem PlsO.pls (H : PlsO B w v xs) : PlsV w v (xs.map (·.1)) := by
  obtain ⟨ao, c, hv, hc1, hc2, -⟩ := H.row.form
  refine ⟨ao, c, by rw [List.length_map]; exact hv, by rw [List.length_map]; omega, fun h0 => ?_⟩
  rw [List.length_map] at h0
  obtain ⟨g, cap, he, -⟩ := H.at 0 h0
  rw [hv] at he
  cases he
  refine ⟨⟨g, 0, none⟩, rfl, fun i hi => ?_⟩
  rw [List.length_map] at hi
  obtain ⟨g', cap', he, a1, a2, -⟩ := H.at i hi
  rw [hv] at he
  cases he
  rw [addr_add, Nat.zero_add, List.getElem_map]
  have hm := List.getElem_mem hi
  exact ⟨xs[i].2, a1, a2, IntsV.of_row (H.each _ hm) (H.i64 _ hm).2, (H.i64 _ hm).1⟩

/-- One place more. -/
theorem PlsO.push (H : PlsO B w v xs) (hB : B ≤ w.heap.size) {v' : Value} {x : Pl × Value} (hr : Row w' 44 2 v' (xs.length + 1) (plsV xs ++ plV x)) (hk : Keep (fun k => v.ownBlock = some k) w w')
    (hv : (v' = v ∧ 1 = 0) ∨ ∃ k, v'.ownBlock = some k ∧ (v.ownBlock = some k ∨ k = w.heap.size)) (hx : Row w 3 1 x.2 x.1.nodes.length (numsV x.1.nodes)) (ho : ∀ k, x.2.ownBlock = some k → B ≤ k ∧ v.ownBlock ≠ some k ∧ ∀ y ∈ xs, y.2.ownBlock ≠ some k)
    (hz : I64 x.1.chunk ∧ ∀ z ∈ x.1.nodes, I64 z) : PlsO B w' v' (xs ++ [x]) := by
  have hvo : ∀ k, v'.ownBlock = some k → v.ownBlock = some k ∨ k = w.heap.size := fun k e => by
    rcases hv with ⟨_, h0⟩ | ⟨k', h1, h2⟩
    · omega
    · rw [e] at h1; cases h1; exact h2
  have hnot : ∀ y : Pl × Value, (y ∈ xs ∨ y = x) → (∀ k, y.2.ownBlock = some k → B ≤ k ∧ v.ownBlock ≠ some k) ∧ Row w 3 1 y.2 y.1.nodes.length (numsV y.1.nodes) := fun y hy => by
    rcases hy with hy | rfl
    · exact ⟨H.owns y hy, H.each y hy⟩
    · exact ⟨fun k e => ⟨(ho k e).1, (ho k e).2.1⟩, hx⟩
  have hmem : ∀ y : Pl × Value, y ∈ xs ++ [x] → y ∈ xs ∨ y = x := fun y hy => by simpa using hy
  refine ⟨by rw [List.length_append, List.length_singleton, plsV_snoc]; exact hr, fun y hy => ?_, fun k e => ?_, fun y hy k e => ?_, ?_, fun y hy => ?_⟩
  · obtain ⟨h1, h2⟩ := hnot y (hmem y hy)
    exact h2.keep hk fun k e => (h1 k e).2
  · rcases hvo k e with e | rfl
    · exact H.own k e
    · exact hB
  · obtain ⟨h1, h2⟩ := hnot y (hmem y hy)
    refine ⟨(h1 k e).1, fun e' => ?_⟩
    rcases hvo k e' with e' | rfl
    · exact (h1 k e).2 e'
    · have := h2.lt e; omega
  · refine List.pairwise_append.2 ⟨H.apart, List.pairwise_singleton _ _, fun y hy z hz k e => ?_⟩
    rw [List.mem_singleton] at hz
    subst hz
    exact fun e' => (ho k e').2.2 y hy e
  · rcases hmem y hy with hy | rfl
    · exact H.i64 y hy
    · exact hz

/-- One place's nodes anew. -/
theorem PlsO.swap (H : PlsO B w v xs) {w'' : World} (i : Nat) (hi : i < xs.length) {l' : List Int} {nv' : Value} (hB : B ≤ w.heap.size) (hk : Keep (fun k => xs[i].2.ownBlock = some k ∨ v.ownBlock = some k) w w'')
    (hrow : Row w'' 44 2 v xs.length (plsV (xs.set i (⟨xs[i].1.chunk, l'⟩, nv')))) (hr : Row w'' 3 1 nv' l'.length (numsV l')) (ho : ∀ k, nv'.ownBlock = some k → xs[i].2.ownBlock = some k ∨ w.heap.size ≤ k) (hz : ∀ z ∈ l', I64 z) :
    PlsO B w'' v (xs.set i (⟨xs[i].1.chunk, l'⟩, nv')) := by
  have hm := List.getElem_mem hi
  have hother : ∀ j (hj : j < xs.length), j ≠ i → ∀ k, xs[j].2.ownBlock = some k → xs[i].2.ownBlock ≠ some k := fun j hj hne k e e' => by
    rcases Nat.lt_or_gt_of_ne hne with h | h
    · exact List.pairwise_iff_getElem.1 H.apart j i hj hi h k e e'
    · exact List.pairwise_iff_getElem.1 H.apart i j hi hj h k e' e
  have hnew : ∀ k, nv'.ownBlock = some k → B ≤ k ∧ v.ownBlock ≠ some k := fun k e => by
    rcases ho k e with e | e
    · exact H.owns _ hm k e
    · exact ⟨by omega, fun e' => by have := H.row.lt e'; omega⟩
  have hcase : ∀ y, y ∈ xs.set i (⟨xs[i].1.chunk, l'⟩, nv') → (∃ j, ∃ hj : j < xs.length, j ≠ i ∧ y = xs[j]) ∨ y = (⟨xs[i].1.chunk, l'⟩, nv') := fun y hy => by
    obtain ⟨j, hj, rfl⟩ := List.getElem_of_mem hy
    rw [List.length_set] at hj
    by_cases hji : j = i
    · subst hji; exact .inr (by rw [List.getElem_set_self])
    · exact .inl ⟨j, hj, hji, by rw [List.getElem_set_ne (Ne.symm hji)]⟩
  refine ⟨by rw [List.length_set]; exact hrow, fun y hy => ?_, H.own, fun y hy => ?_, ?_, fun y hy => ?_⟩
  · rcases hcase y hy with ⟨j, hj, hne, rfl⟩ | rfl
    · have hmj := List.getElem_mem hj
      exact (H.each _ hmj).keep hk fun k e x => by
        rcases x with x | x
        · exact hother j hj hne k e x
        · exact (H.owns _ hmj k e).2 x
    · exact hr
  · rcases hcase y hy with ⟨j, hj, hne, rfl⟩ | rfl
    · exact H.owns _ (List.getElem_mem hj)
    · exact hnew
  · rw [List.pairwise_iff_getElem]
    intro a b ha hb hab k
    rw [List.length_set] at ha hb
    have hfresh : ∀ j (hj : j < xs.length), j ≠ i → ∀ k, xs[j].2.ownBlock = some k → nv'.ownBlock ≠ some k := fun j hj hne k e e' => by
      rcases ho k e' with e' | e'
      · exact hother j hj hne k e e'
      · have := (H.each _ (List.getElem_mem hj)).lt e; omega
    by_cases h1 : i = a
    · subst h1
      rw [List.getElem_set_self, List.getElem_set_ne (by omega)]
      exact fun e e' => hfresh b hb (by omega) k e' e
    · rw [List.getElem_set_ne h1]
      by_cases h2 : i = b
      · subst h2
        rw [List.getElem_set_self]
        exact fun e => hfresh a ha (by omega) k e
      · rw [List.getElem_set_ne h2]
        exact List.pairwise_iff_getElem.1 H.apart a b ha hb hab k
  · rcases hcase y hy with ⟨j, hj, hne, rfl⟩ | rfl
    · exact H.i64 _ (List.getElem_mem hj)
    · exact ⟨(H.i64 _ hm).1, hz⟩
theorem PlsO.set (H : PlsO B w v xs) (i : Nat) (hi : i < xs.length) {g cap : Nat} (hv : v = .slice (some ⟨g, 0, none⟩) xs.length cap) {l' : List Int} {nv' : Value} (hB : B ≤ w.heap.size) (hk : Keep (fun k => xs[i].2.ownBlock = some k) w w')
    (hr : Row w' 3 1 nv' l'.length (numsV l')) (ho : ∀ k, nv'.ownBlock = some k → xs[i].2.ownBlock = some k ∨ w.heap.size ≤ k) (hz : ∀ z ∈ l', I64 z) :
    PlsO B (w'.setCell ⟨g, i * 2 + 1, none⟩ nv') v (xs.set i (⟨xs[i].1.chunk, l'⟩, nv')) := by
  have hm := List.getElem_mem hi
  have hvg : v.ownBlock = some g := by rw [hv]; rfl
  have hk2 : Keep (fun k => k = g) w' (w'.setCell ⟨g, i * 2 + 1, none⟩ nv') := by refine Keep.setCell (Keep.refl _ _) (.inl ?_) _; rfl
  have hrow := H.row.keep hk fun k e x => (H.owns _ hm k x).2 e
  refine H.swap i hi hB (hk.next hk2 (fun _ _ x => .inl x) (fun k _ x => .inr (by rw [x]; exact hvg))) ?_ (hr.keep hk2 fun k e x => ?_) ho hz
  · rw [hv] at hrow ⊢
    rw [← plsV_set xs i hi]
    exact hrow.setAny (i * 2 + 1) nv' rfl
  · subst x
    rcases ho k e with e | e
    · exact (H.owns _ hm k e).2 hvg
    · have := H.row.lt hvg; omega
theorem PlsO.turn (H : PlsO B w v xs) (i : Nat) (hi : i < xs.length) {l' : List Int} (hB : B ≤ w.heap.size) (hk : Keep (fun k => xs[i].2.ownBlock = some k) w w') (hr : Row w' 3 1 xs[i].2 l'.length (numsV l')) (hz : ∀ z ∈ l', I64 z) :
    PlsO B w' v (xs.set i (⟨xs[i].1.chunk, l'⟩, xs[i].2)) := by
  refine H.swap i hi hB (hk.mono fun _ _ x => .inl x) ?_ hr (fun k e => .inl e) hz
  rw [← plsV_turn xs i hi]
  exact H.row.keep hk fun k e x => (H.owns _ (List.getElem_mem hi) k x).2 e
end Go.Proofs.Ytmdonjadhkffiaa
/- Heal: where a chunk's place is: slices.IndexFunc at places, and the closure of Apply. Conditions: as each law names them. -/
namespace Go.Proofs.Ytmdonjadhkffiaa
open Go.RowKit
open HE

def idxP (p : Pl → Bool) (l : List Pl) : Int := match l.findIdx? p with | some i => (i : Int) | none => -1
theorem idxP_hit {p : Pl → Bool} {l : List Pl} {k : Nat} (hk : k < l.length) (hp : p l[k] = true) (hn : ∀ j (h : j < l.length), j < k → p l[j] = false) : idxP p l = k := by
  unfold idxP
  rw [List.findIdx?_eq_some_iff_getElem.2 ⟨hk, hp, fun j hj => by rw [hn j (by omega) hj]; simp⟩]
theorem idxP_miss {p : Pl → Bool} {l : List Pl} (hn : ∀ j (h : j < l.length), p l[j] = false) : idxP p l = -1 := by
  unfold idxP
  rw [List.findIdx?_eq_none_iff.2 fun x hx => by
    obtain ⟨j, hj, rfl⟩ := List.getElem_of_mem hx
    exact hn j hj]

set_option maxRecDepth 20000 in
set_option maxHeartbeats 1000000 in
theorem indexP_any (w : World) (v : Value) (l : List Pl) (h : PlsV w v l) (fn : Nat) (caps : Array Value) (p : Pl → Bool)
    (hent : ∀ args w, (callFunc fn args).run Try.prog w = .ok (.enter fn args) w)
    (hcall : ∀ q ∈ l, ∀ a n c wr, Keep (fun _ => False) w wr → Calls Try.prog fn (#[.agg #[.int .i64 q.chunk, .slice a n c]] ++ caps) wr fun e w' => e = .returned (.bool (p q)) ∧ Keep (fun _ => False) wr w') :
    Calls Try.prog 55 #[v, .func (.func fn) #[] caps] w fun e w' => e = .returned (.int .i64 (idxP p l)) ∧ Keep (fun _ => False) w w' := by
  obtain ⟨ao, c, rfl, hm, hc⟩ := h
  obtain ⟨m, hmm⟩ : ∃ m, m = l.length := ⟨_, rfl⟩
  have HC := hid hc
  have HM := hid hmm
  have HCALL := hid hcall
  rw [← hmm] at hm ⊢
  have hm63 : (m : Int) ≤ 9223372036854775807 := by unfold maxLen at hm; omega
  clear hc hmm hcall
  go_enter Try.func55, Try.ntmps55
  go_wp2_with (at_builtin; refine stopAt ?_; intro q hq)
  go_loopw [8] (fun iv wr => ∃ i : Nat, i ≤ m ∧ iv = .int .i64 i ∧ Hid (Keep (fun _ => False) w wr ∧ ∀ j (h : j < l.length), j < i → p l[j] = false)) (fun iv _ => m - (intOf iv).toNat)
  case atStart => exact ⟨0, Nat.zero_le _, rfl, hid ⟨Keep.refl _ _, fun j _ h => by omega⟩⟩
  case round =>
    obtain ⟨i, hi, rfl, HK⟩ := hrel
    by_cases hin : i < m
    · have h4 : (i : Int) < m := by omega
      have hil : i < l.length := by rw [← HM.out]; exact hin
      obtain ⟨ad, rfl, hcell⟩ := HC.out (by omega)
      obtain ⟨nv, g1, g2, g3, -⟩ := hcell i hil
      have a0 := cell_old HK.out.1 _ _ g1
      have a1 := cell_old HK.out.1 _ _ g2
      obtain ⟨an, cn, rfl, -⟩ := g3
      have hcl := HCALL.out l[i] (List.getElem_mem hil) an l[i].nodes.length cn wr HK.out.1
      obtain ⟨x, hx⟩ : ∃ x, x = l[i] := ⟨_, rfl⟩
      rw [← hx] at a0 a1 hcl
      obtain ⟨ch, hch⟩ : ∃ ch, ch = x.chunk := ⟨_, rfl⟩
      obtain ⟨nn, hnn⟩ : ∃ nn, nn = x.nodes.length := ⟨_, rfl⟩
      rw [← hch] at a0 hcl
      rw [← hnn] at a1 hcl
      have HX := hid hx
      have HCL := hid hcl
      clear hcell hx hcl g1 g2 hch hnn
      go_wp2_with (at_builtin; refine stopAt ?_; intro q hq)
      refine HCL.out.mono ?_
      rintro e w1 ⟨rfl, hk1⟩
      have HK1 := hid (HK.out.1.next hk1 (fun _ _ x => x) (fun _ _ x => x))
      obtain ⟨B, hB⟩ : ∃ B, B = p x := ⟨_, rfl⟩
      rw [← hB]
      have HB := hid hB
      clear hk1 hB a0 a1
      cases B with
      | true =>
        go_wp2_with (at_builtin; refine stopAt ?_; intro q hq)
        go_ret
        refine ⟨?_, HK1.out⟩
        rw [idxP_hit hil (by rw [← HX.out, ← HB.out]) HK.out.2]; rfl
      | false =>
        go_wp2_with (at_builtin; refine stopAt ?_; intro q hq)
        exact ⟨⟨i + 1, by omega, by go_num, hid ⟨HK1.out, fun j hj hji => by
          by_cases e : j = i
          · subst e
            rw [← HX.out, ← HB.out]
          · exact HK.out.2 j hj (by omega)⟩⟩, by simp [intOf]; omega⟩
    · have h4 : decide ((i : Int) < m) = false := by simp; omega
      go_wp2_with (at_builtin; refine stopAt ?_; intro q hq)
      go_ret
      exact ⟨by rw [idxP_miss (fun j hj => HK.out.2 j hj (by have := HM.out; omega))]; rfl, HK.out.1⟩

set_option maxRecDepth 20000 in
theorem apply1_any (w : World) (c3 : Nat) (c a b : Int) (n : Int) (v : Value) (hc : w.heap[c3]? = some (.cells #[.int .i64 c, .int .i64 a, .int .i64 b] 52 (0, 0))) :
    Calls Try.prog 56 #[.agg #[.int .i64 n, v], .pointer (some ⟨c3, 0, none⟩)] w fun e w' => e = .returned (.bool (decide (n = c))) ∧ Keep (fun _ => False) w w' := by
  obtain ⟨B, hB⟩ : ∃ B, B = decide (n = c) := ⟨_, rfl⟩
  have t1 : (n == c) = B := by rw [hB]; by_cases h : n = c <;> simp [h]
  rw [← hB]
  have t2 : decide (n = c) = B := hB.symm
  have k0 : w.cell? ⟨c3, 0, none⟩ = some (.int .i64 c) := by simp [World.cell?, hc]
  have hk1 : Keep (fun _ => False) w (w.alloc (.cells #[.int .i64 n, v] 44)) := (Keep.refl _ _).alloc _
  have k1 := cell_old hk1 _ _ k0
  have HK := hid hk1
  clear hB hc hk1
  go_enter Try.func56, Try.ntmps56
  go_wp2_with (at_builtin; refine stopAt ?_; intro q hq)
  go_ret
  exact ⟨by first | rfl | simp [t1, t2] , HK.out⟩
end Go.Proofs.Ytmdonjadhkffiaa
/- Heal: the program's Apply. Conditions: as each law names them. -/
namespace Go.Proofs.Ytmdonjadhkffiaa
open Go.RowKit
open HE

theorem sorted_withN {l : List Int} {t : Int} (h : l.Pairwise (· < ·)) (hn : t ∉ l) : ((l ++ [t]).mergeSort fun x y => decide (x ≤ y)) = withN l t := by
  have hnd : l.Nodup := h.imp fun {a b} h => by omega
  refine rising_unique (mergeSort_rise ?_) ?_ (fun x => ?_)
  · rw [List.nodup_append]
    refine ⟨hnd, by simp, fun a ha b hb => ?_⟩
    rw [List.mem_singleton] at hb
    subst hb
    intro e
    subst e
    exact hn ha
  · unfold withN
    refine List.pairwise_append.2 ⟨h.filter _, List.pairwise_cons.2 ⟨fun x hx => by simpa using (List.mem_filter.1 hx).2, h.filter _⟩, fun x hx y hy => ?_⟩
    have hxt : x < t := by simpa using (List.mem_filter.1 hx).2
    rcases List.mem_cons.1 hy with rfl | hy
    · exact hxt
    · have : t < y := by simpa using (List.mem_filter.1 hy).2
      omega
  · rw [(List.mergeSort_perm _ _).mem_iff, List.mem_append, List.mem_singleton, (withN_perm hn).mem_iff, List.mem_cons]
    exact Or.comm
theorem withN_rises {l : List Int} {t : Int} (h : l.Pairwise (· < ·)) : (withN l t).Pairwise (· < ·) := by
  unfold withN
  refine List.pairwise_append.2 ⟨h.filter _, List.pairwise_cons.2 ⟨fun x hx => by simpa using (List.mem_filter.1 hx).2, h.filter _⟩, fun x hx y hy => ?_⟩
  have hxt : x < t := by simpa using (List.mem_filter.1 hx).2
  rcases List.mem_cons.1 hy with rfl | hy
  · exact hxt
  · have : t < y := by simpa using (List.mem_filter.1 hy).2
    omega
theorem erase_without : ∀ {l : List Int} {i : Nat} (_ : l.Pairwise (· < ·)) (hi : i < l.length), l.eraseIdx i = without l l[i]
  | [], i, _, hi => by simp at hi
  | x :: l, 0, h, _ => by
    have h1 := (List.pairwise_cons.1 h).1
    show l = without (x :: l) x
    unfold without
    rw [List.filter_cons, if_neg (by simp), List.filter_eq_self.2 fun y hy => by have := h1 y hy; simp; omega]
  | x :: l, i + 1, h, hi => by
    have h1 := (List.pairwise_cons.1 h).1
    have hi' : i < l.length := by simpa using hi
    have ih := erase_without (List.pairwise_cons.1 h).2 hi'
    have h2 := h1 l[i] (List.getElem_mem hi')
    show x :: l.eraseIdx i = without (x :: l) l[i]
    rw [ih]
    unfold without
    rw [List.filter_cons, if_pos (by simp; omega)]
theorem idxP_find (c : Int) (l : List Pl) : idxP (fun q => decide (q.chunk = c)) l = match find l c with | some i => (i : Int) | none => -1 := rfl
theorem find_lt {l : List Pl} {c : Int} {i : Nat} (h : find l c = some i) : i < l.length := by
  unfold find at h
  exact (List.findIdx?_eq_some_iff_getElem.1 h).1
theorem move1_none {ps : List Pl} {m : Mv} (h : find ps m.chunk = none ∨ m.src < 0 ∨ m.dst < -1 ∨ 4611686018427387904 ≤ m.dst) : move1 ps m = none := by
  unfold move1
  cases hf : find ps m.chunk with
  | none => rfl
  | some i =>
    rcases h with h | h
    · rw [hf] at h; cases h
    · simp only
      rw [if_pos (by rcases h with h | h | h <;> simp [h])]
theorem move1_some {ps : List Pl} {m : Mv} {i : Nat} (hf : find ps m.chunk = some i) (h1 : ¬ m.src < 0) (h2 : ¬ m.dst < -1) (h3 : ¬ 4611686018427387904 ≤ m.dst) :
    move1 ps m = if m.src ∉ nodesAt ps i ∨ m.dst ∈ nodesAt ps i then none else some (setNodes ps i (if m.dst = -1 then without (nodesAt ps i) m.src else withN (nodesAt ps i) m.dst)) := by
  unfold move1
  rw [hf]
  simp only
  simp only [h1, h2, h3, false_or]
theorem moveAll_step {ps : List Pl} {ms : List Mv} {i : Nat} (hi : i < ms.length) : moveAll ps (ms.drop i) = (move1 ps ms[i]).bind fun ps' => moveAll ps' (ms.drop (i + 1)) := by
  rw [List.drop_eq_getElem_cons hi]
  rfl

theorem cells3i {w : World} {b : Nat} {T : TypeId} {a0 a1 a2 : Value} (H : w.heap[b]? = some (.cells #[a0, a1, a2] T (0, 0))) :
    w.cell? ⟨b, 0, none⟩ = some a0 ∧ w.cell? ⟨b, 1, none⟩ = some a1 ∧ w.cell? ⟨b, 2, none⟩ = some a2 ∧ (∀ o, w.frozen? ⟨b, o, none⟩ = false) ∧ b < w.heap.size := by
  refine ⟨?_, ?_, ?_, ?_, heap_lt H⟩ <;> simp [World.cell?, World.frozen?, H]

theorem mvsV_get : ∀ (l : List Mv) (i : Nat) (hi : i < l.length), (mvsV l)[i * 3]? = some (.int .i64 l[i].chunk) ∧ (mvsV l)[i * 3 + 1]? = some (.int .i64 l[i].src) ∧ (mvsV l)[i * 3 + 2]? = some (.int .i64 l[i].dst)
  | [], i, hi => by simp at hi
  | m :: l, 0, _ => ⟨rfl, rfl, rfl⟩
  | m :: l, i + 1, hi => by
    have h := mvsV_get l i (by simpa using hi)
    have e : mvsV (m :: l) = .int .i64 m.chunk :: .int .i64 m.src :: .int .i64 m.dst :: mvsV l := rfl
    rw [e, show (i + 1) * 3 = i * 3 + 1 + 1 + 1 by omega, show i * 3 + 1 + 1 + 1 + 2 = i * 3 + 2 + 1 + 1 + 1 by omega]
    exact ⟨by simpa using h.1, by simpa using h.2.1, by simpa using h.2.2⟩
theorem MvsV.at {w : World} {ao : Option Addr} {n c : Nat} {l : List Mv} (h : MvsV w (.slice ao n c) l) (i : Nat) (hi : i < l.length) : ∃ ad, ao = some ad ∧ w.cell? (ad.add (i * 3)) = some (.int .i64 l[i].chunk) ∧
    w.cell? { block := (ad.add (i * 3)).block, off := (ad.add (i * 3)).off + 1 } = some (.int .i64 l[i].src) ∧ w.cell? { block := (ad.add (i * 3)).block, off := (ad.add (i * 3)).off + 2 } = some (.int .i64 l[i].dst) := by
  obtain ⟨ao', c', hv, -, -, hc⟩ := h
  cases hv
  obtain ⟨ad, rfl, hcell⟩ := hc.2 (by omega)
  obtain ⟨h1, h2, h3⟩ := mvsV_get l i hi
  refine ⟨ad, rfl, hcell _ _ h1, ?_, ?_⟩
  · rw [← add_pos _ 1 (by omega), Go.Deep.add_add]; exact hcell _ _ h2
  · rw [← add_pos _ 2 (by omega), Go.Deep.add_add]; exact hcell _ _ h3

def ApplyPost (w : World) (ps : List Pl) (ms : List Mv) (e : Ending) (w' : World) : Prop :=
  Keep (fun _ => False) w w' ∧
  ((apply ps ms = none ∧ e = .returned (.tuple #[.slice none 0 0, .int .i64 160])) ∨
   (∃ v xs, apply ps ms = some (xs.map (·.1)) ∧ e = .returned (.tuple #[v, .int .i64 0]) ∧ PlsO w.heap.size w' v xs))

structure ApplyIn (w0 w : World) (ps : List Pl) (ms : List Mv) (i : Nat) (v : Value) (xs : List (Pl × Value)) : Prop where
  own : PlsO w0.heap.size w v xs
  keep : Keep (fun _ => False) w0 w
  tot : apply ps ms = moveAll (xs.map (·.1)) (ms.drop i)
  rise : ∀ x ∈ xs, x.1.nodes.Pairwise (· < ·) ∧ x.1.nodes.length ≤ 100000 + i
theorem ApplyIn.later {w0 w w' : World} {ps : List Pl} {ms : List Mv} {i : Nat} {v : Value} {xs : List (Pl × Value)} (h : ApplyIn w0 w ps ms i v xs) (hk : Keep (fun _ => False) w w') : ApplyIn w0 w' ps ms i v xs :=
  ⟨h.own.later hk, h.keep.next hk (fun _ _ x => x) (fun _ _ x => x), h.tot, h.rise⟩

theorem map_set_fst (ys : List (Pl × Value)) (k : Nat) (hk : k < ys.length) (l : List Int) (u : Value) : (ys.set k (⟨ys[k].1.chunk, l⟩, u)).map (·.1) = setNodes (ys.map (·.1)) k l := by
  unfold setNodes
  rw [List.map_set]
  simp [hk]
theorem ApplyIn.step {w0 w w' : World} {ps : List Pl} {ms : List Mv} {j : Nat} {v : Value} {ys : List (Pl × Value)} (H : ApplyIn w0 w ps ms j v ys) (k : Nat) (hk : k < ys.length) {l' : List Int} {nv' : Value}
    (hown : PlsO w0.heap.size w' v (ys.set k (⟨ys[k].1.chunk, l'⟩, nv'))) (hkeep : Keep (fun _ => False) w0 w') (htot : apply ps ms = moveAll (setNodes (ys.map (·.1)) k l') (ms.drop (j + 1))) (hr : l'.Pairwise (· < ·)) (hl : l'.length ≤ 100000 + (j + 1)) :
    ApplyIn w0 w' ps ms (j + 1) v (ys.set k (⟨ys[k].1.chunk, l'⟩, nv')) := by
  refine ⟨hown, hkeep, by rw [map_set_fst ys k hk]; exact htot, fun x hx => ?_⟩
  rcases List.mem_or_eq_of_mem_set hx with hx | rfl
  · have := H.rise x hx
    exact ⟨this.1, by omega⟩
  · exact ⟨hr, hl⟩

set_option maxHeartbeats 4000000 in
set_option maxRecDepth 20000 in
theorem apply_any (w : World) (u v : Value) (ps : List Pl) (ms : List Mv) (hp : PlsV w u ps) (hm : MvsV w v ms) (hsm : ps.length ≤ 100000 ∧ (∀ p ∈ ps, p.nodes.length ≤ 100000) ∧ ms.length ≤ 100000) :
    Calls Try.prog 21 #[u, v] w (ApplyPost w ps ms) := by
  obtain ⟨Post, hPost⟩ : ∃ Post, Post = ApplyPost w ps ms := ⟨_, rfl⟩
  rw [← hPost]
  have HPost := hid hPost
  have HFm := hid (formed_any w u ps 4611686018427387904 hp (by unfold I64; omega))
  have HPV := hid hp
  have HMV := hid hm
  have HS := hid hsm
  obtain ⟨aP, cP, rfl, hmP, hcP⟩ := hp
  obtain ⟨aM, cM, rfl, hmM, -, -⟩ := hm
  obtain ⟨n, hn⟩ : ∃ n, n = ps.length := ⟨_, rfl⟩
  obtain ⟨m, hmm⟩ : ∃ m, m = ms.length := ⟨_, rfl⟩
  rw [← hn] at HFm HPV hmP ⊢
  rw [← hmm] at HMV hmM ⊢
  have HN := hid (And.intro hn hmm)
  have HC := hid hcP
  have hn63 : (n : Int) ≤ 9223372036854775807 := by unfold maxLen at hmP; omega
  have hm63 : (m : Int) ≤ 9223372036854775807 := by unfold maxLen at hmM; omega
  obtain ⟨G, hG⟩ : ∃ G, G = formed ps 4611686018427387904 := ⟨_, rfl⟩
  rw [← hG] at HFm
  have HG := hid hG
  clear hPost hsm hn hmm hcP hG
  go_enter Try.func21, Try.ntmps21
  go_wp2_with (at_builtin; refine stopAt ?_; intro q hq)
  refine HFm.out.mono ?_
  rintro e w1 ⟨rfl, hk1⟩
  have HK1 := hid hk1
  clear hk1
  cases G with
  | false =>
    go_wp2_with (at_builtin; refine stopAt ?_; intro q hq)
    rw [HPost.out]
    exact ⟨HK1.out, .inl ⟨by unfold apply; rw [← HG.out]; rfl, rfl⟩⟩
  | true =>
    go_wp2_with (at_builtin; refine stopAt ?_; intro q hq)
    go_loopw [6, 19] (fun ov iv wr => ∃ (i : Nat) (xs : List (Pl × Value)) (ow : Value), i ≤ n ∧ iv = .int .i64 i ∧ ow = ov ∧ Hid (PlsO w.heap.size wr ow xs ∧ xs.map (·.1) = ps.take i ∧ Keep (fun _ => False) w wr)) (fun _ iv _ => n - (intOf iv).toNat)
    case atStart => exact ⟨0, [], _, Nat.zero_le _, rfl, rfl, hid ⟨PlsO.nil _ _, rfl, HK1.out⟩⟩
    case round =>
      obtain ⟨i, xs, ov, hi, rfl, rfl, HR⟩ := hrel
      by_cases hin : i < n
      · have h4 : (i : Int) < n := by omega
        have hil : i < ps.length := by have := HN.out.1; omega
        obtain ⟨ad, rfl, hcell⟩ := HC.out (by omega)
        obtain ⟨nv, g1, g2, g3, g4⟩ := hcell i hil
        have a0 := cell_old HR.out.2.2 _ _ g1
        have a1 := cell_old HR.out.2.2 _ _ g2
        have HGv := hid (g3.keep HR.out.2.2)
        obtain ⟨nl, hnl⟩ : ∃ nl, nl = ps[i].nodes := ⟨_, rfl⟩
        obtain ⟨ch, hch⟩ : ∃ ch, ch = ps[i].chunk := ⟨_, rfl⟩
        rw [← hnl] at HGv
        rw [← hch] at a0 g4
        have HNL := hid (And.intro hnl (And.intro hch g4))
        have hnn : nl.length ≤ 100000 := by rw [hnl]; exact HS.out.2.1 _ (List.getElem_mem hil)
        obtain ⟨an, cn, hnv, hnm, hnz, hnc⟩ := HGv.out
        subst hnv
        have HNZ := hid hnz
        clear hcell g1 g2 g3 g4 hnl hch hnz hnc
        have hk2 : Keep (fun _ => False) wr (wr.alloc (.cells #[.int .i64 ch, .slice an nl.length cn] 44)) := (Keep.refl _ _).alloc _
        have hn2 := heap_alloc_new wr (.cells #[.int .i64 ch, .slice an nl.length cn] 44)
        go_upto_region 7 with fail
        obtain ⟨gp, hgp⟩ : ∃ gp, gp = wr.heap.size := ⟨_, rfl⟩
        obtain ⟨w2, hw2⟩ : ∃ w2, w2 = wr.alloc (.cells #[.int .i64 ch, .slice an nl.length cn] 44) := ⟨_, rfl⟩
        rw [← hw2] at hk2
        rw [← hw2, ← hgp] at hn2
        rw [← hw2, ← hgp]
        have H2 := hid (And.intro hn2 (And.intro hk2 hgp))
        clear hw2 hgp a0 a1
        obtain ⟨k0, k1, kf, kb⟩ := cells2' hn2
        clear hn2 hk2
        obtain ⟨av, cv, rfl, -⟩ := HR.out.1.row.form
        refine wp_region_canon [28] (by kernel_rfl) (by kernel_rfl) ?_
        have h23 : Keep (fun _ => False) w2 w2.drew := (Keep.refl _ _).drew
        obtain ⟨w3, hw3⟩ : ∃ w3, w3 = w2.drew := ⟨_, rfl⟩
        rw [← hw3] at h23 ⊢
        clear hw3
        have k0 := cell_old h23 _ _ k0
        have k1 := cell_old h23 _ _ k1
        have H23 := hid h23
        clear h23
        repeat (first | (apply wpC_pure (by rfl); (intro K w'; go_simp; exact id)) | (apply wpC_load (by rfl); (intro K; go_simp; exact id)))
        refine wpC_new (by rfl) (by rfl) (fun K hK => ?_)
        go_simp
        refine (iclone_any w3 _ nl ((HGv.out.keep H2.out.2.1).keep H23.out) (by omega)).mono ?_
        rintro e w4 ⟨v4, rfl, ho4, hk4⟩
        refine hK _ _ (Pre.of_keep hk4) ?_
        clear hK K
        obtain ⟨a4, c4, rfl, -⟩ := ho4.1.form
        obtain ⟨L, hL⟩ : ∃ L, L = nl.length := ⟨_, rfl⟩
        rw [← hL] at ho4 ⊢
        have hk34 : Keep (fun _ => False) wr w4 := by
          exact (H2.out.2.1.next H23.out (fun _ _ x => x) (fun _ _ x => x)).next hk4 (fun _ _ x => x) (fun _ _ x => x)
        have hs3 : wr.heap.size ≤ w3.heap.size := by
          exact (H2.out.2.1.next H23.out (fun _ _ x => x) (fun _ _ x => x)).size
        have H4 := hid (And.intro ho4 (And.intro hk34 (And.intro hs3 hL)))
        clear ho4 hk4 hk34 hs3 hL k0 k1 kf kb
        repeat (first | (apply wpC_pure (by rfl); (intro K w'; go_simp; exact id)) | (apply wpC_load (by rfl); (intro K; go_simp; exact id)))
        (refine wpC_new (by rfl) (by rfl) (fun K hK => ?_); go_simp; refine hK _ _ (Pre.push _ rfl) ?_; clear hK K)
        have hk5 : Keep (fun _ => False) w4 (w4.alloc (.cells #[.int .i64 ch, .slice a4 L c4] 44)) := (Keep.refl _ _).alloc _
        have hn5 := heap_alloc_new w4 (.cells #[.int .i64 ch, .slice a4 L c4] 44)
        obtain ⟨w5, hw5⟩ : ∃ w5, w5 = w4.alloc (.cells #[.int .i64 ch, .slice a4 L c4] 44) := ⟨_, rfl⟩
        rw [← hw5] at hk5 hn5 ⊢
        clear hw5
        have hxl : xs.length = i := by
          have := congrArg List.length HR.out.2.1
          rw [List.length_map, List.length_take] at this
          omega
        have ho5 := HR.out.1.later (H4.out.2.1.next hk5 (fun _ _ x => x) (fun _ _ x => x))
        refine wpC_act (by rfl) (by rfl) (fun K hK => ?_)
        refine wp_append ty_places (.tmp 23) (.tmp 30) rfl rfl ho5.row (some ⟨w4.heap.size, 0, none⟩) 1 1 (plV (⟨ch, nl⟩, .slice a4 L c4)) rfl
          ⟨rfl, fun _ => ⟨_, rfl, fun t u hu => by rw [addr_add, Nat.zero_add, cell_of_row _ _ _ _ _ _ hn5]; simpa [plV] using hu⟩⟩ (plV_one rfl) (by have := HS.out.1; unfold maxLen; omega) (by have := HS.out.1; omega) ?_
        intro v6 w6 hr6 hk6 hv6
        refine hK _ _ ?_
        clear hK K
        have hsz0 := HR.out.2.2.size
        have hsz5 := H4.out.2.1.size
        have hsz6 := hk5.size
        have hown : PlsO w.heap.size w6 v6 (xs ++ [(⟨ch, nl⟩, .slice a4 L c4)]) := ho5.push (by omega) hr6 hk6 hv6 (by
            have h := H4.out.1.1.keep hk5 (fun _ _ x => x)
            rw [H4.out.2.2.2] at h ⊢
            exact h) (fun k e => by
            have h1 := H4.out.1.2.1 k e
            have h2 := H4.out.2.2.1
            exact ⟨by omega, fun e' => by have := HR.out.1.row.lt e'; omega, fun y hy e' => by have := (HR.out.1.each y hy).lt e'; omega⟩) ⟨HNL.out.2.2, HNZ.out⟩
        have hkeep : Keep (fun _ => False) w w6 := by
          refine ((HR.out.2.2.next H4.out.2.1 (fun _ _ x => x) (fun _ _ x => x)).next hk5 (fun _ _ x => x) (fun _ _ x => x)).next hk6 (fun _ _ x => x) (fun k hk x => ?_)
          have := HR.out.1.own k x
          omega
        have htk : (xs ++ [((⟨ch, nl⟩ : Pl), Value.slice a4 L c4)]).map (·.1) = ps.take (i + 1) := by
          rw [List.map_append, HR.out.2.1, List.take_add_one, List.getElem?_eq_getElem hil, HNL.out.1, HNL.out.2.1]
          rfl
        have HO := hid (And.intro hown (And.intro htk hkeep))
        clear hr6 hk6 hv6 hown htk hkeep hsz0 hsz5 hsz6 ho5 hk5 hn5 hxl
        repeat (first | (apply wpC_pure (by rfl); (intro K w'; go_simp; exact id)) | (apply wpC_load (by rfl); (intro K; go_simp; exact id)))
        refine wpC_nil ?_
        go_wp2_with (at_builtin; refine stopAt ?_; intro q hq)
        exact ⟨⟨i + 1, _, _, by omega, by go_num, rfl, HO⟩, by simp [intOf]; omega⟩
      · have h4 : decide ((i : Int) < n) = false := by simp; omega
        have h0 : ApplyIn w wr ps ms 0 ov xs := by
          refine ⟨HR.out.1, HR.out.2.2, ?_, fun x hx => ?_⟩
          · unfold apply
            rw [← HG.out, if_pos rfl, HR.out.2.1, List.take_of_length_le (by have := HN.out.1; omega)]
            rfl
          · have hx' : x.1 ∈ xs.map (·.1) := List.mem_map_of_mem hx
            rw [HR.out.2.1] at hx'
            have hx'' := List.mem_of_mem_take hx'
            have hf := HG.out
            unfold formed at hf
            have hf2 := Bool.and_eq_true_iff.1 hf.symm
            exact ⟨(formedFrom_wf (hi := 4611686018427387904) ps (-1) hf2.2 _ hx'').1.1, HS.out.2.1 _ hx''⟩
        have H0 := hid h0
        clear h0
        obtain ⟨av, cv, rfl, -⟩ := HR.out.1.row.form
        obtain ⟨X, hX⟩ : ∃ X, X = xs.length := ⟨_, rfl⟩
        have HX0 := hid hX.symm
        rw [← hX] at H0 ⊢
        clear hX HR
        go_wp2_with (at_builtin; refine stopAt ?_; intro q hq)
        go_loopw [35] (fun jv wy => ∃ (j : Nat) (ys : List (Pl × Value)), j ≤ m ∧ jv = .int .i64 j ∧ Hid (ys.length = X ∧ ApplyIn w wy ps ms j (.slice av X cv) ys)) (fun jv _ => m - (intOf jv).toNat)
        case atStart => exact ⟨0, xs, Nat.zero_le _, rfl, hid ⟨HX0.out, H0.out⟩⟩
        case round =>
          obtain ⟨j, ys, hj, rfl, HY⟩ := hrel
          by_cases hjn : j < m
          · have h5 : (j : Int) < m := by omega
            have hjl : j < ms.length := by have := HN.out.2; omega
            obtain ⟨ad, rfl, g0, g1, g2⟩ := HMV.out.at j hjl
            have a0 := cell_old HY.out.2.keep _ _ g0
            have a1 := cell_old HY.out.2.keep _ _ g1
            have a2 := cell_old HY.out.2.keep _ _ g2
            have hI : I64 ms[j].chunk ∧ I64 ms[j].src ∧ I64 ms[j].dst := by
              obtain ⟨_, _, _, _, h, _⟩ := HMV.out
              exact h _ (List.getElem_mem hjl)
            obtain ⟨mc, hmc⟩ : ∃ x, x = ms[j].chunk := ⟨_, rfl⟩
            obtain ⟨mf, hmf⟩ : ∃ x, x = ms[j].src := ⟨_, rfl⟩
            obtain ⟨mt, hmt⟩ : ∃ x, x = ms[j].dst := ⟨_, rfl⟩
            rw [← hmc] at a0
            rw [← hmf] at a1
            rw [← hmt] at a2
            have hmv : ms[j] = ⟨mc, mf, mt⟩ := by rw [hmc, hmf, hmt]
            have hstep := moveAll_step (ps := ys.map (·.1)) hjl
            rw [hmv] at hstep hI
            have HST := hid (And.intro hstep hI)
            clear g0 g1 g2 hmc hmf hmt hmv hstep hI
            have hk2 : Keep (fun _ => False) wr (wr.alloc (.cells #[.int .i64 mc, .int .i64 mf, .int .i64 mt] 52)) := (Keep.refl _ _).alloc _
            have hn2 := heap_alloc_new wr (.cells #[.int .i64 mc, .int .i64 mf, .int .i64 mt] 52)
            go_upto_region 12 with fail
            obtain ⟨c3, hc3⟩ : ∃ c3, c3 = wr.heap.size := ⟨_, rfl⟩
            obtain ⟨w2, hw2⟩ : ∃ w2, w2 = wr.alloc (.cells #[.int .i64 mc, .int .i64 mf, .int .i64 mt] 52) := ⟨_, rfl⟩
            rw [← hw2] at hk2
            rw [← hw2, ← hc3] at hn2
            rw [← hw2, ← hc3]
            have hy2 := HY.out.2.later hk2
            have hq := indexP_any w2 _ (ys.map (·.1)) hy2.own.pls 56 #[.pointer (some ⟨c3, 0, none⟩)] (fun q => decide (q.chunk = mc)) (enters_of Try.func56 (by kernel_rfl) rfl)
              (fun q hq a n c w5 hk5 => apply1_any w5 c3 mc mf mt q.chunk _ (hk5.get hn2 id))
            rw [idxP_find] at hq
            have HQ := hid hq
            have H2 := hid (And.intro hn2 (And.intro hc3 hy2))
            clear hw2 hc3 hk2 hn2 a0 a1 a2 hy2 hq
            go_wp2_with (at_builtin; refine stopAt ?_; intro q hq)
            refine HQ.out.mono ?_
            rintro e w3 ⟨rfl, hk3⟩
            have hn3 := hk3.get H2.out.1 id
            have hy3 := H2.out.2.2.later hk3
            have H3 := hid (And.intro hn3 hy3)
            obtain ⟨k0, k1, k2, kf, kb⟩ := cells3i hn3
            clear hk3 hn3 hy3
            have hbad : Hid (move1 (ys.map (·.1)) ⟨mc, mf, mt⟩ = none → apply ps ms = none) := hid fun h => by
              rw [H3.out.2.tot, HST.out.1, h]; rfl
            cases hf : find (ys.map (·.1)) mc with
            | none =>
              have HE1 := hid (hbad.out (move1_none (.inl hf)))
              clear hf
              dsimp only
              have t1 : decide ((-1 : Int) < 0) = true := by decide
              go_wp2_with (at_builtin; refine stopAt ?_; intro q hq)
              rw [HPost.out]
              exact ⟨H3.out.2.keep, .inl ⟨HE1.out, rfl⟩⟩
            | some k =>
              have hkl := find_lt hf
              rw [List.length_map] at hkl
              have Hf := hid hf
              clear hf
              dsimp only
              have t1 : decide ((k : Int) < 0) = false := by simp
              by_cases b1 : mf < 0
              · have HE1 := hid (hbad.out (move1_none (.inr (.inl b1))))
                have t2 : decide (mf < 0) = true := by simpa using b1
                clear b1
                go_wp2_with (at_builtin; refine stopAt ?_; intro q hq)
                rw [HPost.out]
                exact ⟨H3.out.2.keep, .inl ⟨HE1.out, rfl⟩⟩
              have t2 : decide (mf < 0) = false := by simpa using b1
              by_cases b2 : mt < -1
              · have HE1 := hid (hbad.out (move1_none (.inr (.inr (.inl b2)))))
                have t3 : decide (mt < -1) = true := by simpa using b2
                clear b1 b2
                go_wp2_with (at_builtin; refine stopAt ?_; intro q hq)
                rw [HPost.out]
                exact ⟨H3.out.2.keep, .inl ⟨HE1.out, rfl⟩⟩
              have t3 : decide (mt < -1) = false := by simpa using b2
              by_cases b3 : 4611686018427387904 ≤ mt
              · have HE1 := hid (hbad.out (move1_none (.inr (.inr (.inr b3)))))
                have t4 : decide (4611686018427387904 ≤ mt) = true := by simpa using b3
                clear b1 b2 b3
                go_wp2_with (at_builtin; refine stopAt ?_; intro q hq)
                rw [HPost.out]
                exact ⟨H3.out.2.keep, .inl ⟨HE1.out, rfl⟩⟩
              have t4 : decide (4611686018427387904 ≤ mt) = false := by simpa using b3
              have HMS := hid (move1_some (m := ⟨mc, mf, mt⟩) Hf.out b1 b2 b3)
              have HB := hid (And.intro b1 (And.intro b2 b3))
              clear b1 b2 b3
              have hkX : (k : Int) < X := by have := HY.out.1; omega
              obtain ⟨g, cap, hvg, p0, p1, p2⟩ := H3.out.2.own.at k hkl
              have hvg' : av = some ⟨g, 0, none⟩ := by injection hvg
              subst hvg'
              have hnode : nodesAt (ys.map (·.1)) k = ys[k].1.nodes := by unfold nodesAt; simp [hkl]
              have hrow := H3.out.2.own.each _ (List.getElem_mem hkl)
              have hri := H3.out.2.rise _ (List.getElem_mem hkl)
              have hiz := (H3.out.2.own.i64 _ (List.getElem_mem hkl)).2
              obtain ⟨nl, hnl⟩ : ∃ nl, nl = ys[k].1.nodes := ⟨_, rfl⟩
              obtain ⟨nv, hnv⟩ : ∃ nv, nv = ys[k].2 := ⟨_, rfl⟩
              rw [← hnl] at hrow hri hiz hnode
              rw [← hnv] at p1 hrow
              rw [hnode] at HMS
              obtain ⟨an, cn, rfl, -⟩ := hrow.form
              have HNd := hid (And.intro hrow (And.intro hri (And.intro hiz (And.intro hnl (And.intro hnv hnode)))))
              have hints : IntsV w3 (.slice an nl.length cn) nl := IntsV.of_row hrow hiz
              have HIx := hid (fun x : Later w3 => index_any x.val _ nl mf (hints.keep x.keep))
              have HIn := hid hints
              obtain ⟨R, hR⟩ : ∃ R, R = idx (fun x => decide (x = mf)) nl := ⟨_, rfl⟩
              rw [← hR] at HIx
              have HR := hid hR
              obtain ⟨T, hT⟩ : ∃ T, T = decide (mt ∈ nl) := ⟨_, rfl⟩
              have HT := hid hT
              have q1 := fun x : Later w3 => x.cell p1
              have z1 := fun x : Later w3 => x.cell k1
              clear hvg p0 hnode hrow hri hiz hnl hnv hints hR hT
              go_upto_region 16 with fail
              (refine wp_region_later (by kernel_rfl) (by kernel_rfl) ?_; (repeat (go_big_quiet_step ((first | (go_at_call 57; exact Later.call (HIx.out _)))))); refine wpQuiet_nil ?_; rintro _ ⟨sq, rfl⟩)
              obtain ⟨w4, hw4, HK4⟩ : ∃ w4, w4 = sq.val ∧ Hid (Keep (fun _ => False) w3 w4) := ⟨_, rfl, hid sq.keep⟩
              rw [← hw4]
              clear hw4 q1 z1 HIx sq
              have H4 := hid (H3.out.2.later HK4.out)
              have HCt := hid (fun x : Later w4 => contains_any x.val _ nl mt ((HIn.out.keep HK4.out).keep x.keep))
              rw [← HT.out] at HCt
              have p1 := cell_old HK4.out _ _ p1
              have k2 := cell_old HK4.out _ _ k2
              have q1 := fun x : Later w4 => x.cell p1
              have z2 := fun x : Later w4 => x.cell k2
              clear k0 k1 kf kb
              go_upto_region 17 with fail
              by_cases hin : mf ∈ nl
              · obtain ⟨jx, hjx, e1, e2, -⟩ := idx_spec (p := fun x => decide (x = mf)) (l := nl) (by rw [any_mem]; simpa using hin)
                rw [← HR.out] at e1
                have e2 : nl[jx] = mf := by simpa using e2
                subst e1
                have t5 : decide ((jx : Int) < 0) = false := by simp
                have HJ := hid (And.intro hin e2)
                clear hin e2
                (refine wp_region_later (by kernel_rfl) (by kernel_rfl) ?_; (repeat (go_big_quiet_step ((first | (go_at_call 58; exact Later.call (HCt.out _)))))); refine wpQuiet_nil ?_; rintro _ ⟨sq, rfl⟩)
                obtain ⟨w5, hw5, HK5⟩ : ∃ w5, w5 = sq.val ∧ Hid (Keep (fun _ => False) w4 w5) := ⟨_, rfl, hid sq.keep⟩
                rw [← hw5]
                clear hw5 q1 z2 HCt sq
                have H5 := hid (H4.out.later HK5.out)
                have p1 := cell_old HK5.out _ _ p1
                have k2 := cell_old HK5.out _ _ k2
                cases T with
                | true =>
                  have HE1 := hid (hbad.out (by rw [HMS.out, if_pos (.inr (by simpa using HT.out.symm))]))
                  go_wp2_with (at_builtin; refine stopAt ?_; intro q hq)
                  rw [HPost.out]
                  exact ⟨H5.out.keep, .inl ⟨HE1.out, rfl⟩⟩
                | false =>
                  have hnt : mt ∉ nl := by simpa using HT.out.symm
                  have HM1 := hid (show move1 (ys.map (·.1)) ⟨mc, mf, mt⟩ = some (setNodes (ys.map (·.1)) k (if mt = -1 then without nl mf else withN nl mt)) by
                    rw [HMS.out, if_neg (by simp only [not_or, Decidable.not_not]; exact ⟨HJ.out.1, hnt⟩)])
                  have HNt := hid hnt
                  clear hnt
                  have hrow5 := (HNd.out.1.keep HK4.out (fun _ _ x => x)).keep HK5.out (fun _ _ x => x)
                  have hB5 : w.heap.size ≤ w5.heap.size := H5.out.keep.size
                  have hsz3 : nl.length ≤ 100000 + j := HNd.out.2.1.2
                  have hj10 : j ≤ 100000 := by have := HS.out.2.2; omega
                  have p2' : w5.frozen? ⟨g, k * 2 + 1, none⟩ = false := by
                    obtain ⟨g', cap', he, -, -, h3⟩ := H5.out.own.at k hkl
                    cases he
                    exact h3
                  have HR5 := hid (And.intro hrow5 (And.intro hB5 hsz3))
                  clear hrow5 hB5 p2 hsz3
                  by_cases hm0 : mt < 0
                  · have t6 : decide (mt < 0) = true := by simpa using hm0
                    have hmt1 : mt = -1 := by have := HB.out.2.1; omega
                    have Hmt := hid hmt1
                    clear hm0 hmt1
                    have wq : IntKind.i64.wrap ((jx : Int) + 1) = (jx : Int) + 1 := by have := HR5.out.2.2; simp [IntKind.wrap, IntKind.signed, IntKind.bits]; omega
                    have HD := hid (delete1_ints w5 (.slice an nl.length cn) nl jx HR5.out.1 hjx)
                    go_wp2_with (at_builtin; refine stopAt ?_; intro q hq)
                    refine HD.out.mono ?_
                    rintro e w6 ⟨g6, cap6, hv6, rfl, hr6, hk6⟩
                    obtain ⟨L6, hL6⟩ : ∃ L6, L6 = nl.length - 1 := ⟨_, rfl⟩
                    rw [← hL6] at hr6 ⊢
                    have hle : (nl.eraseIdx jx).length = L6 := by rw [List.length_eraseIdx, if_pos hjx, hL6]
                    have hkv : Keep (fun k' => (ys[k]).2.ownBlock = some k') w5 w6 := by rw [← HNd.out.2.2.2.2.1]; exact hk6
                    have hset := H5.out.own.set k hkl (g := g) (cap := cv) (by rw [HY.out.1]) (nv' := .slice (some ⟨g6, 0, none⟩) L6 cap6) (l' := nl.eraseIdx jx) HR5.out.2.1 hkv (by rw [hle]; exact hr6) (fun k' e => .inl (by
                      rw [← HNd.out.2.2.2.2.1, hv6]
                      simpa [Value.ownBlock] using e)) (fun z hz => HNd.out.2.2.1 z (List.mem_of_mem_eraseIdx hz))
                    have hkeep6 : Keep (fun _ => False) w (w6.setCell ⟨g, k * 2 + 1, none⟩ (.slice (some ⟨g6, 0, none⟩) L6 cap6)) := by
                      refine (H5.out.keep.next hkv (fun _ _ x => x) (fun q hq x => ?_)).setCell (.inr (H5.out.own.own g rfl)) _
                      have := (H5.out.own.owns _ (List.getElem_mem hkl) q x).1
                      omega
                    have hgk : (ys[k]).2.ownBlock ≠ some g := fun e => (H5.out.own.owns _ (List.getElem_mem hkl) g e).2 rfl
                    have p6 := p1
                    rw [← World.cell?_of_block (hkv.block _ (World.block_lt_of_cell? _ _ p1) hgk)] at p6
                    have p7 : w6.frozen? ⟨g, k * 2 + 1, none⟩ = false := by
                      obtain ⟨g', cap', he, -, -, h3⟩ := H5.out.own.at k hkl
                      cases he
                      have hro := H5.out.own.row.keep hkv (fun q e x => (H5.out.own.owns _ (List.getElem_mem hkl) q x).2 e)
                      exact hro.frozen (k * 2 + 1) (by omega)
                    have hfin := H5.out.step k hkl hset hkeep6 (by
                      rw [H5.out.tot, HST.out.1, HM1.out, if_pos Hmt.out, erase_without HNd.out.2.1.1 hjx, HJ.out.2]; rfl) (HNd.out.2.1.1.sublist (List.eraseIdx_sublist _ _)) (by rw [hle]; have := HR5.out.2.2; omega)
                    have HFin := hid (And.intro (show (ys.set k (⟨ys[k].1.chunk, nl.eraseIdx jx⟩, .slice (some ⟨g6, 0, none⟩) L6 cap6)).length = X by rw [List.length_set]; exact HY.out.1) hfin)
                    clear hr6 hk6 hv6 hL6 hle hkv hset hkeep6 hgk hfin p1 p2' k2
                    go_wp2_with (at_builtin; refine stopAt ?_; intro q hq)
                    exact ⟨⟨j + 1, _, by omega, by go_num, HFin⟩, by simp [intOf]; omega⟩
                  · have t6 : decide (mt < 0) = false := by simpa using hm0
                    have Hmt := hid hm0
                    clear hm0
                    go_upto_region 21 with fail
                    refine wp_region_canon [] (by kernel_rfl) (by kernel_rfl) ?_
                    have h56 : Keep (fun _ => False) w5 w5.drew := (Keep.refl _ _).drew
                    obtain ⟨w6, hw6⟩ : ∃ w6, w6 = w5.drew := ⟨_, rfl⟩
                    rw [← hw6] at h56 ⊢
                    clear hw6
                    have p1 := cell_old h56 _ _ p1
                    have k2 := cell_old h56 _ _ k2
                    have H56 := hid h56
                    clear h56 p2'
                    repeat (first | (apply wpC_pure (by rfl); (intro K w'; go_simp; exact id)) | (apply wpC_load (by rfl); (intro K; go_simp; exact id)))
                    (refine wpC_new (by rfl) (by rfl) (fun K hK => ?_); go_simp; refine hK _ _ (Pre.push _ rfl) ?_; clear hK K)
                    have hk7 : Keep (fun _ => False) w6 (w6.alloc (.cells #[.int .i64 mt] 3)) := (Keep.refl _ _).alloc _
                    have hn7 := heap_alloc_new w6 (.cells #[.int .i64 mt] 3)
                    obtain ⟨w7, hw7⟩ : ∃ w7, w7 = w6.alloc (.cells #[.int .i64 mt] 3) := ⟨_, rfl⟩
                    rw [← hw7] at hk7 hn7 ⊢
                    clear hw7 k2
                    have p1 := cell_old hk7 _ _ p1
                    have H7 := hid (H5.out.later (H56.out.next hk7 (fun _ _ x => x) (fun _ _ x => x)))
                    have hrow7 := (HR5.out.1.keep H56.out (fun _ _ x => x)).keep hk7 (fun _ _ x => x)
                    refine wpC_act (by rfl) (by rfl) (fun K hK => ?_)
                    refine wp_append ty_nums (.tmp 98) (.tmp 101) rfl rfl hrow7 (some ⟨w6.heap.size, 0, none⟩) 1 1 [.int .i64 mt] (by rfl)
                      ⟨rfl, fun _ => ⟨_, rfl, fun t u hu => by rw [addr_add, Nat.zero_add, cell_of_row _ _ _ _ _ _ hn7]; simpa using hu⟩⟩ (numsV_one [mt]) (by have := HR5.out.2.2; unfold maxLen; omega) (by have := HR5.out.2.2; omega) ?_
                    intro v8 w8 hr8 hk8 hv8
                    refine hK _ _ ?_
                    clear hK K
                    obtain ⟨a8, c8, rfl, -⟩ := hr8.form
                    have hkv : Keep (fun k' => (ys[k]).2.ownBlock = some k') w7 w8 := by rw [← HNd.out.2.2.2.2.1]; exact hk8
                    have hB7 : w.heap.size ≤ w7.heap.size := H7.out.keep.size
                    have hrz : IntsV w (.slice none 0 0) [] := ⟨none, 0, rfl, Nat.zero_le _, by simp, fun h => absurd h (by simp)⟩
                    have hmtI : I64 mt := HST.out.2.2.2
                    have hset := H7.out.own.set k hkl (g := g) (cap := cv) (by rw [HY.out.1]) (nv' := .slice a8 (nl.length + 1) c8) (l' := nl ++ [mt]) hB7 hkv (by rw [List.length_append, List.length_singleton]; simpa [numsV] using hr8)
                      (fun k' e => by rw [← HNd.out.2.2.2.2.1]; exact own_of hv8 k' e) (fun z hz => by
                        rcases List.mem_append.1 hz with hz | hz
                        · exact HNd.out.2.2.1 z hz
                        · rw [List.mem_singleton] at hz; rw [hz]; exact hmtI)
                    have hkeep9 : Keep (fun _ => False) w (w8.setCell ⟨g, k * 2 + 1, none⟩ (.slice a8 (nl.length + 1) c8)) := by
                      refine (H7.out.keep.next hkv (fun _ _ x => x) (fun q hq x => ?_)).setCell (.inr (H7.out.own.own g rfl)) _
                      have := (H7.out.own.owns _ (List.getElem_mem hkl) q x).1
                      omega
                    have hgk : (ys[k]).2.ownBlock ≠ some g := fun e => (H5.out.own.owns _ (List.getElem_mem hkl) g e).2 rfl
                    have p8 := p1
                    rw [← World.cell?_of_block (hkv.block _ (World.block_lt_of_cell? _ _ p1) hgk)] at p8
                    have p9 : w8.frozen? ⟨g, k * 2 + 1, none⟩ = false := by
                      obtain ⟨g', cap', he, -, -, h3⟩ := H7.out.own.at k hkl
                      cases he
                      have hro := H7.out.own.row.keep hkv (fun q e x => (H7.out.own.owns _ (List.getElem_mem hkl) q x).2 e)
                      exact hro.frozen (k * 2 + 1) (by omega)
                    have HS9 := hid (And.intro hset hkeep9)
                    clear hkv hB7 hrz hset hkeep9 hgk hr8 hk8 hv8 hk7 hn7 hrow7 p1
                    repeat (first | (apply wpC_pure (by rfl); (intro K w'; go_simp; exact id)) | (apply wpC_load (by rfl); (intro K; go_simp; exact id)))
                    (refine wpC_act (by rfl) (by rfl) (fun K hK => ?_); go_simp; refine hK _ _ ?_; clear hK K)
                    refine wpC_nil ?_
                    obtain ⟨w9, hw9⟩ : ∃ w9, w9 = w8.setCell ⟨g, k * 2 + 1, none⟩ (.slice a8 (nl.length + 1) c8) := ⟨_, rfl⟩
                    rw [← hw9] at HS9 ⊢
                    clear hw9 p8 p9
                    have hklS : k < (ys.set k (⟨(ys[k]).1.chunk, nl ++ [mt]⟩, .slice a8 (nl.length + 1) c8)).length := by rw [List.length_set]; exact hkl
                    have hgetS : (ys.set k (⟨(ys[k]).1.chunk, nl ++ [mt]⟩, .slice a8 (nl.length + 1) c8))[k] = (⟨(ys[k]).1.chunk, nl ++ [mt]⟩, .slice a8 (nl.length + 1) c8) := by rw [List.getElem_set_self]
                    have hat := HS9.out.1.at k hklS
                    rw [hgetS] at hat
                    obtain ⟨g', cap', hvg, -, p10, -⟩ := hat
                    injection hvg with hvg1 hvg2 hvg3
                    injection hvg1 with hvg1
                    injection hvg1 with hvg1 _ _
                    rw [← hvg1] at p10
                    have hr10 := HS9.out.1.each _ (List.getElem_mem hklS)
                    rw [hgetS] at hr10
                    have HSo := hid (sort_ints w9 _ _ hr10 (by rw [List.length_append, List.length_singleton]; have := HR5.out.2.2; omega))
                    rw [sorted_withN HNd.out.2.1.1 HNt.out] at HSo
                    have HK := hid (And.intro hklS hgetS)
                    clear hvg1 hvg2 hvg3 hr10 hgetS
                    go_wp2_with (at_builtin; refine stopAt ?_; intro q hq)
                    refine HSo.out.mono ?_
                    rintro e w10 ⟨rfl, hr11, hk11⟩
                    have hwl : (withN nl mt).length = (nl ++ [mt]).length := by rw [(withN_perm HNt.out).length_eq]; simp
                    rw [← hwl] at hr11
                    have hturn := HS9.out.1.turn k HK.out.1 (l' := withN nl mt) HS9.out.2.size (by rw [HK.out.2]; exact hk11) (by rw [HK.out.2]; exact hr11) (fun z hz => by
                      rw [(withN_perm HNt.out).mem_iff, List.mem_cons] at hz
                      rcases hz with rfl | hz
                      · exact hmtI
                      · exact HNd.out.2.2.1 z hz)
                    rw [HK.out.2, List.set_set] at hturn
                    have hkeep10 : Keep (fun _ => False) w w10 := HS9.out.2.next hk11 (fun _ _ x => x) (fun q hq x => by
                      have := (HS9.out.1.owns _ (List.getElem_mem HK.out.1) q (by rw [HK.out.2]; exact x)).1
                      omega)
                    have hfin := H5.out.step k hkl hturn hkeep10 (by
                      have hne : ¬ mt = -1 := by have := Hmt.out; omega
                      rw [H5.out.tot, HST.out.1, HM1.out, if_neg hne]; rfl) (withN_rises HNd.out.2.1.1) (by rw [hwl, List.length_append, List.length_singleton]; have := HR5.out.2.2; omega)
                    have HFin := hid (And.intro (show (ys.set k (⟨(ys[k]).1.chunk, withN nl mt⟩, .slice a8 (nl.length + 1) c8)).length = X by rw [List.length_set]; exact HY.out.1) hfin)
                    clear hr11 hk11 hwl hturn hkeep10 hfin p10
                    go_wp2_with (at_builtin; refine stopAt ?_; intro q hq)
                    exact ⟨⟨j + 1, _, by omega, by go_num, HFin⟩, by simp [intOf]; omega⟩
              · have e1 : R = -1 := by rw [HR.out]; exact idx_miss fun y hy => by have : nl[y] ≠ mf := fun e => hin (by rw [← e]; exact List.getElem_mem hy)
                                                                                  simpa using this
                subst e1
                have t5 : decide ((-1 : Int) < 0) = true := by decide
                have HE1 := hid (hbad.out (by rw [HMS.out, if_pos (.inl hin)]))
                clear hin
                (refine wp_region_later (by kernel_rfl) (by kernel_rfl) ?_; (repeat (go_big_quiet_step ((fail)))); refine wpQuiet_nil ?_; rintro _ ⟨sq, rfl⟩)
                obtain ⟨w5, hw5, HK5⟩ : ∃ w5, w5 = sq.val ∧ Hid (Keep (fun _ => False) w4 w5) := ⟨_, rfl, hid sq.keep⟩
                rw [← hw5]
                clear hw5 q1 z2 HCt sq
                go_wp2_with (at_builtin; refine stopAt ?_; intro q hq)
                rw [HPost.out]
                exact ⟨H4.out.keep.next HK5.out (fun _ _ x => x) (fun _ _ x => x), .inl ⟨HE1.out, rfl⟩⟩
          · have h5 : decide ((j : Int) < m) = false := by simp; omega
            have hfin : apply ps ms = some (ys.map (·.1)) := by
              rw [HY.out.2.tot, List.drop_of_length_le (by have := HN.out.2; omega)]
              rfl
            have HF := hid hfin
            clear hfin
            go_wp2_with (at_builtin; refine stopAt ?_; intro q hq)
            rw [HPost.out]
            exact ⟨HY.out.2.keep, .inr ⟨_, ys, HF.out, rfl, HY.out.2.own⟩⟩
end Go.Proofs.Ytmdonjadhkffiaa
/- Heal: the document's Copy, Same, SameMoves. Conditions: as each law names them. -/
namespace Go.Proofs.Ytmdonjadhkffiaa
open Go.RowKit
open HE

theorem IntsV.cells {w : World} {ao : Option Addr} {n c : Nat} {l : List Int} (h : IntsV w (.slice ao n c) l) : Cells w ao l.length 1 (numsV l) := by
  obtain ⟨ao', c', hv, hm, hz, hc⟩ := h
  cases hv
  refine ⟨by rw [numsV_length', Nat.mul_one], fun h0 => ?_⟩
  obtain ⟨ad, rfl, hcell⟩ := hc (by omega)
  refine ⟨ad, rfl, fun t u hu => ?_⟩
  unfold numsV at hu
  rw [List.getElem?_map] at hu
  obtain ⟨x, hx, rfl⟩ := Option.map_eq_some_iff.1 hu
  obtain ⟨ht, hx2⟩ := List.getElem?_eq_some_iff.1 hx
  rw [← hx2]
  exact hcell t ht

theorem wp_append_eq {P : Program} {o : Oper} {a : Act} {w w' : World} {K : Act → World → Prop} {Q : Exit → Act → World → Prop} {t : TypeId} {v1 v2 v' : Value}
    (s x : Operand) (hop : o.op = Op.call { callee := Callee.builtin Builtin.append, args := #[s, x], argTypes := #[t, t] }) (h1 : a.eval s = v1) (h2 : a.eval x = v2)
    (hr : (Builtin.append_ #[t, t] o.type #[v1, v2]).run P w = .ok v' w') (hK : K (a.put o.dst v') w') : Oper.wp P o a w K Q := by
  subst h1 h2
  unfold Oper.wp
  simp [execOp, hop, resolve, invoke, builtin, hr, Result.andThen]
  exact hK

def CopyPost (w : World) (ps : List Pl) (e : Ending) (w' : World) : Prop :=
  ∃ v xs, e = .returned v ∧ xs.map (·.1) = ps ∧ PlsO w.heap.size w' v xs ∧ Keep (fun _ => False) w w'

set_option maxHeartbeats 4000000 in
set_option maxRecDepth 20000 in
theorem rcopy_any (w : World) (u : Value) (ps : List Pl) (hp : PlsV w u ps) (hsm : ps.length ≤ 100000 ∧ ∀ p ∈ ps, p.nodes.length ≤ 100000) :
    Calls Try.prog 12 #[u] w (CopyPost w ps) := by
  obtain ⟨Post, hPost⟩ : ∃ Post, Post = CopyPost w ps := ⟨_, rfl⟩
  rw [← hPost]
  have HPost := hid hPost
  have HS := hid hsm
  obtain ⟨aP, cP, rfl, hmP, hcP⟩ := hp
  obtain ⟨n, hn⟩ : ∃ n, n = ps.length := ⟨_, rfl⟩
  rw [← hn] at hmP ⊢
  have HN := hid hn
  have HC := hid hcP
  have hn63 : (n : Int) ≤ 9223372036854775807 := by unfold maxLen at hmP; omega
  clear hPost hsm hn hcP
  go_enter Try.func12, Try.ntmps12
  go_wp2_with (at_builtin; refine stopAt ?_; intro q hq)
  go_loopw [3, 4] (fun ov iv wr => ∃ (i : Nat) (xs : List (Pl × Value)) (ow : Value), i ≤ n ∧ iv = .int .i64 i ∧ ow = ov ∧ Hid (PlsO w.heap.size wr ow xs ∧ xs.map (·.1) = ps.take i ∧ Keep (fun _ => False) w wr)) (fun _ iv _ => n - (intOf iv).toNat)
  case atStart => exact ⟨0, [], _, Nat.zero_le _, rfl, rfl, hid ⟨PlsO.nil _ _, rfl, Keep.refl _ _⟩⟩
  case round =>
    obtain ⟨i, xs, ov, hi, rfl, rfl, HR⟩ := hrel
    by_cases hin : i < n
    · have h4 : (i : Int) < n := by omega
      have hil : i < ps.length := by have := HN.out; omega
      obtain ⟨ad, rfl, hcell⟩ := HC.out (by omega)
      obtain ⟨nv, g1, g2, g3, g4⟩ := hcell i hil
      have a0 := cell_old HR.out.2.2 _ _ g1
      have a1 := cell_old HR.out.2.2 _ _ g2
      have HGv := hid (g3.keep HR.out.2.2)
      obtain ⟨nl, hnl⟩ : ∃ nl, nl = ps[i].nodes := ⟨_, rfl⟩
      obtain ⟨ch, hch⟩ : ∃ ch, ch = ps[i].chunk := ⟨_, rfl⟩
      rw [← hnl] at HGv
      rw [← hch] at a0 g4
      have HNL := hid (And.intro hnl (And.intro hch g4))
      have hnn : nl.length ≤ 100000 := by rw [hnl]; exact HS.out.2 _ (List.getElem_mem hil)
      obtain ⟨an, cn, hnv, hnm, hnz, hnc⟩ := HGv.out
      subst hnv
      have HNZ := hid hnz
      have hcs := HGv.out.cells
      obtain ⟨v4, w4, hr4, ho4, hk4, hv4, -⟩ := run_append_row (P := Try.prog) (w := wr) (ty := 22) ty_nums (Row.nil wr _ _) an nl.length cn _ hcs (numsV_one nl) (by unfold maxLen; omega) (by omega)
      rw [Nat.zero_add, List.nil_append] at ho4
      have hk4' : Keep (fun _ => False) wr w4 := hk4.mono fun k _ e => by simp [Value.ownBlock] at e
      have hb4 : ∀ k, v4.ownBlock = some k → wr.heap.size ≤ k := fun k e => by
        rcases own_of hv4 k e with e | e
        · simp [Value.ownBlock] at e
        · exact e
      obtain ⟨a4, c4, rfl, -⟩ := ho4.form
      obtain ⟨L, hL⟩ : ∃ L, L = nl.length := ⟨_, rfl⟩
      rw [← hL] at ho4 hr4 hb4 hnn a1
      have H4 := hid (And.intro ho4 (And.intro hk4' (And.intro hb4 hL)))
      have b0 := cell_old hk4' _ _ a0
      clear hcell g1 g2 g3 g4 hnl hch hnz hnc hcs ho4 hk4 hk4' hb4 hv4 hL
      go_wp2_with (at_builtin; refine stopAt ?_; intro q hq)
      (refine hq.out ?_; clear hq q)
      refine wpList_plain rfl (fun K hK => ?_)
      refine wp_append_eq _ _ rfl rfl rfl hr4 ?_
      refine hK _ _ ?_
      clear hK K hr4
      go_wp2_with (at_builtin; refine stopAt ?_; intro q hq)
      (refine hq.out ?_; clear hq q)
      have hk5 : Keep (fun _ => False) w4 (w4.alloc (.cells #[.int .i64 ch, .slice a4 L c4] 44)) := (Keep.refl _ _).alloc _
      have hn5 := heap_alloc_new w4 (.cells #[.int .i64 ch, .slice a4 L c4] 44)
      obtain ⟨w5, hw5⟩ : ∃ w5, w5 = w4.alloc (.cells #[.int .i64 ch, .slice a4 L c4] 44) := ⟨_, rfl⟩
      rw [← hw5] at hk5 hn5 ⊢
      clear hw5
      have hxl : xs.length = i := by
        have := congrArg List.length HR.out.2.1
        rw [List.length_map, List.length_take] at this
        omega
      have ho5 := HR.out.1.later (H4.out.2.1.next hk5 (fun _ _ x => x) (fun _ _ x => x))
      refine wpList_plain rfl (fun K hK => ?_)
      refine wp_append ty_places (.tmp 19) (.tmp 27) rfl rfl ho5.row (some ⟨w4.heap.size, 0, none⟩) 1 1 (plV (⟨ch, nl⟩, .slice a4 L c4)) rfl
        ⟨rfl, fun _ => ⟨_, rfl, fun t u hu => by rw [addr_add, Nat.zero_add, cell_of_row _ _ _ _ _ _ hn5]; simpa [plV] using hu⟩⟩ (plV_one rfl) (by have := HS.out.1; unfold maxLen; omega) (by have := HS.out.1; omega) ?_
      intro v6 w6 hr6 hk6 hv6
      refine hK _ _ ?_
      clear hK K
      have hsz0 := HR.out.2.2.size
      have hsz5 := H4.out.2.1.size
      have hsz6 := hk5.size
      have hown : PlsO w.heap.size w6 v6 (xs ++ [(⟨ch, nl⟩, .slice a4 L c4)]) := ho5.push (by omega) hr6 hk6 hv6 (by
          have h := H4.out.1.keep hk5 (fun _ _ x => x)
          rw [H4.out.2.2.2] at h ⊢
          exact h) (fun k e => by
          have h1 := H4.out.2.2.1 k e
          exact ⟨by omega, fun e' => by have := HR.out.1.row.lt e'; omega, fun y hy e' => by have := (HR.out.1.each y hy).lt e'; omega⟩) ⟨HNL.out.2.2, HNZ.out⟩
      have hkeep : Keep (fun _ => False) w w6 := by
        refine ((HR.out.2.2.next H4.out.2.1 (fun _ _ x => x) (fun _ _ x => x)).next hk5 (fun _ _ x => x) (fun _ _ x => x)).next hk6 (fun _ _ x => x) (fun k hk x => ?_)
        have := HR.out.1.own k x
        omega
      have htk : (xs ++ [((⟨ch, nl⟩ : Pl), Value.slice a4 L c4)]).map (·.1) = ps.take (i + 1) := by
        rw [List.map_append, HR.out.2.1, List.take_add_one, List.getElem?_eq_getElem hil, HNL.out.1, HNL.out.2.1]
        rfl
      have HO := hid (And.intro hown (And.intro htk hkeep))
      clear hr6 hk6 hv6 hown htk hkeep hsz0 hsz5 hsz6 ho5 hk5 hn5 hxl b0
      go_wp2_with (at_builtin; refine stopAt ?_; intro q hq)
      exact ⟨⟨i + 1, _, _, by omega, by go_num, rfl, HO⟩, by simp [intOf]; omega⟩
    · have h4 : decide ((i : Int) < n) = false := by simp; omega
      go_wp2_with (at_builtin; refine stopAt ?_; intro q hq)
      rw [HPost.out]
      exact ⟨_, xs, rfl, by rw [HR.out.2.1, List.take_of_length_le (by have := HN.out; omega)], HR.out.1, HR.out.2.2⟩

set_option maxHeartbeats 4000000 in
set_option maxRecDepth 20000 in
set_option maxRecDepth 20000 in
/-- Of the same places: the same. -/
theorem rsame_any (w : World) (u v : Value) (ps : List Pl) (h1 : PlsV w u ps) (h2 : PlsV w v ps) :
    Calls Try.prog 20 #[u, v] w fun e w' => e = .returned (.bool true) ∧ Keep (fun _ => False) w w' := by
  obtain ⟨aP, cP, rfl, hmP, hcP⟩ := h1
  obtain ⟨aQ, cQ, rfl, hmQ, hcQ⟩ := h2
  obtain ⟨n, hn⟩ : ∃ n, n = ps.length := ⟨_, rfl⟩
  rw [← hn] at hmP ⊢
  have HN := hid hn
  have HC := hid hcP
  have HD := hid hcQ
  have hn63 : (n : Int) ≤ 9223372036854775807 := by unfold maxLen at hmP; omega
  clear hn hcP hcQ hmQ
  go_enter Try.func20, Try.ntmps20
  go_wp2_with (at_builtin; refine stopAt ?_; intro q hq)
  go_loopw [5] (fun iv wr => ∃ i : Nat, i ≤ n ∧ iv = .int .i64 i ∧ Hid (Keep (fun _ => False) w wr)) (fun iv _ => n - (intOf iv).toNat)
  case atStart => exact ⟨0, Nat.zero_le _, rfl, hid (Keep.refl _ _)⟩
  case round =>
    obtain ⟨i, hi, rfl, HK⟩ := hrel
    by_cases hin : i < n
    · have h4 : (i : Int) < n := by omega
      have hil : i < ps.length := by have := HN.out; omega
      obtain ⟨ad, rfl, hcell⟩ := HC.out (by omega)
      obtain ⟨bd, rfl, hcell2⟩ := HD.out (by omega)
      obtain ⟨nv, g1, g2, g3, -⟩ := hcell i hil
      obtain ⟨mv, f1, f2, f3, -⟩ := hcell2 i hil
      have a0 := cell_old HK.out _ _ g1
      have a1 := cell_old HK.out _ _ g2
      have b0 := cell_old HK.out _ _ f1
      have b1 := cell_old HK.out _ _ f2
      obtain ⟨nl, hnl⟩ : ∃ nl, nl = ps[i].nodes := ⟨_, rfl⟩
      obtain ⟨ch, hch⟩ : ∃ ch, ch = ps[i].chunk := ⟨_, rfl⟩
      rw [← hnl] at g3 f3
      rw [← hch] at a0 b0
      obtain ⟨an, cn, rfl, hnm, -, hnc⟩ := g3
      obtain ⟨am, cm, rfl, -, -, hmc⟩ := f3
      obtain ⟨L, hL⟩ : ∃ L, L = nl.length := ⟨_, rfl⟩
      rw [← hL] at a1 b1 hnm
      have hL63 : (L : Int) ≤ 9223372036854775807 := by unfold maxLen at hnm; omega
      have HL := hid hL
      have HNc := hid hnc
      have HMc := hid hmc
      clear hcell hcell2 g1 g2 f1 f2 hnl hch hnc hmc hL
      go_wp2_with (at_builtin; refine stopAt ?_; intro q hq)
      go_quiet (fail)
      obtain ⟨w1, hw1, HK1⟩ : ∃ w1, w1 = wr.drewN nq ∧ Hid (Keep (fun _ => False) wr w1) := ⟨_, rfl, hid ((Keep.refl _ _).drewN _)⟩
      rw [← hw1]
      have a1' := cell_old HK1.out _ _ a1
      have b1' := cell_old HK1.out _ _ b1
      clear hw1
      have HA := hid (And.intro a1' b1')
      clear a0 b0 a1 b1 a1' b1'
      go_wp2_with (at_builtin; refine stopAt ?_; intro q hq)
      go_loopw [6] (fun kv wy => ∃ k : Nat, k ≤ L ∧ kv = .int .i64 k ∧ Hid (Keep (fun _ => False) w1 wy)) (fun kv _ => L - (intOf kv).toNat)
      case atStart => exact ⟨0, Nat.zero_le _, rfl, hid (Keep.refl _ _)⟩
      case round =>
        obtain ⟨k, hk, rfl, HY⟩ := hrel
        have a1 := cell_old HY.out _ _ HA.out.1
        have b1 := cell_old HY.out _ _ HA.out.2
        by_cases hkn : k < L
        · have h5 : (k : Int) < L := by omega
          have hkl : k < nl.length := by have := HL.out; omega
          obtain ⟨and', rfl, hce⟩ := HNc.out (by omega)
          obtain ⟨amd', rfl, hcf⟩ := HMc.out (by omega)
          have hkk := (HK.out.next HK1.out (fun _ _ x => x) (fun _ _ x => x)).next HY.out (fun _ _ x => x) (fun _ _ x => x)
          have x0 := cell_old hkk _ _ (hce k hkl)
          have x1 := cell_old hkk _ _ (hcf k hkl)
          obtain ⟨z, hz⟩ : ∃ z, z = nl[k] := ⟨_, rfl⟩
          rw [← hz] at x0 x1
          clear hce hcf hz hkk
          go_wp2_with (at_builtin; refine stopAt ?_; intro q hq)
          go_quiet (fail)
          go_wp2_with (at_builtin; refine stopAt ?_; intro q hq)
          exact ⟨⟨k + 1, by omega, by go_num, hid (HY.out.drewN _)⟩, by simp [intOf]; omega⟩
        · have h5 : decide ((k : Int) < L) = false := by simp; omega
          go_wp2_with (at_builtin; refine stopAt ?_; intro q hq)
          exact ⟨⟨i + 1, by omega, by go_num, hid ((HK.out.next HK1.out (fun _ _ x => x) (fun _ _ x => x)).next HY.out (fun _ _ x => x) (fun _ _ x => x))⟩, by simp [intOf]; omega⟩
    · have h4 : decide ((i : Int) < n) = false := by simp; omega
      go_wp2_with (at_builtin; refine stopAt ?_; intro q hq)
      go_ret
      exact ⟨rfl, HK.out⟩

set_option maxHeartbeats 1000000 in
set_option maxRecDepth 20000 in
set_option maxRecDepth 20000 in
/-- Of the same moves: the same. -/
theorem rsameMoves_any (w : World) (u v : Value) (ms : List Mv) (h1 : MvsV w u ms) (h2 : MvsV w v ms) :
    Calls Try.prog 19 #[u, v] w fun e w' => e = .returned (.bool true) ∧ Keep (fun _ => False) w w' := by
  have H1 := hid h1
  have H2 := hid h2
  obtain ⟨aP, cP, rfl, hmP, -, -⟩ := h1
  obtain ⟨aQ, cQ, rfl, hmQ, -, -⟩ := h2
  obtain ⟨n, hn⟩ : ∃ n, n = ms.length := ⟨_, rfl⟩
  rw [← hn] at hmP H1 H2 ⊢
  have HN := hid hn
  have hn63 : (n : Int) ≤ 9223372036854775807 := by unfold maxLen at hmP; omega
  clear hn hmQ
  go_enter Try.func19, Try.ntmps19
  go_wp2_with (at_builtin; refine stopAt ?_; intro q hq)
  go_loopw [5] (fun iv wr => ∃ i : Nat, i ≤ n ∧ iv = .int .i64 i ∧ Hid (Keep (fun _ => False) w wr)) (fun iv _ => n - (intOf iv).toNat)
  case atStart => exact ⟨0, Nat.zero_le _, rfl, hid (Keep.refl _ _)⟩
  case round =>
    obtain ⟨i, hi, rfl, HK⟩ := hrel
    by_cases hin : i < n
    · have h4 : (i : Int) < n := by omega
      have hil : i < ms.length := by have := HN.out; omega
      obtain ⟨ad, rfl, g0, g1, g2⟩ := (H1.out.keep HK.out).at i hil
      obtain ⟨bd, rfl, f0, f1, f2⟩ := (H2.out.keep HK.out).at i hil
      obtain ⟨mc, hmc⟩ : ∃ x, x = ms[i].chunk := ⟨_, rfl⟩
      obtain ⟨mf, hmf⟩ : ∃ x, x = ms[i].src := ⟨_, rfl⟩
      obtain ⟨mt, hmt⟩ : ∃ x, x = ms[i].dst := ⟨_, rfl⟩
      rw [← hmc] at g0 f0
      rw [← hmf] at g1 f1
      rw [← hmt] at g2 f2
      clear hmc hmf hmt
      go_wp2_with (at_builtin; refine stopAt ?_; intro q hq)
      go_quiet (fail)
      go_wp2_with (at_builtin; refine stopAt ?_; intro q hq)
      exact ⟨⟨i + 1, by omega, by go_num, hid (HK.out.drewN _)⟩, by simp [intOf]; omega⟩
    · have h4 : decide ((i : Int) < n) = false := by simp; omega
      go_wp2_with (at_builtin; refine stopAt ?_; intro q hq)
      go_ret
      exact ⟨rfl, HK.out⟩
end Go.Proofs.Ytmdonjadhkffiaa
/- Heal: the document's with, without. Conditions: as each law names them. -/
namespace Go.Proofs.Ytmdonjadhkffiaa
open Go.RowKit
open HE

/-- Numbers gathered in memory made since. -/
structure Gather (w0 : World) (l : List Int) (v : Value) (w : World) : Prop where
  own : OwnI w0.heap.size w v l
  keep : Keep (fun _ => False) w0 w
theorem Gather.nil (w0 w : World) (hk : Keep (fun _ => False) w0 w) : Gather w0 [] (.slice none 0 0) w := ⟨⟨Row.nil _ _ _, fun k e => by simp [Value.ownBlock] at e, by simp⟩, hk⟩
theorem Gather.later {w0 w w' : World} {l : List Int} {v : Value} (h : Gather w0 l v w) (hk : Keep (fun _ => False) w w') : Gather w0 l v w' := ⟨h.own.keep hk, h.keep.next hk (fun _ _ x => x) (fun _ _ x => x)⟩
theorem Gather.push {w0 w w' : World} {l : List Int} {v v' : Value} {z : Int} (h : Gather w0 l v w) (hz : I64 z) (hr : Row w' 3 1 v' (l.length + 1) (numsV l ++ [.int .i64 z])) (hk : Keep (fun k => v.ownBlock = some k) w w')
    (hv : (v' = v ∧ 1 = 0) ∨ ∃ k, v'.ownBlock = some k ∧ (v.ownBlock = some k ∨ k = w.heap.size)) : Gather w0 (l ++ [z]) v' w' := by
  refine ⟨⟨by simpa [numsV] using hr, fun k e => ?_, fun y hy => ?_⟩, h.keep.next hk (fun _ _ x => x) (fun k hk x => absurd (h.own.2.1 k x) (by omega))⟩
  · rcases own_of hv k e with e | e
    · exact h.own.2.1 k e
    · have := h.keep.size; omega
  · rcases List.mem_append.1 hy with hy | hy
    · exact h.own.2.2 y hy
    · rw [List.mem_singleton] at hy; subst hy; exact hz

def NumsPost (w : World) (l : List Int) (e : Ending) (w' : World) : Prop := ∃ v, e = .returned v ∧ OwnI w.heap.size w' v l ∧ Keep (fun _ => False) w w'

set_option maxHeartbeats 4000000 in
set_option maxRecDepth 20000 in
theorem without_any (w : World) (v : Value) (l : List Int) (n : Int) (h : IntsV w v l) (hn : I64 n) (hsm : l.length ≤ 300000) :
    Calls Try.prog 53 #[v, .int .i64 n] w (NumsPost w (without l n)) := by
  obtain ⟨Post, hPost⟩ : ∃ Post, Post = NumsPost w (without l n) := ⟨_, rfl⟩
  rw [← hPost]
  have HPost := hid hPost
  obtain ⟨ao, c, rfl, hm, hz, hc⟩ := h
  obtain ⟨m, hmm⟩ : ∃ m, m = l.length := ⟨_, rfl⟩
  have HC := hid hc
  have HM := hid hmm
  have HI := hid hz
  have HN := hid hn
  rw [← hmm] at hm ⊢
  have hm63 : (m : Int) ≤ 9223372036854775807 := by unfold maxLen at hm; omega
  have H0 := hid (Gather.nil w w (Keep.refl _ _))
  clear hc hmm hz hn hPost
  go_enter Try.func53, Try.ntmps53
  go_wp2_with (at_builtin; refine stopAt ?_; intro q hq)
  go_loopw [5, 6] (fun ov iv wr => ∃ (i : Nat) (ow : Value), i ≤ m ∧ iv = .int .i64 i ∧ ow = ov ∧ Hid (Gather w ((l.take i).filter (fun x => decide (x ≠ n))) ow wr)) (fun _ iv _ => m - (intOf iv).toNat)
  case atStart => exact ⟨0, _, Nat.zero_le _, rfl, rfl, hid (by simpa using H0.out)⟩
  case round =>
    obtain ⟨i, ov, hi, rfl, rfl, HG⟩ := hrel
    by_cases hin : i < m
    · have h4 : (i : Int) < m := by omega
      have hil : i < l.length := by rw [← HM.out]; exact hin
      obtain ⟨ad, rfl, hcell⟩ := HC.out (by omega)
      have a0 := cell_old HG.out.keep _ _ (hcell i hil)
      obtain ⟨x, hx⟩ : ∃ x, x = l[i] := ⟨_, rfl⟩
      have hst : (l.take (i + 1)).filter (fun x => decide (x ≠ n)) = ((l.take i).filter (fun x => decide (x ≠ n))) ++ if x ≠ n then [x] else [] := by
        rw [hx, List.take_add_one, List.getElem?_eq_getElem hil, List.filter_append]
        simp [List.filter_cons]
      have HZ := hid (show I64 x by rw [hx]; exact HI.out _ (List.getElem_mem hil))
      have hfl : ((l.take i).filter (fun x => decide (x ≠ n))).length ≤ 700000 := by
        have h1 := List.length_filter_le (fun x => decide (x ≠ n)) (l.take i)
        rw [List.length_take] at h1
        skip
        omega
      have HS := hid hst
      rw [← hx] at a0
      clear hcell hx hst
      by_cases hb : x ≠ n
      · have t1 : decide (x ≠ n) = true := by simpa using hb
        have t2 : (x == n) = false := by simpa using hb
        have t3 : (x != n) = true := by simpa using hb
        have t4 : decide (x = n) = false := by simpa using hb
        have HB := hid hb
        clear hb
        go_wp2_with (at_builtin; refine stopAt ?_; intro q hq)
        (refine hq.out ?_; clear hq q)
        have hn7 := heap_alloc_new wr (.cells #[.int .i64 x] 3)
        have hk7 : Keep (fun _ => False) wr (wr.alloc (.cells #[.int .i64 x] 3)) := (Keep.refl _ _).alloc _
        obtain ⟨w7, hw7⟩ : ∃ w7, w7 = wr.alloc (.cells #[.int .i64 x] 3) := ⟨_, rfl⟩
        rw [← hw7] at hn7 hk7 ⊢
        clear hw7
        have hF7 := HG.out.later hk7
        refine wpList_plain rfl (fun K hK => ?_)
        refine wp_append ty_nums (.tmp 19) (.tmp 24) rfl rfl hF7.own.1 (some ⟨wr.heap.size, 0, none⟩) 1 1 [.int .i64 x] (by rfl)
          ⟨rfl, fun _ => ⟨_, rfl, fun t u hu => by rw [addr_add, Nat.zero_add, cell_of_row _ _ _ _ _ _ hn7]; simpa using hu⟩⟩ (numsV_one [x]) (by unfold maxLen; omega) (by omega) ?_
        intro v8 w8 hr8 hk8 hv8
        refine hK _ _ ?_
        clear hK K
        have HG8 := hid (hF7.push HZ.out hr8 hk8 hv8)
        clear hr8 hk8 hv8 hF7 hk7 hn7
        rw [show ((l.take i).filter (fun x => decide (x ≠ n))) ++ [x] = (l.take (i + 1)).filter (fun x => decide (x ≠ n)) by rw [HS.out, if_pos HB.out]] at HG8
        go_wp2_with (at_builtin; refine stopAt ?_; intro q hq)
        exact ⟨⟨i + 1, v8, by omega, by go_num, rfl, HG8⟩, by simp [intOf]; omega⟩
      · have t1 : decide (x ≠ n) = false := by simpa using hb
        have t2 : (x == n) = true := by simpa using hb
        have t3 : (x != n) = false := by simpa using hb
        have t4 : decide (x = n) = true := by simpa using hb
        have HB := hid hb
        have HG8 := hid HG.out
        rw [show (l.take i).filter (fun x => decide (x ≠ n)) = (l.take (i + 1)).filter (fun x => decide (x ≠ n)) by rw [HS.out, if_neg HB.out, List.append_nil]] at HG8
        clear hb
        go_wp2_with (at_builtin; refine stopAt ?_; intro q hq)
        exact ⟨⟨i + 1, ov, by omega, by go_num, rfl, HG8⟩, by simp [intOf]; omega⟩
    · have h4 : decide ((i : Int) < m) = false := by simp; omega
      have HG0 := hid HG.out
      rw [List.take_of_length_le (show l.length ≤ i by have := HM.out; omega)] at HG0
      have HG0 := hid (show Gather w (without l n) ov wr from HG0.out)
      go_wp2_with (at_builtin; refine stopAt ?_; intro q hq)
      rw [HPost.out]
      exact ⟨ov, rfl, HG0.out.own, HG0.out.keep⟩

set_option maxHeartbeats 4000000 in
set_option maxRecDepth 20000 in
theorem with_any (w : World) (v : Value) (l : List Int) (n : Int) (h : IntsV w v l) (hn : I64 n) (hsm : l.length ≤ 300000) :
    Calls Try.prog 51 #[v, .int .i64 n] w (NumsPost w (withN l n)) := by
  obtain ⟨Post, hPost⟩ : ∃ Post, Post = NumsPost w (withN l n) := ⟨_, rfl⟩
  rw [← hPost]
  have HPost := hid hPost
  obtain ⟨ao, c, rfl, hm, hz, hc⟩ := h
  obtain ⟨m, hmm⟩ : ∃ m, m = l.length := ⟨_, rfl⟩
  have HC := hid hc
  have HM := hid hmm
  have HI := hid hz
  have HN := hid hn
  rw [← hmm] at hm ⊢
  have hm63 : (m : Int) ≤ 9223372036854775807 := by unfold maxLen at hm; omega
  have H0 := hid (Gather.nil w w (Keep.refl _ _))
  clear hc hmm hz hn hPost
  go_enter Try.func51, Try.ntmps51
  go_wp2_with (at_builtin; refine stopAt ?_; intro q hq)
  go_loopw [5, 6] (fun ov iv wr => ∃ (i : Nat) (ow : Value), i ≤ m ∧ iv = .int .i64 i ∧ ow = ov ∧ Hid (Gather w ((l.take i).filter (fun x => decide (x < n))) ow wr)) (fun _ iv _ => m - (intOf iv).toNat)
  case atStart => exact ⟨0, _, Nat.zero_le _, rfl, rfl, hid (by simpa using H0.out)⟩
  case round =>
    obtain ⟨i, ov, hi, rfl, rfl, HG⟩ := hrel
    by_cases hin : i < m
    · have h4 : (i : Int) < m := by omega
      have hil : i < l.length := by rw [← HM.out]; exact hin
      obtain ⟨ad, rfl, hcell⟩ := HC.out (by omega)
      have a0 := cell_old HG.out.keep _ _ (hcell i hil)
      obtain ⟨x, hx⟩ : ∃ x, x = l[i] := ⟨_, rfl⟩
      have hst : (l.take (i + 1)).filter (fun x => decide (x < n)) = ((l.take i).filter (fun x => decide (x < n))) ++ if x < n then [x] else [] := by
        rw [hx, List.take_add_one, List.getElem?_eq_getElem hil, List.filter_append]
        simp [List.filter_cons]
      have HZ := hid (show I64 x by rw [hx]; exact HI.out _ (List.getElem_mem hil))
      have hfl : ((l.take i).filter (fun x => decide (x < n))).length ≤ 700000 := by
        have h1 := List.length_filter_le (fun x => decide (x < n)) (l.take i)
        rw [List.length_take] at h1
        skip
        omega
      have HS := hid hst
      rw [← hx] at a0
      clear hcell hx hst
      by_cases hb : x < n
      · have t1 : decide (x < n) = true := by simpa using hb
        skip
        have HB := hid hb
        clear hb
        go_wp2_with (at_builtin; refine stopAt ?_; intro q hq)
        (refine hq.out ?_; clear hq q)
        have hn7 := heap_alloc_new wr (.cells #[.int .i64 x] 3)
        have hk7 : Keep (fun _ => False) wr (wr.alloc (.cells #[.int .i64 x] 3)) := (Keep.refl _ _).alloc _
        obtain ⟨w7, hw7⟩ : ∃ w7, w7 = wr.alloc (.cells #[.int .i64 x] 3) := ⟨_, rfl⟩
        rw [← hw7] at hn7 hk7 ⊢
        clear hw7
        have hF7 := HG.out.later hk7
        refine wpList_plain rfl (fun K hK => ?_)
        refine wp_append ty_nums (.tmp 20) (.tmp 25) rfl rfl hF7.own.1 (some ⟨wr.heap.size, 0, none⟩) 1 1 [.int .i64 x] (by rfl)
          ⟨rfl, fun _ => ⟨_, rfl, fun t u hu => by rw [addr_add, Nat.zero_add, cell_of_row _ _ _ _ _ _ hn7]; simpa using hu⟩⟩ (numsV_one [x]) (by unfold maxLen; omega) (by omega) ?_
        intro v8 w8 hr8 hk8 hv8
        refine hK _ _ ?_
        clear hK K
        have HG8 := hid (hF7.push HZ.out hr8 hk8 hv8)
        clear hr8 hk8 hv8 hF7 hk7 hn7
        rw [show ((l.take i).filter (fun x => decide (x < n))) ++ [x] = (l.take (i + 1)).filter (fun x => decide (x < n)) by rw [HS.out, if_pos HB.out]] at HG8
        go_wp2_with (at_builtin; refine stopAt ?_; intro q hq)
        exact ⟨⟨i + 1, v8, by omega, by go_num, rfl, HG8⟩, by simp [intOf]; omega⟩
      · have t1 : decide (x < n) = false := by simpa using hb
        skip
        have HB := hid hb
        have HG8 := hid HG.out
        rw [show (l.take i).filter (fun x => decide (x < n)) = (l.take (i + 1)).filter (fun x => decide (x < n)) by rw [HS.out, if_neg HB.out, List.append_nil]] at HG8
        clear hb
        go_wp2_with (at_builtin; refine stopAt ?_; intro q hq)
        exact ⟨⟨i + 1, ov, by omega, by go_num, rfl, HG8⟩, by simp [intOf]; omega⟩
    · have h4 : decide ((i : Int) < m) = false := by simp; omega
      have HG0 := hid HG.out
      rw [List.take_of_length_le (show l.length ≤ i by have := HM.out; omega)] at HG0
      have HZ := hid HN.out
      have hfl : (l.filter (fun x => decide (x < n))).length ≤ 300000 := Nat.le_trans (List.length_filter_le _ _) hsm
      have HG := hid HG0.out
      go_wp2_with (at_builtin; refine stopAt ?_; intro q hq)
      (refine hq.out ?_; clear hq q)
      have hn7 := heap_alloc_new wr (.cells #[.int .i64 n] 3)
      have hk7 : Keep (fun _ => False) wr (wr.alloc (.cells #[.int .i64 n] 3)) := (Keep.refl _ _).alloc _
      obtain ⟨w7, hw7⟩ : ∃ w7, w7 = wr.alloc (.cells #[.int .i64 n] 3) := ⟨_, rfl⟩
      rw [← hw7] at hn7 hk7 ⊢
      clear hw7
      have hF7 := HG.out.later hk7
      refine wpList_plain rfl (fun K hK => ?_)
      refine wp_append ty_nums (.tmp 27) (.tmp 29) rfl rfl hF7.own.1 (some ⟨wr.heap.size, 0, none⟩) 1 1 [.int .i64 n] (by rfl)
        ⟨rfl, fun _ => ⟨_, rfl, fun t u hu => by rw [addr_add, Nat.zero_add, cell_of_row _ _ _ _ _ _ hn7]; simpa using hu⟩⟩ (numsV_one [n]) (by unfold maxLen; omega) (by omega) ?_
      intro v8 w8 hr8 hk8 hv8
      refine hK _ _ ?_
      clear hK K
      have HG8 := hid (hF7.push HZ.out hr8 hk8 hv8)
      clear hr8 hk8 hv8 hF7 hk7 hn7
      have HGn := HG8
      clear HG8 HG
      go_wp2_with (at_builtin; refine stopAt ?_; intro q hq)
      go_loopw [5, 7] (fun ov iv wr => ∃ (i : Nat) (ow : Value), i ≤ m ∧ iv = .int .i64 i ∧ ow = ov ∧ Hid (Gather w ((l.filter (fun x => decide (x < n)) ++ [n]) ++ (l.take i).filter (fun x => decide (n < x))) ow wr)) (fun _ iv _ => m - (intOf iv).toNat)
      case atStart => exact ⟨0, _, Nat.zero_le _, rfl, rfl, hid (by simpa using HGn.out)⟩
      case round =>
        obtain ⟨i, ov, hi, rfl, rfl, HG⟩ := hrel
        by_cases hin : i < m
        · have h4 : (i : Int) < m := by omega
          have hil : i < l.length := by rw [← HM.out]; exact hin
          obtain ⟨ad, rfl, hcell⟩ := HC.out (by omega)
          have a0 := cell_old HG.out.keep _ _ (hcell i hil)
          obtain ⟨x, hx⟩ : ∃ x, x = l[i] := ⟨_, rfl⟩
          have hst : (l.filter (fun x => decide (x < n)) ++ [n]) ++ (l.take (i + 1)).filter (fun x => decide (n < x)) = ((l.filter (fun x => decide (x < n)) ++ [n]) ++ (l.take i).filter (fun x => decide (n < x))) ++ if n < x then [x] else [] := by
            rw [hx, List.take_add_one, List.getElem?_eq_getElem hil, List.filter_append]
            simp [List.filter_cons]
          have HZ := hid (show I64 x by rw [hx]; exact HI.out _ (List.getElem_mem hil))
          have hfl : ((l.filter (fun x => decide (x < n)) ++ [n]) ++ (l.take i).filter (fun x => decide (n < x))).length ≤ 700000 := by
            have h1 := List.length_filter_le (fun x => decide (n < x)) (l.take i)
            rw [List.length_take] at h1
            rw [List.length_append, List.length_append, List.length_singleton]
            have h2 := List.length_filter_le (fun x => decide (x < n)) l
            omega
          have HS := hid hst
          rw [← hx] at a0
          clear hcell hx hst
          by_cases hb : n < x
          · have t1 : decide (n < x) = true := by simpa using hb
            skip
            have HB := hid hb
            clear hb
            go_wp2_with (at_builtin; refine stopAt ?_; intro q hq)
            (refine hq.out ?_; clear hq q)
            have hn7 := heap_alloc_new wr (.cells #[.int .i64 x] 3)
            have hk7 : Keep (fun _ => False) wr (wr.alloc (.cells #[.int .i64 x] 3)) := (Keep.refl _ _).alloc _
            obtain ⟨w7, hw7⟩ : ∃ w7, w7 = wr.alloc (.cells #[.int .i64 x] 3) := ⟨_, rfl⟩
            rw [← hw7] at hn7 hk7 ⊢
            clear hw7
            have hF7 := HG.out.later hk7
            refine wpList_plain rfl (fun K hK => ?_)
            refine wp_append ty_nums (.tmp 43) (.tmp 48) rfl rfl hF7.own.1 (some ⟨wr.heap.size, 0, none⟩) 1 1 [.int .i64 x] (by rfl)
              ⟨rfl, fun _ => ⟨_, rfl, fun t u hu => by rw [addr_add, Nat.zero_add, cell_of_row _ _ _ _ _ _ hn7]; simpa using hu⟩⟩ (numsV_one [x]) (by unfold maxLen; omega) (by omega) ?_
            intro v8 w8 hr8 hk8 hv8
            refine hK _ _ ?_
            clear hK K
            have HG8 := hid (hF7.push HZ.out hr8 hk8 hv8)
            clear hr8 hk8 hv8 hF7 hk7 hn7
            rw [show ((l.filter (fun x => decide (x < n)) ++ [n]) ++ (l.take i).filter (fun x => decide (n < x))) ++ [x] = (l.filter (fun x => decide (x < n)) ++ [n]) ++ (l.take (i + 1)).filter (fun x => decide (n < x)) by rw [HS.out, if_pos HB.out]] at HG8
            go_wp2_with (at_builtin; refine stopAt ?_; intro q hq)
            exact ⟨⟨i + 1, v8, by omega, by go_num, rfl, HG8⟩, by simp [intOf]; omega⟩
          · have t1 : decide (n < x) = false := by simpa using hb
            skip
            have HB := hid hb
            have HG8 := hid HG.out
            rw [show (l.filter (fun x => decide (x < n)) ++ [n]) ++ (l.take i).filter (fun x => decide (n < x)) = (l.filter (fun x => decide (x < n)) ++ [n]) ++ (l.take (i + 1)).filter (fun x => decide (n < x)) by rw [HS.out, if_neg HB.out, List.append_nil]] at HG8
            clear hb
            go_wp2_with (at_builtin; refine stopAt ?_; intro q hq)
            exact ⟨⟨i + 1, ov, by omega, by go_num, rfl, HG8⟩, by simp [intOf]; omega⟩
        · have h4 : decide ((i : Int) < m) = false := by simp; omega
          have HG0 := hid HG.out
          rw [List.take_of_length_le (show l.length ≤ i by have := HM.out; omega)] at HG0
          have HG0 := hid (show Gather w (withN l n) ov wr by have := HG0.out; unfold withN; simpa using this)
          go_wp2_with (at_builtin; refine stopAt ?_; intro q hq)
          rw [HPost.out]
          exact ⟨ov, rfl, HG0.out.own, HG0.out.keep⟩
end Go.Proofs.Ytmdonjadhkffiaa
/- Heal: the document's better, to, from. Conditions: as each law names them. -/
namespace Go.Proofs.Ytmdonjadhkffiaa
open Go.RowKit
open HE

/-- The nodes of one place, as the code loads them. -/
theorem PlsV.at {w : World} {ao : Option Addr} {n c : Nat} {ps : List Pl} (h : PlsV w (.slice ao n c) ps) (i : Nat) (hi : i < ps.length) : ∃ ad an cn, ao = some ad ∧ w.cell? (ad.add (i * 2)) = some (.int .i64 (chunkAt ps i)) ∧
    w.cell? { block := (ad.add (i * 2)).block, off := (ad.add (i * 2)).off + 1 } = some (.slice an (nodesAt ps i).length cn) ∧ IntsV w (.slice an (nodesAt ps i).length cn) (nodesAt ps i) ∧ I64 (chunkAt ps i) := by
  obtain ⟨ao', c', hv, -, hc⟩ := h
  cases hv
  obtain ⟨ad, rfl, hcell⟩ := hc (by omega)
  obtain ⟨nv, g1, g2, g3, g4⟩ := hcell i hi
  have e1 : nodesAt ps i = ps[i].nodes := by unfold nodesAt; simp [hi]
  have e2 : chunkAt ps i = ps[i].chunk := by unfold chunkAt; simp [hi]
  obtain ⟨an, cn, rfl, -⟩ := id g3
  rw [← e1] at g2 g3
  rw [← e2] at g1 g4
  exact ⟨ad, an, cn, rfl, g1, g2, g3, g4⟩

theorem loadOf_le (ps : List Pl) (n : Int) : loadOf ps n ≤ ps.length := List.countP_le_length
theorem on_le (s l : List Int) (n : Int) : on s l n ≤ l.length := List.countP_le_length

set_option maxHeartbeats 1000000 in
set_option maxRecDepth 20000 in
theorem better_any (w : World) (vs u : Value) (s : List Int) (ps : List Pl) (up : Nat) (at_ : Nat) (a b : Int) (hs : IntsV w vs s) (hp : PlsV w u ps) (hup : up < 4294967296) (hs12 : s.length ≤ 12) (hat : at_ < ps.length)
    (hr : Rise s.length (nodesAt ps at_)) (ha : 0 ≤ a ∧ a < s.length) (hb : 0 ≤ b ∧ b < s.length) :
    Calls Try.prog 52 #[vs, .int .u32 (up : Int), u, .int .i64 (at_ : Int), .int .i64 a, .int .i64 b] w fun e w' => e = .returned (.bool (better s up ps (nodesAt ps at_) a b)) ∧ Keep (fun _ => False) w w' := by
  obtain ⟨E, hE⟩ : ∃ E, E = better s up ps (nodesAt ps at_) a b := ⟨_, rfl⟩
  rw [← hE]
  obtain ⟨nl, hnl⟩ : ∃ nl, nl = nodesAt ps at_ := ⟨_, rfl⟩
  rw [← hnl] at hE hr
  have HPV := hid hp
  have HSV := hid hs
  obtain ⟨aP, cP, rfl, hmP, -⟩ := hp
  obtain ⟨aS, cS, rfl, hmS, -⟩ := hs
  obtain ⟨ad, an, cn, rfl, -, p1, hints, -⟩ := HPV.out.at at_ hat
  rw [← hnl] at p1 hints
  have hon : ∀ n, 0 ≤ n ∧ n < (s.length : Int) → ∀ wr, Keep (fun _ => False) w wr → Calls Try.prog 28 #[.slice aS s.length cS, .int .u32 (up : Int), .slice an nl.length cn, .int .i64 n] wr fun e w' => e = .returned (.int .i64 (on s (live up nl) n : Int)) ∧ Keep (fun _ => False) wr w' :=
    fun n hn wr hk => on_any wr up _ _ s nl n hup (HSV.out.keep hk) (hints.keep hk) hs12 (fun x hx => hr.2 x hx) hn
  have HOa := hid (hon a ha)
  have HOb := hid (hon b hb)
  have HL := hid (fun n wr hk => load_any wr _ ps n (HPV.out.keep hk))
  obtain ⟨xa, hxa⟩ : ∃ x, x = on s (live up nl) a := ⟨_, rfl⟩
  obtain ⟨xb, hxb⟩ : ∃ x, x = on s (live up nl) b := ⟨_, rfl⟩
  obtain ⟨la, hla⟩ : ∃ x, x = loadOf ps a := ⟨_, rfl⟩
  obtain ⟨lb, hlb⟩ : ∃ x, x = loadOf ps b := ⟨_, rfl⟩
  rw [← hxa] at HOa
  rw [← hxb] at HOb
  have HE := hid (show E = if xa = xb then (if la = lb then decide (a < b) else decide (la < lb)) else decide (xa < xb) by rw [hE]; unfold better; rw [hxa, hxb, hla, hlb])
  have HLa := hid (And.intro hla hlb)
  obtain ⟨n, hn⟩ : ∃ n, n = ps.length := ⟨_, rfl⟩
  obtain ⟨N, hN⟩ : ∃ N, N = s.length := ⟨_, rfl⟩
  rw [← hn] at HPV hat hmP HL ⊢
  rw [← hN] at HSV HOa HOb hs12 ⊢
  have hn63 : (n : Int) ≤ 9223372036854775807 := by unfold maxLen at hmP; omega
  have hatn : (at_ : Int) < n := by omega
  clear hE hnl hr ha hb hon hints hxa hxb hla hlb hn hN hmS
  go_enter Try.func52, Try.ntmps52
  go_wp2_with (at_builtin; refine stopAt ?_; intro q hq)
  refine (HOa.out w (Keep.refl _ _)).mono ?_
  rintro e w1 ⟨rfl, hk1⟩
  have HK1 := hid hk1
  have p1 := cell_old hk1 _ _ p1
  clear hk1
  go_wp2_with (at_builtin; refine stopAt ?_; intro q hq)
  refine (HOb.out w1 HK1.out).mono ?_
  rintro e w2 ⟨rfl, hk2⟩
  have HK2 := hid (HK1.out.next hk2 (fun _ _ x => x) (fun _ _ x => x))
  clear hk2 p1
  by_cases h1 : xa = xb
  · have h1' := hid h1
    subst h1
    have t1 : decide ((xa : Int) = (xa : Int)) = true := by simp
    have t2 : ((xa : Int) != (xa : Int)) = false := by simp
    have t3 : ((xa : Int) == (xa : Int)) = true := by simp
    go_wp2_with (at_builtin; refine stopAt ?_; intro q hq)
    refine (HL.out a w2 HK2.out).mono ?_
    rintro e w3 ⟨rfl, hk3⟩
    have HK3 := hid (HK2.out.next hk3 (fun _ _ x => x) (fun _ _ x => x))
    rw [← HLa.out.1]
    clear hk3
    go_wp2_with (at_builtin; refine stopAt ?_; intro q hq)
    refine (HL.out b w3 HK3.out).mono ?_
    rintro e w4 ⟨rfl, hk4⟩
    have HK4 := hid (HK3.out.next hk4 (fun _ _ x => x) (fun _ _ x => x))
    rw [← HLa.out.2]
    clear hk4
    by_cases h2 : la = lb
    · have h2' := hid h2
      clear HLa
      subst h2
      have t4 : decide ((la : Int) = (la : Int)) = true := by simp
      have t5 : ((la : Int) != (la : Int)) = false := by simp
      have t6 : ((la : Int) == (la : Int)) = true := by simp
      go_wp2_with (at_builtin; refine stopAt ?_; intro q hq)
      go_ret
      exact ⟨by rw [show E = decide (a < b) by rw [HE.out]; simp]; rfl, HK4.out⟩
    · have t4 : decide ((la : Int) = (lb : Int)) = false := by simp; omega
      have t5 : ((la : Int) != (lb : Int)) = true := by simp; omega
      have t6 : ((la : Int) == (lb : Int)) = false := by simp; omega
      have H2 := hid h2
      clear h2
      go_wp2_with (at_builtin; refine stopAt ?_; intro q hq)
      go_ret
      refine ⟨?_, HK4.out⟩
      rw [show E = decide (la < lb) by rw [HE.out]; simp [H2.out]]
      rfl
  · have t1 : decide ((xa : Int) = (xb : Int)) = false := by simp; omega
    have t2 : ((xa : Int) != (xb : Int)) = true := by simp; omega
    have t3 : ((xa : Int) == (xb : Int)) = false := by simp; omega
    have H1 := hid h1
    clear h1
    go_wp2_with (at_builtin; refine stopAt ?_; intro q hq)
    go_ret
    refine ⟨?_, HK2.out⟩
    rw [show E = decide (xa < xb) by rw [HE.out]; simp [H1.out]]
    rfl

def bestV (o : Option Int) : Int := o.getD (-1)

theorem pick_snoc (lt : Int → Int → Bool) : ∀ (l : List Int) (b : Option Int) (x : Int), pickFrom lt b (l ++ [x]) = match pickFrom lt b l with | none => some x | some y => some (if lt x y then x else y)
  | [], none, _x => rfl
  | [], some _y, _x => rfl
  | z :: l, none, x => pick_snoc lt l (some z) x
  | _z :: l, some _y, x => pick_snoc lt l _ x
theorem pick_mem (lt : Int → Int → Bool) : ∀ (l : List Int) (b : Option Int) (x : Int), pickFrom lt b l = some x → x ∈ l ∨ b = some x
  | [], b, x, h => .inr h
  | z :: l, none, x, h => by
    rcases pick_mem lt l (some z) x h with h | h
    · exact .inl (List.mem_cons_of_mem _ h)
    · cases h; exact .inl List.mem_cons_self
  | z :: l, some y, x, h => by
    rcases pick_mem lt l _ x h with h | h
    · exact .inl (List.mem_cons_of_mem _ h)
    · split at h
      · cases h; exact .inl List.mem_cons_self
      · exact .inr h

set_option maxHeartbeats 2000000 in
set_option maxRecDepth 20000 in
theorem to_any (w : World) (vs u : Value) (s : List Int) (ps : List Pl) (up : Nat) (at_ : Nat) (hs : IntsV w vs s) (hp : PlsV w u ps) (hup : up < 4294967296) (hs12 : s.length ≤ 12) (hat : at_ < ps.length) (hr : Rise s.length (nodesAt ps at_)) :
    Calls Try.prog 49 #[vs, .int .u32 (up : Int), u, .int .i64 (at_ : Int)] w fun e w' => e = .returned (.int .i64 ((target s up ps (nodesAt ps at_)).getD (-1))) ∧ Keep (fun _ => False) w w' := by
  obtain ⟨E, hE⟩ : ∃ E, E = (target s up ps (nodesAt ps at_)).getD (-1) := ⟨_, rfl⟩
  rw [← hE]
  obtain ⟨nl, hnl⟩ : ∃ nl, nl = nodesAt ps at_ := ⟨_, rfl⟩
  have HB := hid (fun wr hk (a b : Int) ha hb => better_any wr vs u s ps up at_ a b (hs.keep hk) (hp.keep hk) hup hs12 hat hr ha hb)
  rw [← hnl] at hE hr HB
  have HPV := hid hp
  obtain ⟨aP, cP, rfl, hmP, -⟩ := hp
  obtain ⟨aS, cS, rfl, hmS, -⟩ := hs
  obtain ⟨ad, an, cn, rfl, -, p1, hints, -⟩ := HPV.out.at at_ hat
  rw [← hnl] at p1 hints
  have HH := hid (fun wr hk (n : Int) => has_any wr _ nl n (hints.keep hk))
  have HU := hid (fun wr (n : Int) h0 h1 => up_any wr up n hup h0 h1)
  obtain ⟨lt, hlt⟩ : ∃ lt, lt = better s up ps nl := ⟨_, rfl⟩
  have HE := hid (show E = (pickFrom lt none (free s up nl)).getD (-1) by rw [hE, hlt]; rfl)
  rw [← hlt] at HB
  obtain ⟨n, hn⟩ : ∃ n, n = ps.length := ⟨_, rfl⟩
  obtain ⟨N, hN⟩ : ∃ N, N = s.length := ⟨_, rfl⟩
  have HN := hid hN
  rw [← hn] at HPV hat hmP HB ⊢
  rw [← hN] at hs12 HB ⊢
  have hn63 : (n : Int) ≤ 9223372036854775807 := by unfold maxLen at hmP; omega
  have hatn : (at_ : Int) < n := by omega
  clear hE hnl hr hints hn hN hmS hlt
  go_enter Try.func49, Try.ntmps49
  go_wp2_with (at_builtin; refine stopAt ?_; intro q hq)
  go_loopw [9, 10] (fun bv iv wr => ∃ (i : Nat) (o : Option Int), i ≤ N ∧ iv = .int .i64 i ∧ bv = .int .i64 (o.getD (-1)) ∧ Hid (Keep (fun _ => False) w wr ∧ o = pickFrom lt none ((nums i).filter fun n => isUp up n && !decide (n ∈ nl)))) (fun _ iv _ => N - (intOf iv).toNat)
  case atStart => exact ⟨0, none, Nat.zero_le _, rfl, rfl, hid ⟨Keep.refl _ _, rfl⟩⟩
  case round =>
    obtain ⟨i, o, hi, rfl, rfl, HK⟩ := hrel
    by_cases hin : i < N
    · have h4 : (i : Int) < N := by omega
      have a1 := cell_old HK.out.1 _ _ p1
      obtain ⟨B, hB⟩ : ∃ B, B = isUp up (i : Int) := ⟨_, rfl⟩
      obtain ⟨C, hC⟩ : ∃ C, C = decide ((i : Int) ∈ nl) := ⟨_, rfl⟩
      have hst : (nums (i + 1)).filter (fun n => isUp up n && !decide (n ∈ nl)) = (nums i).filter (fun n => isUp up n && !decide (n ∈ nl)) ++ if B && !C then [(i : Int)] else [] := by
        rw [nums_snoc, List.filter_append, List.filter_cons, ← hB, ← hC]
        rfl
      have HS := hid (And.intro hst (And.intro hB hC))
      clear hst hB hC
      go_wp2_with (at_builtin; refine stopAt ?_; intro q hq)
      refine (HH.out wr HK.out.1 (i : Int)).mono ?_
      rintro e w3 ⟨rfl, hk3⟩
      have HK3 := hid (HK.out.1.next hk3 (fun _ _ x => x) (fun _ _ x => x))
      rw [← HS.out.2.2]
      clear hk3 a1
      cases C with
      | true =>
        go_wp2_with (at_builtin; refine stopAt ?_; intro q hq)
        exact ⟨⟨i + 1, o, by omega, by go_num, rfl, hid ⟨HK3.out, by rw [HS.out.1, HK.out.2]; simp⟩⟩, by simp [intOf]; omega⟩
      | false =>
        go_wp2_with (at_builtin; refine stopAt ?_; intro q hq)
        refine (HU.out w3 (i : Int) (by omega) (by omega)).mono ?_
        rintro e w4 ⟨rfl, rfl⟩
        rw [← HS.out.2.1]
        cases B with
        | false =>
          go_wp2_with (at_builtin; refine stopAt ?_; intro q hq)
          exact ⟨⟨i + 1, o, by omega, by go_num, rfl, hid ⟨HK3.out, by rw [HS.out.1, HK.out.2]; simp⟩⟩, by simp [intOf]; omega⟩
        | true =>
          cases ho : o with
          | none =>
            have t1 : decide ((-1 : Int) < 0) = true := by decide
            have HO := hid ho
            clear ho
            dsimp only [Option.getD]
            go_wp2_with (at_builtin; refine stopAt ?_; intro q hq)
            exact ⟨⟨i + 1, some (i : Int), by omega, by go_num, rfl, hid ⟨HK3.out, by
              rw [HS.out.1]
              show some (i : Int) = pickFrom lt none (_ ++ [(i : Int)])
              rw [pick_snoc, ← HK.out.2, HO.out]⟩⟩, by simp [intOf]; omega⟩
          | some y =>
            have hy : 0 ≤ y ∧ y < N := by
              have h1 := HK.out.2
              rw [ho] at h1
              rcases pick_mem lt _ _ _ h1.symm with h2 | h2
              · have h3 := mem_nums.1 (List.mem_filter.1 h2).1
                omega
              · cases h2
            have HO := hid ho
            clear ho
            dsimp only [Option.getD]
            have t1 : decide (y < 0) = false := by simp; omega
            have HBt := hid (HB.out w3 HK3.out (i : Int) y (by omega) hy)
            obtain ⟨b2, hb2⟩ : ∃ b2, b2 = lt (i : Int) y := ⟨_, rfl⟩
            rw [← hb2] at HBt
            have Hb2 := hid hb2
            clear hb2
            go_wp2_with (at_builtin; refine stopAt ?_; intro q hq)
            refine HBt.out.mono ?_
            rintro e w5 ⟨rfl, hk5⟩
            have HK5 := hid (HK3.out.next hk5 (fun _ _ x => x) (fun _ _ x => x))
            clear hk5
            cases b2 with
            | true =>
              go_wp2_with (at_builtin; refine stopAt ?_; intro q hq)
              exact ⟨⟨i + 1, some (i : Int), by omega, by go_num, rfl, hid ⟨HK5.out, by
                rw [HS.out.1]
                show some (i : Int) = pickFrom lt none (_ ++ [(i : Int)])
                rw [pick_snoc, ← HK.out.2, HO.out]
                simp only
                rw [← Hb2.out, if_pos rfl]⟩⟩, by simp [intOf]; omega⟩
            | false =>
              go_wp2_with (at_builtin; refine stopAt ?_; intro q hq)
              exact ⟨⟨i + 1, some y, by omega, by go_num, rfl, hid ⟨HK5.out, by
                rw [HS.out.1]
                show some y = pickFrom lt none (_ ++ [(i : Int)])
                rw [pick_snoc, ← HK.out.2, HO.out]
                simp only
                rw [← Hb2.out, if_neg (by simp)]⟩⟩, by simp [intOf]; omega⟩
    · have h4 : decide ((i : Int) < N) = false := by simp; omega
      go_wp2_with (at_builtin; refine stopAt ?_; intro q hq)
      go_ret
      refine ⟨?_, HK.out.1⟩
      rw [show E = o.getD (-1) by
        rw [HE.out, HK.out.2]
        unfold free
        rw [← HN.out, show i = N by omega]]
      rfl
end Go.Proofs.Ytmdonjadhkffiaa
/- Heal: the document's from. Conditions: as each law names them. -/
namespace Go.Proofs.Ytmdonjadhkffiaa
open Go.RowKit
open HE

/-- The live ones are, in their order, those numbers that are there and up. -/
theorem live_nums {s l : List Int} {up : Nat} (h : Rise s.length l) : live up l = (nums s.length).filter fun n => decide (n ∈ l) && isUp up n := by
  refine rising_unique (rise_live h) ?_ (fun x => ?_)
  · refine List.Pairwise.filter _ ?_
    unfold nums
    rw [List.pairwise_map]
    exact List.pairwise_lt_range.imp fun {a b} h => by omega
  · unfold live
    rw [List.mem_filter, List.mem_filter, mem_nums]
    constructor
    · rintro ⟨h1, h2⟩
      exact ⟨h.2 x h1, by simp [h1, h2]⟩
    · rintro ⟨-, h2⟩
      simpa using h2
theorem nums_drop {N j : Nat} (h : j < N) : (nums N).drop j = (j : Int) :: (nums N).drop (j + 1) := by
  rw [List.drop_eq_getElem_cons (by rw [nums_length]; exact h)]
  congr 1
  unfold nums
  simp
/-- One less. -/
def dn : Nat → Int
  | 0 => -1
  | j + 1 => (j : Int)

set_option maxHeartbeats 2000000 in
set_option maxRecDepth 20000 in
theorem from_any (w : World) (vs v : Value) (s l : List Int) (up : Nat) (t : Int) (hs : IntsV w vs s) (h : IntsV w v l) (hup : up < 4294967296) (hs12 : s.length ≤ 12) (hr : Rise s.length l) (ht : 0 ≤ t ∧ t < s.length) (hl : 0 < (live up l).length) :
    Calls Try.prog 50 #[vs, .int .u32 (up : Int), v, .int .i64 t] w fun e w' => e = .returned (.int .i64 (source s (live up l) t)) ∧ Keep (fun _ => False) w w' := by
  obtain ⟨R, hR⟩ : ∃ R : Int → Bool, R = fun n => decide (n ∈ l) && isUp up n := ⟨_, rfl⟩
  obtain ⟨P, hP⟩ : ∃ P : Int → Bool, P = fun n => decide (site s n = site s t) := ⟨_, rfl⟩
  obtain ⟨N, hN⟩ : ∃ N, N = s.length := ⟨_, rfl⟩
  obtain ⟨E, hE⟩ : ∃ E, E = source s (live up l) t := ⟨_, rfl⟩
  rw [← hE]
  have hlv : live up l = (nums N).filter R := by rw [live_nums hr, hR, hN]
  have HE := hid (show E = (((nums N).find? fun n => R n && P n)).getD (((nums N).find? R).getD 0) by
    rw [hE]
    unfold source
    rw [hlv, List.find?_filter, hP, List.headD_eq_head?_getD, List.head?_filter]
    congr 2
    funext a
    cases R a <;> simp)
  have HL := hid (show ∃ n, (nums N).find? R = some n by
    rw [hlv] at hl
    obtain ⟨x, hx⟩ := List.length_pos_iff_exists_mem.1 hl
    obtain ⟨h1, h2⟩ := List.mem_filter.1 hx
    cases hf : (nums N).find? R with
    | none => exact absurd h2 (List.find?_eq_none.1 hf x h1)
    | some n => exact ⟨n, rfl⟩)
  have HRP := hid (show (∀ n, R n = (decide (n ∈ l) && isUp up n)) ∧ ∀ n, P n = decide (site s n = site s t) from ⟨fun n => by rw [hR], fun n => by rw [hP]⟩)
  have HH := hid (fun wr hk (n : Int) => has_any wr v l n (h.keep hk))
  have HU := hid (fun wr (n : Int) h0 h1 => up_any wr up n hup h0 h1)
  obtain ⟨ao, c, rfl, hm, -, -⟩ := h
  obtain ⟨aS, cS, rfl, hms, -, hcs⟩ := hs
  obtain ⟨ads, rfl, hcells⟩ := hcs (by omega)
  have HCs := hid hcells
  have HN := hid hN
  obtain ⟨tn, htn⟩ : ∃ x : Nat, (x : Int) = t := ⟨t.toNat, by omega⟩
  subst htn
  have htN : tn < N := by omega
  have htN' : (tn : Int) < N := by omega
  rw [← hN] at hms hs12 ⊢
  have hN63 : (N : Int) ≤ 9223372036854775807 := by omega
  obtain ⟨D, hD⟩ : ∃ D, D = dn N := ⟨_, rfl⟩
  have wN : IntKind.i64.wrap ((N : Int) - 1) = D := by
    rw [hD]
    cases hN0 : N with
    | zero => omega
    | succ j =>
      show _ = (j : Int)
      simp [IntKind.wrap, IntKind.signed, IntKind.bits]; omega
  have HD := hid hD
  clear hR hP hE hlv hl hr ht hcs hcells hN hm hms hD
  go_enter Try.func50, Try.ntmps50
  go_wp2_with (at_builtin; refine stopAt ?_; intro q hq)
  clear wN
  go_loopw [9, 10] (fun bv iv wr => ∃ (k : Nat) (o : Option Int), k ≤ N ∧ iv = .int .i64 (dn k) ∧ bv = .int .i64 (o.getD (-1)) ∧ Hid (Keep (fun _ => False) w wr ∧ o = ((nums N).drop k).find? fun n => R n && P n)) (fun _ iv _ => (intOf iv + 1).toNat)
  case atStart => exact ⟨N, none, Nat.le_refl _, by rw [HD.out], rfl, hid ⟨Keep.refl _ _, by rw [List.drop_of_length_le (by rw [nums_length]; exact Nat.le_refl _)]; rfl⟩⟩
  case round =>
    obtain ⟨k, o, hk, rfl, rfl, HK⟩ := hrel
    cases k with
    | zero =>
      have t0 : decide ((0 : Int) ≤ -1) = false := by decide
      show Code.wp _ _ _ _ _
      dsimp only [dn]
      have HF : Hid (o = (nums N).find? fun n => R n && P n) := hid (by have h := HK.out.2; rw [List.drop_zero] at h; exact h)
      have HK0 := hid HK.out.1
      clear HK
      go_wp2_with (at_builtin; refine stopAt ?_; intro q hq)
      go_loopw [9, 12] (fun bv iv wy => ∃ (i : Nat) (o2 : Option Int), i ≤ N ∧ iv = .int .i64 i ∧ bv = .int .i64 (o2.getD (-1)) ∧ Hid (Keep (fun _ => False) w wy ∧ (∀ y, o2 = some y → 0 ≤ y) ∧ o2 = o.or (((nums N).take i).find? R))) (fun _ iv _ => N - (intOf iv).toNat)
      case atStart => exact ⟨0, o, Nat.zero_le _, rfl, rfl, hid ⟨HK0.out, fun y hy => by
        have h1 := HF.out
        rw [hy] at h1
        exact (mem_nums.1 (List.mem_of_find?_eq_some h1.symm)).1, by simp⟩⟩
      case round =>
        obtain ⟨i, o2, hi, rfl, rfl, HY⟩ := hrel
        by_cases hin : i < N
        · have h4 : (i : Int) < N := by omega
          cases ho : o2 with
          | some y =>
            have hy := HY.out.2.1 y ho
            have t1 : decide (y < 0) = false := by simp; omega
            dsimp only [Option.getD]
            have HO := hid ho
            clear ho hy
            go_wp2_with (at_builtin; refine stopAt ?_; intro q hq)
            go_ret
            refine ⟨?_, HY.out.1⟩
            rw [show E = y by
              have h1 := HY.out.2.2
              rw [HO.out] at h1
              rw [HE.out, ← HF.out]
              cases o with
              | some z => simp at h1; simp [h1]
              | none =>
                simp at h1
                have h2 : (nums N).find? R = some y := by
                  have h3 := List.take_append_drop i (nums N)
                  rw [← h3, List.find?_append, ← h1]; rfl
                rw [h2]; rfl]
            rfl
          | none =>
            have t1 : decide ((-1 : Int) < 0) = true := by decide
            dsimp only [Option.getD]
            have HO := hid ho
            have hon : o = none ∧ ((nums N).take i).find? R = none := by
              have h1 := HY.out.2.2
              rw [ho] at h1
              cases o with
              | some z => simp at h1
              | none => exact ⟨rfl, by simpa using h1.symm⟩
            have hst : ((nums N).take (i + 1)).find? R = if R (i : Int) then some (i : Int) else none := by
              rw [List.take_add_one, List.find?_append, hon.2]
              have : (nums N)[i]? = some (i : Int) := by unfold nums; simp [hin]
              rw [this]
              simp [List.find?_cons]
              cases R (i : Int) <;> rfl
            obtain ⟨B, hB⟩ : ∃ B, B = isUp up (i : Int) := ⟨_, rfl⟩
            obtain ⟨C, hC⟩ : ∃ C, C = decide ((i : Int) ∈ l) := ⟨_, rfl⟩
            rw [HRP.out.1, ← hB, ← hC] at hst
            have HS := hid (And.intro hst (And.intro hB (And.intro hC hon)))
            clear ho hst hB hC hon
            go_wp2_with (at_builtin; refine stopAt ?_; intro q hq)
            refine (HH.out wr HY.out.1 (i : Int)).mono ?_
            rintro e w3 ⟨rfl, hk3⟩
            have HK3 := hid (HY.out.1.next hk3 (fun _ _ x => x) (fun _ _ x => x))
            rw [← HS.out.2.2.1]
            clear hk3
            cases C with
            | false =>
              go_wp2_with (at_builtin; refine stopAt ?_; intro q hq)
              exact ⟨⟨i + 1, none, by omega, by go_num, rfl, hid ⟨HK3.out, (fun y hy => by cases hy), by rw [HS.out.1, HS.out.2.2.2.1]; rfl⟩⟩, by simp [intOf]; omega⟩
            | true =>
              go_wp2_with (at_builtin; refine stopAt ?_; intro q hq)
              refine (HU.out w3 (i : Int) (by omega) (by omega)).mono ?_
              rintro e w4 ⟨rfl, rfl⟩
              rw [← HS.out.2.1]
              cases B with
              | false =>
                go_wp2_with (at_builtin; refine stopAt ?_; intro q hq)
                exact ⟨⟨i + 1, none, by omega, by go_num, rfl, hid ⟨HK3.out, (fun y hy => by cases hy), by rw [HS.out.1, HS.out.2.2.2.1]; rfl⟩⟩, by simp [intOf]; omega⟩
              | true =>
                go_wp2_with (at_builtin; refine stopAt ?_; intro q hq)
                exact ⟨⟨i + 1, some (i : Int), by omega, by go_num, rfl, hid ⟨HK3.out, (fun y hy => by cases hy; omega), by rw [HS.out.1, HS.out.2.2.2.1]; rfl⟩⟩, by simp [intOf]; omega⟩
        · have h4 : decide ((i : Int) < N) = false := by simp; omega
          go_wp2_with (at_builtin; refine stopAt ?_; intro q hq)
          go_ret
          refine ⟨?_, HY.out.1⟩
          rw [show E = o2.getD (-1) by
            rw [HE.out, ← HF.out, HY.out.2.2, List.take_of_length_le (by rw [nums_length]; omega)]
            obtain ⟨n, hn⟩ := HL.out
            rw [hn]
            cases o <;> rfl]
          rfl
    | succ j =>
      have t0 : decide ((0 : Int) ≤ (j : Int)) = true := by simp
      have wj : IntKind.i64.wrap ((j : Int) - 1) = dn j := by
        cases hj0 : j with
        | zero => decide
        | succ q =>
          show _ = (q : Int)
          simp [IntKind.wrap, IntKind.signed, IntKind.bits]; omega
      dsimp only [dn]
      have hjN : j < N := by omega
      have hjN' : (j : Int) < N := by omega
      have hst : ((nums N).drop j).find? (fun n => R n && P n) = if R (j : Int) && P (j : Int) then some (j : Int) else o := by
        rw [nums_drop hjN, List.find?_cons, HK.out.2]
        cases R (j : Int) && P (j : Int) <;> rfl
      obtain ⟨B, hB⟩ : ∃ B, B = isUp up (j : Int) := ⟨_, rfl⟩
      obtain ⟨C, hC⟩ : ∃ C, C = decide ((j : Int) ∈ l) := ⟨_, rfl⟩
      rw [HRP.out.1, HRP.out.2, ← hB, ← hC] at hst
      have b0 := site_cell HK.out.1 HCs.out (j : Int) (by omega) (by have := HN.out; omega)
      have b1 := site_cell HK.out.1 HCs.out (tn : Int) (by omega) (by have := HN.out; omega)
      rw [Int.toNat_natCast] at b0 b1
      obtain ⟨sj, hsj⟩ : ∃ z, z = site s (j : Int) := ⟨_, rfl⟩
      obtain ⟨st, hst'⟩ : ∃ z, z = site s (tn : Int) := ⟨_, rfl⟩
      rw [← hsj] at b0 hst
      rw [← hst'] at b1 hst
      have HS := hid (And.intro hst (And.intro hB hC))
      clear hst hB hC hsj hst'
      go_wp2_with (at_builtin; refine stopAt ?_; intro q hq)
      refine (HH.out wr HK.out.1 (j : Int)).mono ?_
      rintro e w3 ⟨rfl, hk3⟩
      have HK3 := hid (HK.out.1.next hk3 (fun _ _ x => x) (fun _ _ x => x))
      have b0 := cell_old hk3 _ _ b0
      have b1 := cell_old hk3 _ _ b1
      have j0 := fun x : Later w3 => x.cell b0
      have j1 := fun x : Later w3 => x.cell b1
      rw [← HS.out.2.2]
      clear hk3
      cases C with
      | false =>
        go_wp2_with (at_builtin; refine stopAt ?_; intro q hq)
        (refine wp_region_later (by kernel_rfl) (by kernel_rfl) ?_; (repeat (go_big_quiet_step ((fail)))); refine wpQuiet_nil ?_; rintro _ ⟨sq, rfl⟩)
        go_wp2_with (at_builtin; refine stopAt ?_; intro q hq)
        exact ⟨⟨j, o, by omega, rfl, rfl, hid ⟨HK3.out.next sq.keep (fun _ _ x => x) (fun _ _ x => x), by rw [HS.out.1]; rfl⟩⟩, by cases j <;> simp [intOf, dn] <;> omega⟩
      | true =>
        go_wp2_with (at_builtin; refine stopAt ?_; intro q hq)
        refine (HU.out w3 (j : Int) (by omega) (by omega)).mono ?_
        rintro e w4 ⟨rfl, rfl⟩
        rw [← HS.out.2.1]
        cases B with
        | false =>
          go_wp2_with (at_builtin; refine stopAt ?_; intro q hq)
          (refine wp_region_later (by kernel_rfl) (by kernel_rfl) ?_; (repeat (go_big_quiet_step ((fail)))); refine wpQuiet_nil ?_; rintro _ ⟨sq, rfl⟩)
          go_wp2_with (at_builtin; refine stopAt ?_; intro q hq)
          exact ⟨⟨j, o, by omega, rfl, rfl, hid ⟨HK3.out.next sq.keep (fun _ _ x => x) (fun _ _ x => x), by rw [HS.out.1]; rfl⟩⟩, by cases j <;> simp [intOf, dn] <;> omega⟩
        | true =>
          by_cases hss : sj = st
          · have t1 : decide (sj = st) = true := by simpa using hss
            have t2 : (sj == st) = true := by simpa using hss
            have Hss := hid hss
            clear hss
            go_wp2_with (at_builtin; refine stopAt ?_; intro q hq)
            (refine wp_region_later (by kernel_rfl) (by kernel_rfl) ?_; (repeat (go_big_quiet_step ((fail)))); refine wpQuiet_nil ?_; rintro _ ⟨sq, rfl⟩)
            go_wp2_with (at_builtin; refine stopAt ?_; intro q hq)
            exact ⟨⟨j, some (j : Int), by omega, rfl, rfl, hid ⟨HK3.out.next sq.keep (fun _ _ x => x) (fun _ _ x => x), by rw [HS.out.1, t1]; rfl⟩⟩, by cases j <;> simp [intOf, dn] <;> omega⟩
          · have t1 : decide (sj = st) = false := by simpa using hss
            have t2 : (sj == st) = false := by simpa using hss
            go_wp2_with (at_builtin; refine stopAt ?_; intro q hq)
            (refine wp_region_later (by kernel_rfl) (by kernel_rfl) ?_; (repeat (go_big_quiet_step ((fail)))); refine wpQuiet_nil ?_; rintro _ ⟨sq, rfl⟩)
            go_wp2_with (at_builtin; refine stopAt ?_; intro q hq)
            exact ⟨⟨j, o, by omega, rfl, rfl, hid ⟨HK3.out.next sq.keep (fun _ _ x => x) (fun _ _ x => x), by rw [HS.out.1, t1]; rfl⟩⟩, by cases j <;> simp [intOf, dn] <;> omega⟩
end Go.Proofs.Ytmdonjadhkffiaa
/- Heal: what the document's plan and drop keep from round to round. Conditions: as each law names them. -/
namespace Go.Proofs.Ytmdonjadhkffiaa
open Go.RowKit
open HE

/-! ### plain: a plan -/
structure POut (s : List Int) (up copies : Nat) (ps0 : List Pl) (i : Nat) (ps : List Pl) (ms : List Mv) : Prop where
  tot : (plan s up copies ps0).1 = ms ++ (planFrom s up copies i (ps0.length - i) ps).1
  wf : Wf s ps
  len : ps.length = ps0.length
  left : ∀ j, i ≤ j → nodesAt ps j = nodesAt ps0 j
  chunk : ∀ j, chunkAt ps j = chunkAt ps0 j
  msl : ms.length ≤ 12 * i
structure PIn (s : List Int) (up copies : Nat) (ps0 : List Pl) (i f : Nat) (ps : List Pl) (ms : List Mv) : Prop where
  tot : (plan s up copies ps0).1 = ms ++ (planAt s up copies i f ps).1 ++ (planFrom s up copies (i + 1) (ps0.length - (i + 1)) (planAt s up copies i f ps).2).1
  wf : Wf s ps
  len : ps.length = ps0.length
  left : ∀ j, i < j → nodesAt ps j = nodesAt ps0 j
  chunk : ∀ j, chunkAt ps j = chunkAt ps0 j
  msl : ms.length + f ≤ 12 * (i + 1)
  fuel : copies ≤ f + (live up (nodesAt ps i)).length
section
variable {s : List Int} {up copies : Nat} {ps0 : List Pl} {i f : Nat} {ps : List Pl} {ms : List Mv}
theorem POut.first (hw : Wf s ps0) : POut s up copies ps0 0 ps0 [] := ⟨by unfold plan; simp, hw, rfl, fun _ _ => rfl, fun _ => rfl, by simp⟩
theorem POut.start (H : POut s up copies ps0 i ps ms) (hi : i < ps0.length) (hc : copies ≤ 12) : PIn s up copies ps0 i copies ps ms := by
  refine ⟨?_, H.wf, H.len, fun j hj => H.left j (by omega), H.chunk, by have := H.msl; omega, by omega⟩
  have ht := H.tot
  rw [show ps0.length - i = (ps0.length - (i + 1)) + 1 by omega] at ht
  rw [ht]
  show ms ++ ((planAt s up copies i copies ps).1 ++ _) = _
  rw [List.append_assoc]
theorem PIn.out (H : PIn s up copies ps0 i f ps ms) (hd : planAt s up copies i f ps = ([], ps)) : POut s up copies ps0 (i + 1) ps ms := by
  refine ⟨?_, H.wf, H.len, fun j hj => H.left j (by omega), H.chunk, by have := H.msl; omega⟩
  have := H.tot
  rw [hd] at this
  simpa using this
theorem PIn.step {t : Int} (H : PIn s up copies ps0 i (f + 1) ps ms) (hi : i < ps0.length) (h0 : 0 < (live up (nodesAt ps i)).length) (h1 : (live up (nodesAt ps i)).length < copies) (ht : target s up ps (nodesAt ps i) = some t)
    (hn : t ∉ nodesAt ps i) (hu : isUp up t = true) (hr : 0 ≤ t ∧ t < s.length) :
    PIn s up copies ps0 i f (setNodes ps i (withN (nodesAt ps i) t)) (ms ++ [⟨chunkAt ps i, source s (live up (nodesAt ps i)) t, t⟩]) := by
  have hil : i < ps.length := by rw [H.len]; exact hi
  have hnode : nodesAt (setNodes ps i (withN (nodesAt ps i) t)) i = withN (nodesAt ps i) t := nodesAt_set hil _
  refine ⟨?_, H.wf.set i (withN_rise (H.wf.at i) hr.1 hr.2), by rw [set_len, H.len], fun j hj => by rw [nodesAt_other (by omega)]; exact H.left j hj, fun j => by rw [chunkAt_set]; exact H.chunk j, ?_, ?_⟩
  · have := H.tot
    rw [planAt_go h0 h1 ht] at this
    rw [this]
    simp
  · have := H.msl
    rw [List.length_append, List.length_singleton]; omega
  · have := H.fuel
    rw [hnode, live_withN hn hu]; omega
end

/-! ### plain: a drop -/
structure QOut (s : List Int) (up copies : Nat) (ps0 : List Pl) (i : Nat) (ps : List Pl) (ms : List Mv) : Prop where
  tot : (drop s up copies ps0).1 = ms ++ (dropFrom s up copies i (ps0.length - i) ps).1
  wf : Wf s ps
  len : ps.length = ps0.length
  left : ∀ j, i ≤ j → nodesAt ps j = nodesAt ps0 j
  chunk : ∀ j, chunkAt ps j = chunkAt ps0 j
  msl : ms.length ≤ 12 * i
structure QIn (s : List Int) (up copies : Nat) (ps0 : List Pl) (i f : Nat) (ps : List Pl) (ms : List Mv) : Prop where
  tot : (drop s up copies ps0).1 = ms ++ (dropAt s up copies i f ps).1 ++ (dropFrom s up copies (i + 1) (ps0.length - (i + 1)) (dropAt s up copies i f ps).2).1
  wf : Wf s ps
  len : ps.length = ps0.length
  left : ∀ j, i < j → nodesAt ps j = nodesAt ps0 j
  chunk : ∀ j, chunkAt ps j = chunkAt ps0 j
  msl : ms.length + f ≤ 12 * (i + 1)
  fuel : (live up (nodesAt ps i)).length ≤ f
section
variable {s : List Int} {up copies : Nat} {ps0 : List Pl} {i f : Nat} {ps : List Pl} {ms : List Mv}
theorem QOut.first (hw : Wf s ps0) : QOut s up copies ps0 0 ps0 [] := ⟨by unfold drop; simp, hw, rfl, fun _ _ => rfl, fun _ => rfl, by simp⟩
theorem rise_len {n : Nat} {l : List Int} (h : Rise n l) : l.length ≤ n := by
  have h1 := h.perm.length_eq
  have h2 := List.length_filter_le (fun x => decide (x ∈ l)) (nums n)
  rw [nums_length] at h2
  omega
theorem QOut.start (H : QOut s up copies ps0 i ps ms) (hi : i < ps0.length) (hs : s.length ≤ 12) : QIn s up copies ps0 i (nodesAt ps i).length ps ms := by
  have hN := rise_len (H.wf.at i)
  refine ⟨?_, H.wf, H.len, fun j hj => H.left j (by omega), H.chunk, by have := H.msl; omega, List.length_filter_le _ _⟩
  have ht := H.tot
  rw [show ps0.length - i = (ps0.length - (i + 1)) + 1 by omega] at ht
  rw [ht]
  show ms ++ ((dropAt s up copies i (nodesAt ps i).length ps).1 ++ _) = _
  rw [List.append_assoc]
theorem QIn.out (H : QIn s up copies ps0 i f ps ms) (hd : ¬ (copies < (live up (nodesAt ps i)).length)) : QOut s up copies ps0 (i + 1) ps ms := by
  refine ⟨?_, H.wf, H.len, fun j hj => H.left j (by omega), H.chunk, by have := H.msl; omega⟩
  have := H.tot
  rw [dropAt_end hd] at this
  simpa using this
theorem QIn.step {t : Int} (H : QIn s up copies ps0 i (f + 1) ps ms) (hi : i < ps0.length) (h1 : copies < (live up (nodesAt ps i)).length) (ht : worst s up ps (nodesAt ps i) = some t) (hl : t ∈ live up (nodesAt ps i)) :
    QIn s up copies ps0 i f (setNodes ps i (without (nodesAt ps i) t)) (ms ++ [⟨chunkAt ps i, t, -1⟩]) := by
  have hil : i < ps.length := by rw [H.len]; exact hi
  have hnode : nodesAt (setNodes ps i (without (nodesAt ps i) t)) i = without (nodesAt ps i) t := nodesAt_set hil _
  refine ⟨?_, H.wf.set i (without_rise (H.wf.at i)), by rw [set_len, H.len], fun j hj => by rw [nodesAt_other (by omega)]; exact H.left j hj, fun j => by rw [chunkAt_set]; exact H.chunk j, ?_, ?_⟩
  · have := H.tot
    rw [dropAt_go h1 ht] at this
    rw [this]
    simp
  · have := H.msl
    rw [List.length_append, List.length_singleton]; omega
  · have := H.fuel
    have h2 := (live_without (H.wf.at i).nodup hl).2
    rw [hnode]; omega
end

/-! ### in memory: places of its own, and moves -/
structure DocAt (w0 w : World) (v : Value) (xs : List (Pl × Value)) (ov : Value) (ms : List Mv) : Prop where
  pls : PlsO w0.heap.size w v xs
  row : Row w 52 3 ov ms.length (mvsV ms)
  own : ∀ k, ov.ownBlock = some k → w0.heap.size ≤ k ∧ v.ownBlock ≠ some k ∧ ∀ x ∈ xs, x.2.ownBlock ≠ some k
  keep : Keep (fun _ => False) w0 w
section
variable {w0 w w' : World} {v : Value} {xs : List (Pl × Value)} {ov : Value} {ms : List Mv}
theorem DocAt.first (h : PlsO w0.heap.size w v xs) (hk : Keep (fun _ => False) w0 w) : DocAt w0 w v xs (.slice none 0 0) [] := ⟨h, Row.nil _ _ _, fun k e => by simp [Value.ownBlock] at e, hk⟩
theorem DocAt.later (h : DocAt w0 w v xs ov ms) (hk : Keep (fun _ => False) w w') : DocAt w0 w' v xs ov ms := ⟨h.pls.later hk, h.row.keep hk (fun _ _ x => x), h.own, h.keep.next hk (fun _ _ x => x) (fun _ _ x => x)⟩
theorem DocAt.push (h : DocAt w0 w v xs ov ms) {ov' : Value} (m : Mv) (hk : Keep (fun k => ov.ownBlock = some k) w w') (hr : Row w' 52 3 ov' (ms.length + 1) (mvsV ms ++ mvV m))
    (ho : (ov' = ov ∧ 1 = 0) ∨ ∃ k, ov'.ownBlock = some k ∧ (ov.ownBlock = some k ∨ k = w.heap.size)) : DocAt w0 w' v xs ov' (ms ++ [m]) := by
  refine ⟨⟨h.pls.row.keep hk fun k e x => (h.own k x).2.1 e, fun x hx => (h.pls.each x hx).keep hk fun k e y => (h.own k y).2.2 x hx e, h.pls.own, h.pls.owns, h.pls.apart, h.pls.i64⟩, by rw [mvsV_snoc, List.length_append, List.length_singleton]; exact hr, fun k e => ?_,
    h.keep.next hk (fun _ _ x => x) (fun k hk x => absurd (h.own k x).1 (by omega))⟩
  rcases own_of ho k e with e | e
  · exact h.own k e
  · have := h.keep.size
    exact ⟨by omega, fun x => by have := h.pls.row.lt x; omega, fun x hx y => by have := (h.pls.each x hx).lt y; omega⟩
theorem DocAt.set (h : DocAt w0 w v xs ov ms) (i : Nat) (hi : i < xs.length) {g cap : Nat} (hv : v = .slice (some ⟨g, 0, none⟩) xs.length cap) {l' : List Int} {nv' : Value} (hk : Keep (fun _ => False) w w')
    (hr : OwnI w.heap.size w' nv' l') : DocAt w0 (w'.setCell ⟨g, i * 2 + 1, none⟩ nv') v (xs.set i (⟨xs[i].1.chunk, l'⟩, nv')) ov ms := by
  have hvg : v.ownBlock = some g := by rw [hv]; rfl
  have hk2 : Keep (fun k => k = g) w' (w'.setCell ⟨g, i * 2 + 1, none⟩ nv') := by refine Keep.setCell (Keep.refl _ _) (.inl ?_) _; rfl
  have h1 := h.pls.set i hi hv h.keep.size (hk.mono fun _ _ x => x.elim) hr.1 (fun k e => .inr (hr.2.1 k e)) hr.2.2
  refine ⟨h1, (h.row.keep hk (fun _ _ x => x)).keep hk2 (fun k e x => (h.own k e).2.1 (by rw [x]; exact hvg)), fun k e => ⟨(h.own k e).1, (h.own k e).2.1, fun x hx y => ?_⟩,
    (h.keep.next hk (fun _ _ x => x) (fun _ _ x => x)).next hk2 (fun _ _ x => x) (fun k hk x => by have := h.pls.own g hvg; omega)⟩
  rcases List.mem_or_eq_of_mem_set hx with hx | rfl
  · exact (h.own k e).2.2 x hx y
  · have := hr.2.1 k y
    have := h.row.lt e
    omega
theorem slice_block {g g' a b c d : Nat} (h : Value.slice (some ⟨g, 0, none⟩) a b = .slice (some ⟨g', 0, none⟩) c d) : g = g' := by
  injection h with h _ _
  injection h with h
  injection h
theorem nodesAt_fst {xs : List (Pl × Value)} {i : Nat} (hi : i < xs.length) : nodesAt (xs.map (·.1)) i = xs[i].1.nodes := by unfold nodesAt; simp [hi]
theorem chunkAt_fst {xs : List (Pl × Value)} {i : Nat} (hi : i < xs.length) : chunkAt (xs.map (·.1)) i = xs[i].1.chunk := by unfold chunkAt; simp [hi]
end
end Go.Proofs.Ytmdonjadhkffiaa
/- Heal: the document's Plan. Conditions: as each law names them. -/
namespace Go.Proofs.Ytmdonjadhkffiaa
open Go.RowKit
open HE

set_option maxHeartbeats 4000000 in
set_option maxRecDepth 20000 in
theorem rplan_any (w : World) (v u : Value) (s : List Int) (ps : List Pl) (up : Nat) (copies : Int) (hs : IntsV w v s) (hp : PlsV w u ps) (hup : up < 4294967296) (hc64 : I64 copies) :
    Calls Try.prog 16 #[v, .int .u32 (up : Int), .int .i64 copies, u] w (PlanPost w s ps up copies (plan s up copies.toNat ps).1) := by
  have HQ := hid (rcheck_any w v u s ps hs hp)
  have HSV := hid hs
  have HPV := hid hp
  obtain ⟨Post, hPost⟩ : ∃ Post, Post = PlanPost w s ps up copies (plan s up copies.toNat ps).1 := ⟨_, rfl⟩
  rw [← hPost]
  have HPost := hid hPost
  obtain ⟨aS, cS, rfl, hmS, -, -⟩ := hs
  obtain ⟨aP, cP, rfl, hmP, -⟩ := hp
  obtain ⟨m, hmm⟩ : ∃ m, m = ps.length := ⟨_, rfl⟩
  obtain ⟨N, hN⟩ : ∃ N, N = s.length := ⟨_, rfl⟩
  rw [← hmm] at HQ HPV hmP ⊢
  rw [← hN] at HQ HSV hmS ⊢
  have HM := hid (And.intro hmm hN)
  unfold I64 at hc64
  have hm63 : (m : Int) ≤ 9223372036854775807 := by unfold maxLen at hmP; omega
  obtain ⟨E, hE⟩ : ∃ E, E = check s ps := ⟨_, rfl⟩
  rw [← hE] at HQ
  have HE := hid hE
  clear hPost hmm hN hE
  go_enter Try.func16, Try.ntmps16
  go_wp2_with (at_builtin; refine stopAt ?_; intro q hq)
  refine HQ.out.mono ?_
  rintro e w1 ⟨rfl, hk1⟩
  have HK1 := hid hk1
  clear hk1
  by_cases hE0 : E = 0
  · have HE0 := hid (show check s ps = 0 by rw [← HE.out, hE0])
    subst hE0
    have t0 : (((0 : Nat) : Int) != 0) = false := by decide
    by_cases hc1 : copies < 1
    · have t1 : decide (copies < 1) = true := by simpa using hc1
      have H1 := hid hc1
      clear hc1
      go_wp2_with (at_builtin; refine stopAt ?_; intro q hq)
      rw [HPost.out]
      exact ⟨HK1.out, .inr (.inl ⟨HE0.out, .inl H1.out, rfl⟩)⟩
    have t1 : decide (copies < 1) = false := by simpa using hc1
    by_cases hc2 : 12 < copies
    · have t2 : decide (12 < copies) = true := by simpa using hc2
      have H1 := hid hc2
      clear hc1 hc2
      go_wp2_with (at_builtin; refine stopAt ?_; intro q hq)
      rw [HPost.out]
      exact ⟨HK1.out, .inr (.inl ⟨HE0.out, .inr H1.out, rfl⟩)⟩
    have t2 : decide (12 < copies) = false := by simpa using hc2
    obtain ⟨cp, hcp⟩ : ∃ cp : Nat, (cp : Int) = copies := ⟨copies.toNat, by omega⟩
    have hcp12 : 1 ≤ cp ∧ cp ≤ 12 := by omega
    subst hcp
    rw [Int.toNat_natCast] at HPost
    have hcz := check_zero HE0.out
    have hN12 : N ≤ 12 := by have := HM.out.2; omega
    have hm256 : m ≤ 256 := by have := HM.out.1; omega
    have HCo := hid (rcopy_any w1 _ ps (HPV.out.keep HK1.out) ⟨by omega, fun p hp => by have := rise_len (hcz.2.2 p hp); omega⟩)
    have H0 := hid (And.intro hcz.2.2 hcz.1)
    clear hc1 hc2 hcz
    go_wp2_with (at_builtin; refine stopAt ?_; intro q hq)
    refine HCo.out.mono ?_
    rintro e w2 ⟨vp, xs0, rfl, hx0, hpo, hk2⟩
    obtain ⟨av, cv, rfl, -⟩ := hpo.row.form
    have hxl : xs0.length = m := by have := congrArg List.length hx0; rw [List.length_map] at this; have := HM.out.1; omega
    rw [hxl] at hpo ⊢
    have hdoc : DocAt w w2 (.slice av m cv) xs0 (.slice none 0 0) [] := DocAt.first (by
      have hs := HK1.out.size
      exact ⟨hpo.row, hpo.each, fun k e => by have := hpo.own k e; omega, fun x hx k e => ⟨by have := (hpo.owns x hx k e).1; omega, (hpo.owns x hx k e).2⟩, hpo.apart, hpo.i64⟩) (HK1.out.next hk2 (fun _ _ x => x) (fun _ _ x => x))
    have HD0 := hid (And.intro hdoc (And.intro hxl (show POut s up cp ps 0 (xs0.map (·.1)) [] by rw [hx0]; exact POut.first H0.out.1)))
    clear hpo hxl hdoc hx0 hk2
    go_wp2_with (at_builtin; refine stopAt ?_; intro q hq)
    go_loopw [12, 13] (fun ov iv wr => ∃ (i : Nat) (xs : List (Pl × Value)) (ms : List Mv) (ow : Value), i ≤ m ∧ iv = .int .i64 i ∧ ow = ov ∧ Hid (DocAt w wr (.slice av m cv) xs ow ms ∧ xs.length = m ∧ POut s up cp ps i (xs.map (·.1)) ms)) (fun _ iv _ => m - (intOf iv).toNat)
    case atStart => exact ⟨0, xs0, [], _, Nat.zero_le _, rfl, rfl, HD0⟩
    case round =>
      obtain ⟨i, xs, ms, ov, hi, rfl, rfl, HR⟩ := hrel
      by_cases hin : i < m
      · have h4 : (i : Int) < m := by omega
        have hil : i < ps.length := by have := HM.out.1; omega
        have HI0 := hid (And.intro HR.out.1 (And.intro HR.out.2.1 (HR.out.2.2.start hil hcp12.2)))
        go_wp2_with (at_builtin; refine stopAt ?_; intro q hq)
        go_loopw [12] (fun ov2 wy => ∃ (f : Nat) (ys : List (Pl × Value)) (ms2 : List Mv) (ow : Value), ow = ov2 ∧ Hid (DocAt w wy (.slice av m cv) ys ow ms2 ∧ ys.length = m ∧ PIn s up cp ps i f (ys.map (·.1)) ms2)) (fun ov2 _ => 12 * (i + 1) - lenOf ov2)
        case atStart => exact ⟨cp, xs, ms, _, rfl, HI0⟩
        case round =>
          obtain ⟨f, ys, ms2, ow, rfl, HI⟩ := hrel
          obtain ⟨ao, co, rfl, hoc, hom, -, -⟩ := HI.out.1.row.form
          obtain ⟨M2, hM2⟩ : ∃ M2, M2 = ms2.length := ⟨_, rfl⟩
          rw [← hM2] at HI hoc ⊢
          have HM2 := hid hM2
          have hyl : i < ys.length := by have := HI.out.2.1; omega
          obtain ⟨g, cap, hvg, p0, p1, p2⟩ := HI.out.1.pls.at i hyl
          have hav : av = some ⟨g, 0, none⟩ := by injection hvg
          subst hav
          have hnode := nodesAt_fst hyl
          have hchunk := chunkAt_fst hyl
          have hrise := HI.out.2.2.wf.at i
          have hrow := HI.out.1.pls.each _ (List.getElem_mem hyl)
          have hiz := (HI.out.1.pls.i64 _ (List.getElem_mem hyl)).2
          obtain ⟨nl, hnl⟩ : ∃ nl, nl = ys[i].1.nodes := ⟨_, rfl⟩
          obtain ⟨nv, hnv⟩ : ∃ nv, nv = ys[i].2 := ⟨_, rfl⟩
          obtain ⟨ch, hch⟩ : ∃ ch, ch = ys[i].1.chunk := ⟨_, rfl⟩
          rw [← hnl] at hnode hrow hiz
          rw [hnode] at hrise
          rw [← hnv] at hrow p1
          rw [← hch] at p0 hchunk
          obtain ⟨an, cn, rfl, -⟩ := hrow.form
          have hints : IntsV wr (.slice an nl.length cn) nl := IntsV.of_row hrow hiz
          have HLv := hid (fun wq hk => live_any wq up _ nl hup (hints.keep (w' := wq) hk) (fun x hx => by have := hrise.2 x hx; have := HM.out.2; omega))
          obtain ⟨L, hL⟩ : ∃ L, L = (live up nl).length := ⟨_, rfl⟩
          rw [← hL] at HLv
          have HN := hid (And.intro hnl (And.intro hnv (And.intro hch (And.intro hnode (And.intro hchunk (And.intro hrise (And.intro hints hL)))))))
          have himI : (i : Int) < m := by omega
          clear hM2 hvg hnode hchunk hrise hrow hiz hnl hnv hch hints hL hoc hom
          go_wp2_with (at_builtin; refine stopAt ?_; intro q hq)
          refine (HLv.out wr (Keep.refl _ _)).mono ?_
          rintro e w3 ⟨rfl, hk3⟩
          have HK3 := hid hk3
          have p1 := cell_old hk3 _ _ p1
          clear hk3
          by_cases hl0 : 0 < L
          · have t1 : decide ((0 : Int) < (L : Int)) = true := by simp; omega
            go_wp2_with (at_builtin; refine stopAt ?_; intro q hq)
            refine (HLv.out w3 HK3.out).mono ?_
            rintro e w4 ⟨rfl, hk4⟩
            have HK4 := hid (HK3.out.next hk4 (fun _ _ x => x) (fun _ _ x => x))
            have p1 := cell_old hk4 _ _ p1
            clear hk4
            by_cases hl1 : L < cp
            · have t2 : decide ((L : Int) < (cp : Int)) = true := by simp; omega
              have hto := to_any w4 _ _ s (ys.map (·.1)) up i (HSV.out.keep (HI.out.1.keep.next HK4.out (fun _ _ x => x) (fun _ _ x => x))) (HI.out.1.later HK4.out).pls.pls hup (by have := HM.out.2; omega) (by rw [List.length_map]; exact hyl) (by rw [HN.out.2.2.2.1]; exact HN.out.2.2.2.2.2.1)
              rw [HN.out.2.2.2.1] at hto
              have HTo := hid hto
              clear hto
              go_wp2_with (at_builtin; refine stopAt ?_; intro q hq)
              refine HTo.out.mono ?_
              rintro e w5 ⟨rfl, hk5⟩
              have HK5 := hid (HK4.out.next hk5 (fun _ _ x => x) (fun _ _ x => x))
              have p1 := cell_old hk5 _ _ p1
              clear hk5
              rcases target_spec s up (ys.map (·.1)) nl with ⟨htn, -⟩ | ⟨t, hts, htr, htu, htn, -⟩
              · have hd := HI.out.2.2.out (planAt_none (by rw [HN.out.2.2.2.1]; exact htn))
                have HD := hid (And.intro (HI.out.1.later HK5.out) (And.intro HI.out.2.1 hd))
                rw [htn]
                have t3 : decide ((-1 : Int) < 0) = true := by decide
                clear hd htn
                simp only [Option.getD_none]
                go_wp2_with (at_builtin; refine stopAt ?_; intro q hq)
                exact ⟨⟨i + 1, ys, ms2, _, by omega, by go_num, rfl, HD⟩, by simp [intOf]; omega⟩
              · rw [hts]
                simp only [Option.getD_some]
                have t3 : decide (t < 0) = false := by simp; omega
                have hfr := from_any w5 _ _ s nl up t (HSV.out.keep (HI.out.1.keep.next HK5.out (fun _ _ x => x) (fun _ _ x => x))) (HN.out.2.2.2.2.2.2.1.keep HK5.out) hup (by have := HM.out.2; omega) HN.out.2.2.2.2.2.1 htr (by rw [← HN.out.2.2.2.2.2.2.2]; exact hl0)
                obtain ⟨S, hS⟩ : ∃ S, S = source s (live up nl) t := ⟨_, rfl⟩
                rw [← hS] at hfr
                have HFr := hid hfr
                have HTs := hid (And.intro hts (And.intro htr (And.intro htu (And.intro htn hS))))
                clear hts htr htu htn hfr hS
                go_wp2_with (at_builtin; refine stopAt ?_; intro q hq)
                refine HFr.out.mono ?_
                rintro e w6 ⟨rfl, hk6⟩
                have HK6 := hid (HK5.out.next hk6 (fun _ _ x => x) (fun _ _ x => x))
                have p0 := cell_old HK6.out _ _ p0
                clear hk6 p1
                go_wp2_with (at_builtin; refine stopAt ?_; intro q hq)
                (refine hq.out ?_; clear hq q)
                have hn7 := heap_alloc_new w6 (.cells #[.int .i64 ch, .int .i64 S, .int .i64 t] 52)
                have hk7 : Keep (fun _ => False) w6 (w6.alloc (.cells #[.int .i64 ch, .int .i64 S, .int .i64 t] 52)) := (Keep.refl _ _).alloc _
                obtain ⟨w7, hw7⟩ : ∃ w7, w7 = w6.alloc (.cells #[.int .i64 ch, .int .i64 S, .int .i64 t] 52) := ⟨_, rfl⟩
                rw [← hw7] at hn7 hk7 ⊢
                clear hw7 p0
                have hd7 := HI.out.1.later (HK6.out.next hk7 (fun _ _ x => x) (fun _ _ x => x))
                have hr7 := hd7.row
                rw [← HM2.out] at hr7
                have hml : M2 ≤ 100000 := by have := HI.out.2.2.msl; have := HM2.out; omega
                refine wpList_plain rfl (fun K hK => ?_)
                refine wp_append ty_moves (.tmp 71) (.tmp 80) rfl rfl hr7 (some ⟨w6.heap.size, 0, none⟩) 1 1 (mvV ⟨ch, S, t⟩) rfl
                  ⟨rfl, fun _ => ⟨_, rfl, fun t u hu => by rw [addr_add, Nat.zero_add, cell_of_row _ _ _ _ _ _ hn7]; simpa [mvV] using hu⟩⟩ (mvV_one _) (by unfold maxLen; omega) (by omega) ?_
                intro v8 w8 hr8 hk8 hv8
                refine hK _ _ ?_
                clear hK K
                obtain ⟨a8, c8, rfl, -⟩ := hr8.form
                have hd8 := hd7.push ⟨ch, S, t⟩ hk8 (by rw [← HM2.out]; exact hr8) hv8
                obtain ⟨g', cap', hvg', q0, q1, q2⟩ := hd8.pls.at i hyl
                obtain rfl := slice_block hvg'
                clear hvg'
                rw [← HN.out.2.1] at q1
                have hints8 : IntsV w8 (.slice an nl.length cn) nl := IntsV.of_row (by have := hd8.pls.each _ (List.getElem_mem hyl); rw [← HN.out.2.1, ← HN.out.1] at this; exact this) (by have := (hd8.pls.i64 _ (List.getElem_mem hyl)).2; rw [← HN.out.1] at this; exact this)
                have hwi := with_any w8 _ nl t hints8 (by have := HTs.out.2.1; have := HM.out.2; unfold I64; omega) (by have := rise_len HN.out.2.2.2.2.2.1; have := HM.out.2; omega)
                have HWi := hid hwi
                have HD8 := hid hd8
                clear hr8 hk8 hv8 hd8 hd7 hr7 hn7 hk7 q0 q2 hints8 hwi
                go_wp2_with (at_builtin; refine stopAt ?_; intro q hq)
                refine HWi.out.mono ?_
                rintro e w9 ⟨v9, rfl, ho9, hk9⟩
                obtain ⟨a9, c9, rfl, -⟩ := ho9.1.form
                have hset := HD8.out.set i hyl (g := g) (cap := cv) (by rw [HI.out.2.1]) hk9 ho9
                have hq := cell_old hk9 _ _ q1
                have hqf : w9.frozen? ⟨g, i * 2 + 1, none⟩ = false := by
                  obtain ⟨g', cap', hvg', -, -, h3⟩ := (HD8.out.later hk9).pls.at i hyl
                  obtain rfl := slice_block hvg'
                  exact h3
                obtain ⟨L9, hL9⟩ : ∃ L9, L9 = (withN nl t).length := ⟨_, rfl⟩
                rw [← hL9] at hset ⊢
                have hf0 : ∃ f', f = f' + 1 := ⟨f - 1, by have := HI.out.2.2.fuel; rw [HN.out.2.2.2.1, ← HN.out.2.2.2.2.2.2.2] at this; omega⟩
                obtain ⟨f', rfl⟩ := hf0
                have hst := HI.out.2.2.step hil (by rw [HN.out.2.2.2.1, ← HN.out.2.2.2.2.2.2.2]; exact hl0) (by rw [HN.out.2.2.2.1, ← HN.out.2.2.2.2.2.2.2]; exact hl1) (by rw [HN.out.2.2.2.1]; exact HTs.out.1) (by rw [HN.out.2.2.2.1]; exact HTs.out.2.2.2.1) HTs.out.2.2.1 HTs.out.2.1
                rw [HN.out.2.2.2.1, HN.out.2.2.2.2.1, ← HTs.out.2.2.2.2, ← map_set_fst ys i hyl _ (.slice a9 L9 c9)] at hst
                have HFin := hid (And.intro hset (And.intro (show (ys.set i (⟨ys[i].1.chunk, withN nl t⟩, .slice a9 L9 c9)).length = m by rw [List.length_set]; exact HI.out.2.1) hst))
                have hmeas : 12 * (i + 1) - (M2 + 1) < 12 * (i + 1) - M2 := by have := HI.out.2.2.msl; have := HM2.out; omega
                clear ho9 hk9 hset hL9 hst q1
                go_wp2_with (at_builtin; refine stopAt ?_; intro q hq)
                exact ⟨⟨_, _, _, _, rfl, HFin⟩, hmeas⟩
            · have t2 : decide ((L : Int) < (cp : Int)) = false := by simp; omega
              have hd := HI.out.2.2.out (planAt_end (by rw [HN.out.2.2.2.1, ← HN.out.2.2.2.2.2.2.2]; omega))
              have HD := hid (And.intro (HI.out.1.later HK4.out) (And.intro HI.out.2.1 hd))
              clear hd
              go_wp2_with (at_builtin; refine stopAt ?_; intro q hq)
              exact ⟨⟨i + 1, ys, ms2, _, by omega, by go_num, rfl, HD⟩, by simp [intOf]; omega⟩
          · have t1 : decide ((0 : Int) < (L : Int)) = false := by simp; omega
            have hd := HI.out.2.2.out (planAt_end (by rw [HN.out.2.2.2.1, ← HN.out.2.2.2.2.2.2.2]; omega))
            have HD := hid (And.intro (HI.out.1.later HK3.out) (And.intro HI.out.2.1 hd))
            clear hd
            go_wp2_with (at_builtin; refine stopAt ?_; intro q hq)
            exact ⟨⟨i + 1, ys, ms2, _, by omega, by go_num, rfl, HD⟩, by simp [intOf]; omega⟩
      · have h4 : decide ((i : Int) < m) = false := by simp; omega
        have htot : (plan s up cp ps).1 = ms := by
          have := HR.out.2.2.tot
          rw [show ps.length - i = 0 by have := HM.out.1; omega] at this
          simpa [planFrom] using this
        have HF := hid htot
        clear htot
        go_wp2_with (at_builtin; refine stopAt ?_; intro q hq)
        rw [HPost.out]
        exact ⟨HR.out.1.keep, .inr (.inr ⟨HE0.out, by omega, _, rfl, by rw [HF.out]; exact HR.out.1.row, fun k e => (HR.out.1.own k e).1⟩)⟩
  · have t0 : ((E : Int) != 0) = true := by simp; omega
    have HE1 := hid (show check s ps ≠ 0 by rw [← HE.out]; exact hE0)
    clear hE0
    go_wp2_with (at_builtin; refine stopAt ?_; intro q hq)
    rw [HPost.out]
    exact ⟨HK1.out, .inl ⟨HE1.out, by rw [← HE.out]; rfl⟩⟩
end Go.Proofs.Ytmdonjadhkffiaa
/- Heal: the document's Drop. Conditions: as each law names them. -/
namespace Go.Proofs.Ytmdonjadhkffiaa
open Go.RowKit
open HE

set_option maxHeartbeats 4000000 in
set_option maxRecDepth 20000 in
theorem rdrop_any (w : World) (v u : Value) (s : List Int) (ps : List Pl) (up : Nat) (copies : Int) (hs : IntsV w v s) (hp : PlsV w u ps) (hup : up < 4294967296) (hc64 : I64 copies) :
    Calls Try.prog 17 #[v, .int .u32 (up : Int), .int .i64 copies, u] w (PlanPost w s ps up copies (drop s up copies.toNat ps).1) := by
  have HQ := hid (rcheck_any w v u s ps hs hp)
  have HSV := hid hs
  have HPV := hid hp
  obtain ⟨Post, hPost⟩ : ∃ Post, Post = PlanPost w s ps up copies (drop s up copies.toNat ps).1 := ⟨_, rfl⟩
  rw [← hPost]
  have HPost := hid hPost
  obtain ⟨aS, cS, rfl, hmS, -, -⟩ := hs
  obtain ⟨aP, cP, rfl, hmP, -⟩ := hp
  obtain ⟨m, hmm⟩ : ∃ m, m = ps.length := ⟨_, rfl⟩
  obtain ⟨N, hN⟩ : ∃ N, N = s.length := ⟨_, rfl⟩
  rw [← hmm] at HQ HPV hmP ⊢
  rw [← hN] at HQ HSV hmS ⊢
  have HM := hid (And.intro hmm hN)
  unfold I64 at hc64
  have hm63 : (m : Int) ≤ 9223372036854775807 := by unfold maxLen at hmP; omega
  obtain ⟨E, hE⟩ : ∃ E, E = check s ps := ⟨_, rfl⟩
  rw [← hE] at HQ
  have HE := hid hE
  clear hPost hmm hN hE
  go_enter Try.func17, Try.ntmps17
  go_wp2_with (at_builtin; refine stopAt ?_; intro q hq)
  refine HQ.out.mono ?_
  rintro e w1 ⟨rfl, hk1⟩
  have HK1 := hid hk1
  clear hk1
  by_cases hE0 : E = 0
  · have HE0 := hid (show check s ps = 0 by rw [← HE.out, hE0])
    subst hE0
    have t0 : (((0 : Nat) : Int) != 0) = false := by decide
    by_cases hc1 : copies < 1
    · have t1 : decide (copies < 1) = true := by simpa using hc1
      have H1 := hid hc1
      clear hc1
      go_wp2_with (at_builtin; refine stopAt ?_; intro q hq)
      rw [HPost.out]
      exact ⟨HK1.out, .inr (.inl ⟨HE0.out, .inl H1.out, rfl⟩)⟩
    have t1 : decide (copies < 1) = false := by simpa using hc1
    by_cases hc2 : 12 < copies
    · have t2 : decide (12 < copies) = true := by simpa using hc2
      have H1 := hid hc2
      clear hc1 hc2
      go_wp2_with (at_builtin; refine stopAt ?_; intro q hq)
      rw [HPost.out]
      exact ⟨HK1.out, .inr (.inl ⟨HE0.out, .inr H1.out, rfl⟩)⟩
    have t2 : decide (12 < copies) = false := by simpa using hc2
    obtain ⟨cp, hcp⟩ : ∃ cp : Nat, (cp : Int) = copies := ⟨copies.toNat, by omega⟩
    have hcp12 : 1 ≤ cp ∧ cp ≤ 12 := by omega
    subst hcp
    rw [Int.toNat_natCast] at HPost
    have hcz := check_zero HE0.out
    have hN12 : N ≤ 12 := by have := HM.out.2; omega
    have hm256 : m ≤ 256 := by have := HM.out.1; omega
    have HCo := hid (rcopy_any w1 _ ps (HPV.out.keep HK1.out) ⟨by omega, fun p hp => by have := rise_len (hcz.2.2 p hp); omega⟩)
    have H0 := hid (And.intro hcz.2.2 hcz.1)
    clear hc1 hc2 hcz
    go_wp2_with (at_builtin; refine stopAt ?_; intro q hq)
    refine HCo.out.mono ?_
    rintro e w2 ⟨vp, xs0, rfl, hx0, hpo, hk2⟩
    obtain ⟨av, cv, rfl, -⟩ := hpo.row.form
    have hxl : xs0.length = m := by have := congrArg List.length hx0; rw [List.length_map] at this; have := HM.out.1; omega
    rw [hxl] at hpo ⊢
    have hdoc : DocAt w w2 (.slice av m cv) xs0 (.slice none 0 0) [] := DocAt.first (by
      have hs := HK1.out.size
      exact ⟨hpo.row, hpo.each, fun k e => by have := hpo.own k e; omega, fun x hx k e => ⟨by have := (hpo.owns x hx k e).1; omega, (hpo.owns x hx k e).2⟩, hpo.apart, hpo.i64⟩) (HK1.out.next hk2 (fun _ _ x => x) (fun _ _ x => x))
    have HD0 := hid (And.intro hdoc (And.intro hxl (show QOut s up cp ps 0 (xs0.map (·.1)) [] by rw [hx0]; exact QOut.first H0.out.1)))
    clear hpo hxl hdoc hx0 hk2
    go_wp2_with (at_builtin; refine stopAt ?_; intro q hq)
    go_loopw [12, 13] (fun ov iv wr => ∃ (i : Nat) (xs : List (Pl × Value)) (ms : List Mv) (ow : Value), i ≤ m ∧ iv = .int .i64 i ∧ ow = ov ∧ Hid (DocAt w wr (.slice av m cv) xs ow ms ∧ xs.length = m ∧ QOut s up cp ps i (xs.map (·.1)) ms)) (fun _ iv _ => m - (intOf iv).toNat)
    case atStart => exact ⟨0, xs0, [], _, Nat.zero_le _, rfl, rfl, HD0⟩
    case round =>
      obtain ⟨i, xs, ms, ov, hi, rfl, rfl, HR⟩ := hrel
      by_cases hin : i < m
      · have h4 : (i : Int) < m := by omega
        have hil : i < ps.length := by have := HM.out.1; omega
        have HI0 := hid (And.intro HR.out.1 (And.intro HR.out.2.1 (HR.out.2.2.start hil (by have := HM.out.2; omega))))
        go_wp2_with (at_builtin; refine stopAt ?_; intro q hq)
        go_loopw [12] (fun ov2 wy => ∃ (f : Nat) (ys : List (Pl × Value)) (ms2 : List Mv) (ow : Value), ow = ov2 ∧ Hid (DocAt w wy (.slice av m cv) ys ow ms2 ∧ ys.length = m ∧ QIn s up cp ps i f (ys.map (·.1)) ms2)) (fun ov2 _ => 12 * (i + 1) - lenOf ov2)
        case atStart => exact ⟨_, xs, ms, _, rfl, HI0⟩
        case round =>
          obtain ⟨f, ys, ms2, ow, rfl, HI⟩ := hrel
          obtain ⟨ao, co, rfl, hoc, hom, -, -⟩ := HI.out.1.row.form
          obtain ⟨M2, hM2⟩ : ∃ M2, M2 = ms2.length := ⟨_, rfl⟩
          rw [← hM2] at HI hoc ⊢
          have HM2 := hid hM2
          have hyl : i < ys.length := by have := HI.out.2.1; omega
          obtain ⟨g, cap, hvg, p0, p1, p2⟩ := HI.out.1.pls.at i hyl
          have hav : av = some ⟨g, 0, none⟩ := by injection hvg
          subst hav
          have hnode := nodesAt_fst hyl
          have hchunk := chunkAt_fst hyl
          have hrise := HI.out.2.2.wf.at i
          have hrow := HI.out.1.pls.each _ (List.getElem_mem hyl)
          have hiz := (HI.out.1.pls.i64 _ (List.getElem_mem hyl)).2
          obtain ⟨nl, hnl⟩ : ∃ nl, nl = ys[i].1.nodes := ⟨_, rfl⟩
          obtain ⟨nv, hnv⟩ : ∃ nv, nv = ys[i].2 := ⟨_, rfl⟩
          obtain ⟨ch, hch⟩ : ∃ ch, ch = ys[i].1.chunk := ⟨_, rfl⟩
          rw [← hnl] at hnode hrow hiz
          rw [hnode] at hrise
          rw [← hnv] at hrow p1
          rw [← hch] at p0 hchunk
          obtain ⟨an, cn, rfl, -⟩ := hrow.form
          have hints : IntsV wr (.slice an nl.length cn) nl := IntsV.of_row hrow hiz
          have HLv := hid (fun wq hk => live_any wq up _ nl hup (hints.keep (w' := wq) hk) (fun x hx => by have := hrise.2 x hx; have := HM.out.2; omega))
          obtain ⟨L, hL⟩ : ∃ L, L = (live up nl).length := ⟨_, rfl⟩
          rw [← hL] at HLv
          have HN := hid (And.intro hnl (And.intro hnv (And.intro hch (And.intro hnode (And.intro hchunk (And.intro hrise (And.intro hints hL)))))))
          have himI : (i : Int) < m := by omega
          clear hM2 hvg hnode hchunk hrise hrow hiz hnl hnv hch hints hL hoc hom
          have q1 := p1
          go_wp2_with (at_builtin; refine stopAt ?_; intro q hq)
          refine (HLv.out wr (Keep.refl _ _)).mono ?_
          rintro e w3 ⟨rfl, hk3⟩
          have HK3 := hid hk3
          have p1 := cell_old hk3 _ _ p1
          clear hk3
          by_cases hl1 : cp < L
          · have t1 : decide ((cp : Int) < (L : Int)) = true := by simp; omega
            have HBt := hid (fun wq (hk : Keep (fun _ => False) wr wq) (a b : Int) ha hb => better_any wq _ _ s (ys.map (·.1)) up i a b (HSV.out.keep (HI.out.1.keep.next hk (fun _ _ x => x) (fun _ _ x => x))) (HI.out.1.later hk).pls.pls hup (by have := HM.out.2; omega) (by rw [List.length_map]; exact hyl) (by rw [HN.out.2.2.2.1]; exact HN.out.2.2.2.2.2.1) ha hb)
            rw [HN.out.2.2.2.1, ← HM.out.2] at HBt
            have HH := hid (fun wq hk (n : Int) => has_any wq _ nl n (HN.out.2.2.2.2.2.2.1.keep (w' := wq) hk))
            have HU := hid (fun wq (n : Int) h0 h1 => up_any wq up n hup h0 h1)
            obtain ⟨lt, hlt⟩ : ∃ lt : Int → Int → Bool, lt = fun x y => better s up (ys.map (·.1)) nl y x := ⟨_, rfl⟩
            have HLt := hid hlt
            have hN63 : (N : Int) ≤ 9223372036854775807 := by omega
            clear hlt
            go_wp2_with (at_builtin; refine stopAt ?_; intro q hq)
            go_loopw [14, 15] (fun bv kv wz => ∃ (k : Nat) (o : Option Int), k ≤ N ∧ kv = .int .i64 k ∧ bv = .int .i64 (o.getD (-1)) ∧ Hid (Keep (fun _ => False) wr wz ∧ o = pickFrom lt none ((nums k).filter fun n => decide (n ∈ nl) && isUp up n))) (fun _ kv _ => N - (intOf kv).toNat)
            case atStart => exact ⟨0, none, Nat.zero_le _, rfl, rfl, hid ⟨HK3.out, rfl⟩⟩
            case round =>
              obtain ⟨k, o, hk, rfl, rfl, HK⟩ := hrel
              by_cases hkn : k < N
              · have h5 : (k : Int) < N := by omega
                have p1 := cell_old HK.out.1 _ _ q1
                obtain ⟨B, hB⟩ : ∃ B, B = isUp up (k : Int) := ⟨_, rfl⟩
                obtain ⟨C, hC⟩ : ∃ C, C = decide ((k : Int) ∈ nl) := ⟨_, rfl⟩
                have hst : (nums (k + 1)).filter (fun n => decide (n ∈ nl) && isUp up n) = (nums k).filter (fun n => decide (n ∈ nl) && isUp up n) ++ if C && B then [(k : Int)] else [] := by
                  rw [nums_snoc, List.filter_append, List.filter_cons, ← hB, ← hC]
                  rfl
                have HS := hid (And.intro hst (And.intro hB hC))
                clear hst hB hC
                go_wp2_with (at_builtin; refine stopAt ?_; intro q hq)
                refine (HH.out wr HK.out.1 (k : Int)).mono ?_
                rintro e w5 ⟨rfl, hk5⟩
                have HK5 := hid (HK.out.1.next hk5 (fun _ _ x => x) (fun _ _ x => x))
                rw [← HS.out.2.2]
                clear hk5 p1
                cases C with
                | false =>
                  go_wp2_with (at_builtin; refine stopAt ?_; intro q hq)
                  exact ⟨⟨k + 1, o, by omega, by go_num, rfl, hid ⟨HK5.out, by rw [HS.out.1, HK.out.2]; simp⟩⟩, by simp [intOf]; omega⟩
                | true =>
                  go_wp2_with (at_builtin; refine stopAt ?_; intro q hq)
                  refine (HU.out w5 (k : Int) (by omega) (by omega)).mono ?_
                  rintro e w6 ⟨rfl, rfl⟩
                  rw [← HS.out.2.1]
                  cases B with
                  | false =>
                    go_wp2_with (at_builtin; refine stopAt ?_; intro q hq)
                    exact ⟨⟨k + 1, o, by omega, by go_num, rfl, hid ⟨HK5.out, by rw [HS.out.1, HK.out.2]; simp⟩⟩, by simp [intOf]; omega⟩
                  | true =>
                    cases ho : o with
                    | none =>
                      have t2 : decide ((-1 : Int) < 0) = true := by decide
                      have HO := hid ho
                      clear ho
                      dsimp only [Option.getD]
                      go_wp2_with (at_builtin; refine stopAt ?_; intro q hq)
                      exact ⟨⟨k + 1, some (k : Int), by omega, by go_num, rfl, hid ⟨HK5.out, by
                        rw [HS.out.1]
                        show some (k : Int) = pickFrom lt none (_ ++ [(k : Int)])
                        rw [pick_snoc, ← HK.out.2, HO.out]⟩⟩, by simp [intOf]; omega⟩
                    | some y =>
                      have hy : 0 ≤ y ∧ y < N := by
                        have h1 := HK.out.2
                        rw [ho] at h1
                        rcases pick_mem lt _ _ _ h1.symm with h2 | h2
                        · have h3 := mem_nums.1 (List.mem_filter.1 h2).1
                          omega
                        · cases h2
                      have HO := hid ho
                      clear ho
                      dsimp only [Option.getD]
                      have t2 : decide (y < 0) = false := by simp; omega
                      have hbt := HBt.out w5 HK5.out y (k : Int) hy (by omega)
                      obtain ⟨b2, hb2⟩ : ∃ b2, b2 = lt (k : Int) y := ⟨_, rfl⟩
                      rw [show better s up (ys.map (·.1)) nl y (k : Int) = b2 by rw [hb2, HLt.out]] at hbt
                      have HBq := hid hbt
                      have Hb2 := hid hb2
                      clear hb2 hbt
                      go_wp2_with (at_builtin; refine stopAt ?_; intro q hq)
                      refine HBq.out.mono ?_
                      rintro e w7 ⟨rfl, hk7⟩
                      have HK7 := hid (HK5.out.next hk7 (fun _ _ x => x) (fun _ _ x => x))
                      clear hk7
                      cases b2 with
                      | true =>
                        go_wp2_with (at_builtin; refine stopAt ?_; intro q hq)
                        exact ⟨⟨k + 1, some (k : Int), by omega, by go_num, rfl, hid ⟨HK7.out, by
                          rw [HS.out.1]
                          show some (k : Int) = pickFrom lt none (_ ++ [(k : Int)])
                          rw [pick_snoc, ← HK.out.2, HO.out]
                          simp only
                          rw [← Hb2.out, if_pos rfl]⟩⟩, by simp [intOf]; omega⟩
                      | false =>
                        go_wp2_with (at_builtin; refine stopAt ?_; intro q hq)
                        exact ⟨⟨k + 1, some y, by omega, by go_num, rfl, hid ⟨HK7.out, by
                          rw [HS.out.1]
                          show some y = pickFrom lt none (_ ++ [(k : Int)])
                          rw [pick_snoc, ← HK.out.2, HO.out]
                          simp only
                          rw [← Hb2.out, if_neg (by simp)]⟩⟩, by simp [intOf]; omega⟩
              · have h5 : decide ((k : Int) < N) = false := by simp; omega
                have hfull : o = worst s up (ys.map (·.1)) nl := by
                  rw [HK.out.2]
                  unfold worst
                  rw [live_nums HN.out.2.2.2.2.2.1, HLt.out, show k = s.length by have := HM.out.2; omega]
                rcases worst_spec s up (ys.map (·.1)) nl with ⟨-, htn⟩ | ⟨t, hts, htm, -⟩
                · have := HN.out.2.2.2.2.2.2.2
                  rw [htn] at this
                  simp at this
                  omega
                · rw [show o.getD (-1) = t by rw [hfull, hts]; rfl]
                  have hrise := HN.out.2.2.2.2.2.1
                  have htr := hrise.2 t (List.mem_filter.1 htm).1
                  have HTs := hid (And.intro hts (And.intro htm htr))
                  have HK6 := hid HK.out.1
                  have p0 := cell_old HK6.out _ _ p0
                  clear hfull hts htm htr hrise HK
                  go_wp2_with (at_builtin; refine stopAt ?_; intro q hq)
                  (refine hq.out ?_; clear hq q)
                  have hn7 := heap_alloc_new wr (.cells #[.int .i64 ch, .int .i64 t, .int .i64 (-1)] 52)
                  have hk7 : Keep (fun _ => False) wr (wr.alloc (.cells #[.int .i64 ch, .int .i64 t, .int .i64 (-1)] 52)) := (Keep.refl _ _).alloc _
                  obtain ⟨w7, hw7⟩ : ∃ w7, w7 = wr.alloc (.cells #[.int .i64 ch, .int .i64 t, .int .i64 (-1)] 52) := ⟨_, rfl⟩
                  rw [← hw7] at hn7 hk7 ⊢
                  clear hw7 p0
                  have hd7 := HI.out.1.later (HK6.out.next hk7 (fun _ _ x => x) (fun _ _ x => x))
                  have hr7 := hd7.row
                  rw [← HM2.out] at hr7
                  have hml : M2 ≤ 100000 := by have := HI.out.2.2.msl; have := HM2.out; omega
                  refine wpList_plain rfl (fun K hK => ?_)
                  refine wp_append ty_moves (.tmp 79) (.tmp 87) rfl rfl hr7 (some ⟨wr.heap.size, 0, none⟩) 1 1 (mvV ⟨ch, t, -1⟩) rfl
                    ⟨rfl, fun _ => ⟨_, rfl, fun t u hu => by rw [addr_add, Nat.zero_add, cell_of_row _ _ _ _ _ _ hn7]; simpa [mvV] using hu⟩⟩ (mvV_one _) (by unfold maxLen; omega) (by omega) ?_
                  intro v8 w8 hr8 hk8 hv8
                  refine hK _ _ ?_
                  clear hK K
                  obtain ⟨a8, c8, rfl, -⟩ := hr8.form
                  have hd8 := hd7.push ⟨ch, t, -1⟩ hk8 (by rw [← HM2.out]; exact hr8) hv8
                  obtain ⟨g', cap', hvg', q0, q1, q2⟩ := hd8.pls.at i hyl
                  obtain rfl := slice_block hvg'
                  clear hvg'
                  rw [← HN.out.2.1] at q1
                  have hints8 : IntsV w8 (.slice an nl.length cn) nl := IntsV.of_row (by have := hd8.pls.each _ (List.getElem_mem hyl); rw [← HN.out.2.1, ← HN.out.1] at this; exact this) (by have := (hd8.pls.i64 _ (List.getElem_mem hyl)).2; rw [← HN.out.1] at this; exact this)
                  have hwi := without_any w8 _ nl t hints8 (by have := HTs.out.2.2; have := HM.out.2; unfold I64; omega) (by have := rise_len HN.out.2.2.2.2.2.1; have := HM.out.2; omega)
                  have HWi := hid hwi
                  have HD8 := hid hd8
                  clear hr8 hk8 hv8 hd8 hd7 hr7 hn7 hk7 q0 q2 hints8 hwi
                  go_wp2_with (at_builtin; refine stopAt ?_; intro q hq)
                  refine HWi.out.mono ?_
                  rintro e w9 ⟨v9, rfl, ho9, hk9⟩
                  obtain ⟨a9, c9, rfl, -⟩ := ho9.1.form
                  have hset := HD8.out.set i hyl (g := g) (cap := cv) (by rw [HI.out.2.1]) hk9 ho9
                  have hq := cell_old hk9 _ _ q1
                  have hqf : w9.frozen? ⟨g, i * 2 + 1, none⟩ = false := by
                    obtain ⟨g', cap', hvg', -, -, h3⟩ := (HD8.out.later hk9).pls.at i hyl
                    obtain rfl := slice_block hvg'
                    exact h3
                  obtain ⟨L9, hL9⟩ : ∃ L9, L9 = (without nl t).length := ⟨_, rfl⟩
                  rw [← hL9] at hset ⊢
                  have hf0 : ∃ f', f = f' + 1 := ⟨f - 1, by have := HI.out.2.2.fuel; rw [HN.out.2.2.2.1, ← HN.out.2.2.2.2.2.2.2] at this; omega⟩
                  obtain ⟨f', rfl⟩ := hf0
                  have hst := HI.out.2.2.step hil (by rw [HN.out.2.2.2.1, ← HN.out.2.2.2.2.2.2.2]; exact hl1) (by rw [HN.out.2.2.2.1]; exact HTs.out.1) (by rw [HN.out.2.2.2.1]; exact HTs.out.2.1)
                  rw [HN.out.2.2.2.1, HN.out.2.2.2.2.1, ← map_set_fst ys i hyl _ (.slice a9 L9 c9)] at hst
                  have HFin := hid (And.intro hset (And.intro (show (ys.set i (⟨ys[i].1.chunk, without nl t⟩, .slice a9 L9 c9)).length = m by rw [List.length_set]; exact HI.out.2.1) hst))
                  have hmeas : 12 * (i + 1) - (M2 + 1) < 12 * (i + 1) - M2 := by have := HI.out.2.2.msl; have := HM2.out; omega
                  clear ho9 hk9 hset hL9 hst q1
                  go_wp2_with (at_builtin; refine stopAt ?_; intro q hq)
                  exact ⟨⟨_, _, _, _, rfl, HFin⟩, hmeas⟩
          · have t1 : decide ((cp : Int) < (L : Int)) = false := by simp; omega
            have hd := HI.out.2.2.out (by rw [HN.out.2.2.2.1, ← HN.out.2.2.2.2.2.2.2]; exact hl1)
            have HD := hid (And.intro (HI.out.1.later HK3.out) (And.intro HI.out.2.1 hd))
            clear hd
            go_wp2_with (at_builtin; refine stopAt ?_; intro q hq)
            exact ⟨⟨i + 1, ys, ms2, _, by omega, by go_num, rfl, HD⟩, by simp [intOf]; omega⟩
      · have h4 : decide ((i : Int) < m) = false := by simp; omega
        have htot : (drop s up cp ps).1 = ms := by
          have := HR.out.2.2.tot
          rw [show ps.length - i = 0 by have := HM.out.1; omega] at this
          simpa [dropFrom] using this
        have HF := hid htot
        clear htot
        go_wp2_with (at_builtin; refine stopAt ?_; intro q hq)
        rw [HPost.out]
        exact ⟨HR.out.1.keep, .inr (.inr ⟨HE0.out, by omega, _, rfl, by rw [HF.out]; exact HR.out.1.row, fun k e => (HR.out.1.own k e).1⟩)⟩
  · have t0 : ((E : Int) != 0) = true := by simp; omega
    have HE1 := hid (show check s ps ≠ 0 by rw [← HE.out]; exact hE0)
    clear hE0
    go_wp2_with (at_builtin; refine stopAt ?_; intro q hq)
    rw [HPost.out]
    exact ⟨HK1.out, .inl ⟨HE1.out, by rw [← HE.out]; rfl⟩⟩
end Go.Proofs.Ytmdonjadhkffiaa
/- Heal: the document's Apply. Conditions: as each law names them. -/
namespace Go.Proofs.Ytmdonjadhkffiaa
open Go.RowKit
open HE

def natV : Option Nat → Int
  | some i => (i : Int)
  | none => -1
theorem find_range (qs : List Pl) (c : Int) : find qs c = (List.range qs.length).find? fun i => decide (chunkAt qs i = c) := by
  have hc : ∀ i (hi : i < qs.length), chunkAt qs i = qs[i].chunk := fun i hi => chunk_get hi
  cases hf : find qs c with
  | none =>
    symm
    rw [List.find?_eq_none]
    intro i hi
    have hi := List.mem_range.1 hi
    unfold find at hf
    have := List.findIdx?_eq_none_iff.1 hf qs[i] (List.getElem_mem hi)
    rw [hc i hi]
    simpa using this
  | some i =>
    unfold find at hf
    obtain ⟨h1, h2, h3⟩ := List.findIdx?_eq_some_iff_getElem.1 hf
    symm
    rw [List.find?_range_eq_some]
    refine ⟨by rw [hc i h1]; exact h2, List.mem_range.2 h1, fun j hj => ?_⟩
    rw [hc j (by omega)]
    simpa using h3 j hj
theorem range_drop {n j : Nat} (h : j < n) : (List.range n).drop j = j :: (List.range n).drop (j + 1) := by
  rw [List.drop_eq_getElem_cons (by simpa using h)]
  congr 1
  simp

set_option maxHeartbeats 4000000 in
set_option maxRecDepth 20000 in
theorem rapply_any (w : World) (u v : Value) (ps : List Pl) (ms : List Mv) (hp : PlsV w u ps) (hm : MvsV w v ms) (hsm : ps.length ≤ 100000 ∧ (∀ p ∈ ps, p.nodes.length ≤ 100000) ∧ ms.length ≤ 100000) :
    Calls Try.prog 22 #[u, v] w (ApplyPost w ps ms) := by
  obtain ⟨Post, hPost⟩ : ∃ Post, Post = ApplyPost w ps ms := ⟨_, rfl⟩
  rw [← hPost]
  have HPost := hid hPost
  have HFm := hid (rformed_any w u ps 4611686018427387904 hp (by unfold I64; omega))
  have HPV := hid hp
  have HMV := hid hm
  have HS := hid hsm
  obtain ⟨aP, cP, rfl, hmP, -⟩ := hp
  obtain ⟨aM, cM, rfl, hmM, -, -⟩ := hm
  obtain ⟨n, hn⟩ : ∃ n, n = ps.length := ⟨_, rfl⟩
  obtain ⟨m, hmm⟩ : ∃ m, m = ms.length := ⟨_, rfl⟩
  rw [← hn] at HFm HPV hmP ⊢
  rw [← hmm] at HMV hmM ⊢
  have HN := hid (And.intro hn hmm)
  have hn63 : (n : Int) ≤ 9223372036854775807 := by unfold maxLen at hmP; omega
  have hm63 : (m : Int) ≤ 9223372036854775807 := by unfold maxLen at hmM; omega
  obtain ⟨G, hG⟩ : ∃ G, G = formed ps 4611686018427387904 := ⟨_, rfl⟩
  rw [← hG] at HFm
  have HG := hid hG
  clear hPost hsm hn hmm hG
  go_enter Try.func22, Try.ntmps22
  go_wp2_with (at_builtin; refine stopAt ?_; intro q hq)
  refine HFm.out.mono ?_
  rintro e w1 ⟨rfl, hk1⟩
  have HK1 := hid hk1
  clear hk1
  cases G with
  | false =>
    simp only [Bool.false_eq_true, if_false]
    go_wp2_with (at_builtin; refine stopAt ?_; intro q hq)
    rw [HPost.out]
    exact ⟨HK1.out, .inl ⟨by unfold apply; rw [← HG.out]; rfl, rfl⟩⟩
  | true =>
    simp only [if_true]
    have HCo := hid (rcopy_any w1 _ ps (HPV.out.keep HK1.out) ⟨HS.out.1, HS.out.2.1⟩)
    go_wp2_with (at_builtin; refine stopAt ?_; intro q hq)
    refine HCo.out.mono ?_
    rintro e w2 ⟨vp, xs0, rfl, hx0, hpo, hk2⟩
    obtain ⟨av, cv, rfl, hcap1, hcap2, -⟩ := hpo.row.form
    have hxl : xs0.length = n := by have := congrArg List.length hx0; rw [List.length_map] at this; have := HN.out.1; omega
    rw [hxl] at hpo ⊢
    have h0 : ApplyIn w w2 ps ms 0 (.slice av n cv) xs0 := by
      refine ⟨?_, HK1.out.next hk2 (fun _ _ x => x) (fun _ _ x => x), ?_, fun x hx => ?_⟩
      · have hs := HK1.out.size
        exact ⟨hpo.row, hpo.each, fun k e => by have := hpo.own k e; omega, fun x hx k e => ⟨by have := (hpo.owns x hx k e).1; omega, (hpo.owns x hx k e).2⟩, hpo.apart, hpo.i64⟩
      · unfold apply
        rw [← HG.out, if_pos rfl, hx0]
        rfl
      · have hx' : x.1 ∈ xs0.map (·.1) := List.mem_map_of_mem hx
        rw [hx0] at hx'
        have hf := HG.out
        unfold formed at hf
        have hf2 := Bool.and_eq_true_iff.1 hf.symm
        exact ⟨(formedFrom_wf (hi := 4611686018427387904) ps (-1) hf2.2 _ hx').1.1, HS.out.2.1 _ hx'⟩
    have H0 := hid (And.intro hxl h0)
    clear hpo hxl h0 hx0 hk2 hcap1 hcap2
    go_wp2_with (at_builtin; refine stopAt ?_; intro q hq)
    go_loopw [8] (fun jv wy => ∃ (j : Nat) (ys : List (Pl × Value)), j ≤ m ∧ jv = .int .i64 j ∧ Hid (ys.length = n ∧ ApplyIn w wy ps ms j (.slice av n cv) ys)) (fun jv _ => m - (intOf jv).toNat)
    case atStart => exact ⟨0, xs0, Nat.zero_le _, rfl, H0⟩
    case round =>
      obtain ⟨j, ys, hj, rfl, HY⟩ := hrel
      by_cases hjn : j < m
      · have h5 : (j : Int) < m := by omega
        have hjl : j < ms.length := by have := HN.out.2; omega
        obtain ⟨ad, rfl, g0, g1, g2⟩ := HMV.out.at j hjl
        have a0 := cell_old HY.out.2.keep _ _ g0
        have a1 := cell_old HY.out.2.keep _ _ g1
        have a2 := cell_old HY.out.2.keep _ _ g2
        have hI : I64 ms[j].chunk ∧ I64 ms[j].src ∧ I64 ms[j].dst := by
          obtain ⟨_, _, _, _, h, _⟩ := HMV.out
          exact h _ (List.getElem_mem hjl)
        obtain ⟨mc, hmc⟩ : ∃ x, x = ms[j].chunk := ⟨_, rfl⟩
        obtain ⟨mf, hmf⟩ : ∃ x, x = ms[j].src := ⟨_, rfl⟩
        obtain ⟨mt, hmt⟩ : ∃ x, x = ms[j].dst := ⟨_, rfl⟩
        rw [← hmc] at a0
        rw [← hmf] at a1
        rw [← hmt] at a2
        have hmv : ms[j] = ⟨mc, mf, mt⟩ := by rw [hmc, hmf, hmt]
        have hstep := moveAll_step (ps := ys.map (·.1)) hjl
        rw [hmv] at hstep hI
        have HST := hid (And.intro hstep hI)
        clear g0 g1 g2 hmc hmf hmt hmv hstep hI
        have hk2 : Keep (fun _ => False) wr (wr.alloc (.cells #[.int .i64 mc, .int .i64 mf, .int .i64 mt] 52)) := (Keep.refl _ _).alloc _
        have hn2 := heap_alloc_new wr (.cells #[.int .i64 mc, .int .i64 mf, .int .i64 mt] 52)
        go_upto_region 9 with fail
        obtain ⟨c3, hc3⟩ : ∃ c3, c3 = wr.heap.size := ⟨_, rfl⟩
        obtain ⟨w2, hw2⟩ : ∃ w2, w2 = wr.alloc (.cells #[.int .i64 mc, .int .i64 mf, .int .i64 mt] 52) := ⟨_, rfl⟩
        rw [← hw2] at hk2
        rw [← hw2, ← hc3] at hn2
        rw [← hw2, ← hc3]
        have H2 := hid (And.intro hn2 (HY.out.2.later hk2))
        have wn : IntKind.i64.wrap ((n : Int) - 1) = (n : Int) - 1 := by simp [IntKind.wrap, IntKind.signed, IntKind.bits]; omega
        clear hw2 hc3 hk2 hn2 a0 a1 a2
        go_wp2_with (at_builtin; refine stopAt ?_; intro q hq)
        go_loopw [10, 11] (fun bv kv wz => ∃ (k : Nat) (o : Option Nat), k ≤ n ∧ kv = .int .i64 ((k : Int) - 1) ∧ bv = .int .i64 (natV o) ∧ Hid (Keep (fun _ => False) w2 wz ∧ o = ((List.range n).drop k).find? fun i => decide (chunkAt (ys.map (·.1)) i = mc))) (fun _ kv _ => (intOf kv + 1).toNat)
        case atStart => exact ⟨n, none, Nat.le_refl _, rfl, rfl, hid ⟨Keep.refl _ _, by rw [List.drop_of_length_le (by simp)]; rfl⟩⟩
        case round =>
          obtain ⟨k, o, hk, rfl, rfl, HK⟩ := hrel
          cases k with
          | zero =>
            rw [show ((0 : Nat) : Int) - 1 = -1 from rfl]
            have t0 : decide ((0 : Int) ≤ -1) = false := by decide
            have hfind : o = find (ys.map (·.1)) mc := by
              rw [HK.out.2, find_range, List.drop_zero, List.length_map, HY.out.1]
            have HF := hid hfind
            have H3 := hid (And.intro (HK.out.1.get H2.out.1 id) (H2.out.2.later HK.out.1))
            obtain ⟨k0, k1, k2, kf, kb⟩ := cells3i H3.out.1
            clear hfind wn
            have hbad : Hid (move1 (ys.map (·.1)) ⟨mc, mf, mt⟩ = none → apply ps ms = none) := hid fun h => by
              rw [H3.out.2.tot, HST.out.1, h]; rfl
            cases o with
            | none =>
              have HE1 := hid (hbad.out (move1_none (.inl HF.out.symm)))
              rw [show natV none = -1 from rfl]
              have t1 : decide ((-1 : Int) < 0) = true := by decide
              go_wp2_with (at_builtin; refine stopAt ?_; intro q hq)
              rw [HPost.out]
              exact ⟨H3.out.2.keep, .inl ⟨HE1.out, rfl⟩⟩
            | some k =>
              have hkl := find_lt HF.out.symm
              rw [List.length_map] at hkl
              rw [show natV (some k) = (k : Int) from rfl]
              have t1 : decide ((k : Int) < 0) = false := by simp
              by_cases b1 : mf < 0
              · have HE1 := hid (hbad.out (move1_none (.inr (.inl b1))))
                have t2 : decide (mf < 0) = true := by simpa using b1
                clear b1
                go_wp2_with (at_builtin; refine stopAt ?_; intro q hq)
                rw [HPost.out]
                exact ⟨H3.out.2.keep, .inl ⟨HE1.out, rfl⟩⟩
              have t2 : decide (mf < 0) = false := by simpa using b1
              by_cases b2 : mt < -1
              · have HE1 := hid (hbad.out (move1_none (.inr (.inr (.inl b2)))))
                have t3 : decide (mt < -1) = true := by simpa using b2
                clear b1 b2
                go_wp2_with (at_builtin; refine stopAt ?_; intro q hq)
                rw [HPost.out]
                exact ⟨H3.out.2.keep, .inl ⟨HE1.out, rfl⟩⟩
              have t3 : decide (mt < -1) = false := by simpa using b2
              by_cases b3 : 4611686018427387904 ≤ mt
              · have HE1 := hid (hbad.out (move1_none (.inr (.inr (.inr b3)))))
                have t4 : decide (4611686018427387904 ≤ mt) = true := by simpa using b3
                clear b1 b2 b3
                go_wp2_with (at_builtin; refine stopAt ?_; intro q hq)
                rw [HPost.out]
                exact ⟨H3.out.2.keep, .inl ⟨HE1.out, rfl⟩⟩
              have t4 : decide (4611686018427387904 ≤ mt) = false := by simpa using b3
              have HMS := hid (move1_some (m := ⟨mc, mf, mt⟩) HF.out.symm b1 b2 b3)
              have HB := hid (And.intro b1 (And.intro b2 b3))
              clear b1 b2 b3
              have hkX : (k : Int) < n := by have := HY.out.1; omega
              obtain ⟨g, cap, hvg, -, p1, p2⟩ := H3.out.2.own.at k hkl
              have hvg' : av = some ⟨g, 0, none⟩ := by injection hvg
              subst hvg'
              have hnode : nodesAt (ys.map (·.1)) k = ys[k].1.nodes := by unfold nodesAt; simp [hkl]
              have hrow := H3.out.2.own.each _ (List.getElem_mem hkl)
              have hri := H3.out.2.rise _ (List.getElem_mem hkl)
              have hiz := (H3.out.2.own.i64 _ (List.getElem_mem hkl)).2
              obtain ⟨nl, hnl⟩ : ∃ nl, nl = ys[k].1.nodes := ⟨_, rfl⟩
              obtain ⟨nv, hnv⟩ : ∃ nv, nv = ys[k].2 := ⟨_, rfl⟩
              rw [← hnl] at hrow hri hiz hnode
              rw [← hnv] at p1 hrow
              rw [hnode] at HMS
              obtain ⟨an, cn, rfl, -⟩ := hrow.form
              have hints : IntsV wr (.slice an nl.length cn) nl := IntsV.of_row hrow hiz
              have HHa := hid (fun wq (hk : Keep (fun _ => False) wr wq) (x : Int) => has_any wq _ nl x (hints.keep hk))
              obtain ⟨R, hR⟩ : ∃ R, R = decide (mf ∈ nl) := ⟨_, rfl⟩
              obtain ⟨T, hT⟩ : ∃ T, T = decide (mt ∈ nl) := ⟨_, rfl⟩
              have HR := hid (And.intro hR hT)
              have HNd := hid (And.intro hri (And.intro hiz (And.intro hnode hints)))
              clear hvg hnode hrow hri hiz hnl hnv hints hR hT
              go_wp2_with (at_builtin; refine stopAt ?_; intro q hq)
              refine (HHa.out wr (Keep.refl _ _) mf).mono ?_
              rintro e w4 ⟨rfl, hk4⟩
              rw [← HR.out.1]
              have k2 := cell_old hk4 _ _ k2
              have HK4 := hid hk4
              clear hk4
              go_wp2_with (at_builtin; refine stopAt ?_; intro q hq)
              refine (HHa.out w4 HK4.out mt).mono ?_
              rintro e w5 ⟨rfl, hk5⟩
              rw [← HR.out.2]
              have k2 := cell_old hk5 _ _ k2
              have HK5 := hid (HK4.out.next hk5 (fun _ _ x => x) (fun _ _ x => x))
              have k1 := cell_old HK5.out _ _ k1
              have p5 := cell_old HK5.out _ _ p1
              have H5 := hid (And.intro (HNd.out.2.2.2.keep HK5.out) (H3.out.2.later HK5.out))
              clear hk5 p1 p2 kf kb k0
              cases R with
              | false =>
                have HE1 := hid (hbad.out (by rw [HMS.out, if_pos (.inl (by simpa using HR.out.1.symm))]))
                go_wp2_with (at_builtin; refine stopAt ?_; intro q hq)
                rw [HPost.out]
                exact ⟨H5.out.2.keep, .inl ⟨HE1.out, rfl⟩⟩
              | true =>
              cases T with
              | true =>
                have HE1 := hid (hbad.out (by rw [HMS.out, if_pos (.inr (by simpa using HR.out.2.symm))]))
                go_wp2_with (at_builtin; refine stopAt ?_; intro q hq)
                rw [HPost.out]
                exact ⟨H5.out.2.keep, .inl ⟨HE1.out, rfl⟩⟩
              | false =>
              have hnt : mt ∉ nl := by simpa using HR.out.2.symm
              have HM1 := hid (show move1 (ys.map (·.1)) ⟨mc, mf, mt⟩ = some (setNodes (ys.map (·.1)) k (if mt = -1 then without nl mf else withN nl mt)) by
                rw [HMS.out, if_neg (by simp only [not_or, Decidable.not_not]; exact ⟨by simpa using HR.out.1.symm, hnt⟩)])
              have HNt := hid hnt
              clear hnt
              have hln : nl.length ≤ 100000 + j := HNd.out.1.2
              have hj10 : j ≤ 100000 := by have := HS.out.2.2; omega
              by_cases hm1 : mt = -1
              · have t6 : decide (mt = -1) = true := by simpa using hm1
                have t7 : (mt == -1) = true := by simpa using hm1
                have HM2 := hid hm1
                clear hm1
                go_wp2_with (at_builtin; refine stopAt ?_; intro q hq)
                refine (without_any w5 _ nl mf H5.out.1 HST.out.2.2.1 (by omega)).mono ?_
                rintro e w9 ⟨v9, rfl, ho9, hk9⟩
                obtain ⟨a9, c9, rfl, -⟩ := ho9.1.form
                have hset := H5.out.2.own.set k hkl (g := g) (cap := cv) (by rw [HY.out.1]) H5.out.2.keep.size (hk9.mono fun _ _ x => x.elim) ho9.1 (fun k e => .inr (ho9.2.1 k e)) ho9.2.2
                have hq := cell_old hk9 _ _ p5
                have hqf : w9.frozen? ⟨g, k * 2 + 1, none⟩ = false := by
                  obtain ⟨g', cap', hvg', -, -, h3⟩ := (H5.out.2.later hk9).own.at k hkl
                  obtain rfl := slice_block hvg'
                  exact h3
                obtain ⟨L9, hL9⟩ : ∃ L9, L9 = (without nl mf).length := ⟨_, rfl⟩
                rw [← hL9] at hset ⊢
                have hkeep9 : Keep (fun _ => False) w (w9.setCell ⟨g, k * 2 + 1, none⟩ (.slice a9 L9 c9)) := (H5.out.2.keep.next hk9 (fun _ _ x => x) (fun _ _ x => x)).setCell (.inr (H5.out.2.own.own g rfl)) _
                have hfin := H5.out.2.step k hkl hset hkeep9 (by
                  rw [H5.out.2.tot, HST.out.1, HM1.out, if_pos HM2.out]; rfl) (HNd.out.1.1.filter _) (by have := List.length_filter_le (fun x => decide (x ≠ mf)) nl; unfold without; omega)
                have HFin := hid (And.intro (show (ys.set k (⟨ys[k].1.chunk, without nl mf⟩, .slice a9 L9 c9)).length = n by rw [List.length_set]; exact HY.out.1) hfin)
                clear ho9 hk9 hset hL9 hkeep9 hfin p5
                go_wp2_with (at_builtin; refine stopAt ?_; intro q hq)
                exact ⟨⟨j + 1, _, by omega, by go_num, HFin⟩, by simp [intOf]; omega⟩
              · have t6 : decide (mt = -1) = false := by simpa using hm1
                have t7 : (mt == -1) = false := by simpa using hm1
                have HM2 := hid hm1
                clear hm1
                go_wp2_with (at_builtin; refine stopAt ?_; intro q hq)
                refine (with_any w5 _ nl mt H5.out.1 HST.out.2.2.2 (by omega)).mono ?_
                rintro e w9 ⟨v9, rfl, ho9, hk9⟩
                obtain ⟨a9, c9, rfl, -⟩ := ho9.1.form
                have hset := H5.out.2.own.set k hkl (g := g) (cap := cv) (by rw [HY.out.1]) H5.out.2.keep.size (hk9.mono fun _ _ x => x.elim) ho9.1 (fun k e => .inr (ho9.2.1 k e)) ho9.2.2
                have hq := cell_old hk9 _ _ p5
                have hqf : w9.frozen? ⟨g, k * 2 + 1, none⟩ = false := by
                  obtain ⟨g', cap', hvg', -, -, h3⟩ := (H5.out.2.later hk9).own.at k hkl
                  obtain rfl := slice_block hvg'
                  exact h3
                obtain ⟨L9, hL9⟩ : ∃ L9, L9 = (withN nl mt).length := ⟨_, rfl⟩
                rw [← hL9] at hset ⊢
                have hkeep9 : Keep (fun _ => False) w (w9.setCell ⟨g, k * 2 + 1, none⟩ (.slice a9 L9 c9)) := (H5.out.2.keep.next hk9 (fun _ _ x => x) (fun _ _ x => x)).setCell (.inr (H5.out.2.own.own g rfl)) _
                have hfin := H5.out.2.step k hkl hset hkeep9 (by
                  rw [H5.out.2.tot, HST.out.1, HM1.out, if_neg HM2.out]; rfl) (withN_rises HNd.out.1.1) (by rw [(withN_perm HNt.out).length_eq, List.length_cons]; omega)
                have HFin := hid (And.intro (show (ys.set k (⟨ys[k].1.chunk, withN nl mt⟩, .slice a9 L9 c9)).length = n by rw [List.length_set]; exact HY.out.1) hfin)
                clear ho9 hk9 hset hL9 hkeep9 hfin p5
                go_wp2_with (at_builtin; refine stopAt ?_; intro q hq)
                exact ⟨⟨j + 1, _, by omega, by go_num, HFin⟩, by simp [intOf]; omega⟩
          | succ q =>
            rw [show ((q + 1 : Nat) : Int) - 1 = (q : Int) by omega]
            have t0 : decide ((0 : Int) ≤ (q : Int)) = true := by simp
            have wq : IntKind.i64.wrap ((q : Int) - 1) = (q : Int) - 1 := by simp [IntKind.wrap, IntKind.signed, IntKind.bits]; omega
            have hqn : q < ys.length := by have := HY.out.1; omega
            have hqI : (q : Int) < n := by omega
            obtain ⟨g, cap, hvg, p0, -, -⟩ := (H2.out.2.later HK.out.1).own.at q hqn
            have hav : av = some ⟨g, 0, none⟩ := by injection hvg
            subst hav
            have hst : ((List.range n).drop q).find? (fun i => decide (chunkAt (ys.map (·.1)) i = mc)) = if ys[q].1.chunk = mc then some q else o := by
              rw [range_drop (by omega), List.find?_cons, HK.out.2, chunkAt_fst hqn]
              by_cases h : ys[q].1.chunk = mc <;> simp [h]
            obtain ⟨ch, hch⟩ : ∃ ch, ch = ys[q].1.chunk := ⟨_, rfl⟩
            rw [← hch] at p0 hst
            have k0 : wr.cell? ⟨c3, 0, none⟩ = some (.int .i64 mc) := by simp [World.cell?, HK.out.1.get H2.out.1 id]
            have j0 := fun x : Later wr => x.cell p0
            have j1 := fun x : Later wr => x.cell k0
            have HS := hid hst
            clear hvg hst hch p0 k0 wn
            go_wp2_with (at_builtin; refine stopAt ?_; intro q hq)
            by_cases hcm : ch = mc
            · have t1 : decide (ch = mc) = true := by simpa using hcm
              have t2 : (ch == mc) = true := by simpa using hcm
              have HC := hid hcm
              clear hcm
              (refine wp_region_later (by kernel_rfl) (by kernel_rfl) ?_; (repeat (go_big_quiet_step ((fail)))); refine wpQuiet_nil ?_; rintro _ ⟨sq, rfl⟩)
              go_wp2_with (at_builtin; refine stopAt ?_; intro q hq)
              exact ⟨⟨q, some q, by omega, rfl, rfl, hid ⟨HK.out.1.next sq.keep (fun _ _ x => x) (fun _ _ x => x), by rw [HS.out, if_pos HC.out]⟩⟩, by simp [intOf]⟩
            · have t1 : decide (ch = mc) = false := by simpa using hcm
              have t2 : (ch == mc) = false := by simpa using hcm
              have HC := hid hcm
              clear hcm
              (refine wp_region_later (by kernel_rfl) (by kernel_rfl) ?_; (repeat (go_big_quiet_step ((fail)))); refine wpQuiet_nil ?_; rintro _ ⟨sq, rfl⟩)
              go_wp2_with (at_builtin; refine stopAt ?_; intro q hq)
              exact ⟨⟨q, o, by omega, rfl, rfl, hid ⟨HK.out.1.next sq.keep (fun _ _ x => x) (fun _ _ x => x), by rw [HS.out, if_neg HC.out]⟩⟩, by simp [intOf]⟩
      · have h5 : decide ((j : Int) < m) = false := by simp; omega
        have hfin : apply ps ms = some (ys.map (·.1)) := by
          rw [HY.out.2.tot, List.drop_of_length_le (by have := HN.out.2; omega)]
          rfl
        have HF := hid hfin
        clear hfin
        go_wp2_with (at_builtin; refine stopAt ?_; intro q hq)
        rw [HPost.out]
        exact ⟨HY.out.2.keep, .inr ⟨_, ys, HF.out, rfl, HY.out.2.own⟩⟩
end Go.Proofs.Ytmdonjadhkffiaa
/- Heal: the chapter's example comes out. Conditions: none. -/
namespace Go.Proofs.Ytmdonjadhkffiaa
open Go.RowKit
open HE

theorem MvsV.of_row {w : World} {v : Value} {l : List Mv} (h : Row w 52 3 v l.length (mvsV l)) (hz : ∀ m ∈ l, I64 m.chunk ∧ I64 m.src ∧ I64 m.dst) : MvsV w v l := by
  obtain ⟨ao, c, rfl, h1, h2, -⟩ := h.form
  exact ⟨ao, c, rfl, by omega, hz, Cells.of_row h⟩
theorem IntsV.of_heap {w : World} {g : Nat} {l : List Int} {T : TypeId} {cs : Array Value} (h : w.heap[g]? = some (.cells cs T (0, 0))) (hc : cs = (numsV l).toArray) (hz : ∀ z ∈ l, I64 z) (hl : l.length ≤ maxLen) : IntsV w (.slice (some ⟨g, 0, none⟩) l.length l.length) l := by
  refine ⟨_, _, rfl, hl, hz, fun _ => ⟨_, rfl, fun i hi => ?_⟩⟩
  rw [addr_add, Nat.zero_add]
  subst hc
  simp [World.cell?, h, numsV, hi]
theorem PlsV.of_heap1 {w : World} {g : Nat} {ch : Int} {nv : Value} {nl : List Int} {T : TypeId} (h : w.heap[g]? = some (.cells #[.int .i64 ch, nv] T (0, 0))) (hn : IntsV w nv nl) (hz : I64 ch) : PlsV w (.slice (some ⟨g, 0, none⟩) 1 1) [⟨ch, nl⟩] := by
  refine ⟨_, _, rfl, by unfold maxLen; simp, fun _ => ⟨_, rfl, fun i hi => ?_⟩⟩
  obtain rfl : i = 0 := by simpa using hi
  refine ⟨nv, ?_, ?_, hn, hz⟩
  · simp [World.cell?, h, Addr.add]
  · simp [World.cell?, h, Addr.add]

set_option maxRecDepth 20000 in
theorem sameInts_any (w : World) (u v : Value) (l : List Int) (h1 : IntsV w u l) (h2 : IntsV w v l) :
    Calls Try.prog 32 #[u, v] w fun e w' => e = .returned (.bool true) ∧ Keep (fun _ => False) w w' := by
  obtain ⟨ao, c, rfl, hm, -, hc⟩ := h1
  obtain ⟨bo, d, rfl, -, -, hd⟩ := h2
  obtain ⟨n, hn⟩ : ∃ n, n = l.length := ⟨_, rfl⟩
  rw [← hn] at hm ⊢
  have hn63 : (n : Int) ≤ 9223372036854775807 := by unfold maxLen at hm; omega
  have HN := hid hn
  have HC := hid hc
  have HD := hid hd
  clear hn hc hd
  go_enter Try.func32, Try.ntmps32
  go_wp2_with (at_builtin; refine stopAt ?_; intro q hq)
  go_loopw [5] (fun iv wr => ∃ i : Nat, i ≤ n ∧ iv = .int .i64 i ∧ Hid (Keep (fun _ => False) w wr)) (fun iv _ => n - (intOf iv).toNat)
  case atStart => exact ⟨0, Nat.zero_le _, rfl, hid (Keep.refl _ _)⟩
  case round =>
    obtain ⟨i, hi, rfl, HK⟩ := hrel
    by_cases hin : i < n
    · have h4 : (i : Int) < n := by omega
      have hil : i < l.length := by rw [← HN.out]; exact hin
      obtain ⟨ad, rfl, hce⟩ := HC.out (by omega)
      obtain ⟨bd, rfl, hcf⟩ := HD.out (by omega)
      have a0 := cell_old HK.out _ _ (hce i hil)
      have b0 := cell_old HK.out _ _ (hcf i hil)
      obtain ⟨x, hx⟩ : ∃ x, x = l[i] := ⟨_, rfl⟩
      rw [← hx] at a0 b0
      clear hce hcf hx
      go_wp2_with (at_builtin; refine stopAt ?_; intro q hq)
      go_quiet (fail)
      go_wp2_with (at_builtin; refine stopAt ?_; intro q hq)
      exact ⟨⟨i + 1, by omega, by go_num, hid (HK.out.drewN _)⟩, by simp [intOf]; omega⟩
    · have h4 : decide ((i : Int) < n) = false := by simp; omega
      go_wp2_with (at_builtin; refine stopAt ?_; intro q hq)
      go_ret
      exact ⟨rfl, HK.out⟩

theorem PlanPost.good {w w' : World} {s : List Int} {ps : List Pl} {up : Nat} {copies : Int} {ms : List Mv} {e : Ending} (h : PlanPost w s ps up copies ms e w') (hc : check s ps = 0) (h1 : 1 ≤ copies ∧ copies ≤ 12) :
    ∃ mv, e = .returned (.tuple #[mv, .int .i64 0]) ∧ Row w' 52 3 mv ms.length (mvsV ms) ∧ (∀ k, mv.ownBlock = some k → w.heap.size ≤ k) ∧ Keep (fun _ => False) w w' := by
  obtain ⟨hk, h | h | h⟩ := h
  · exact absurd hc h.1
  · omega
  · obtain ⟨-, -, mv, h1, h2, h3⟩ := h
    exact ⟨mv, h1, h2, h3, hk⟩
theorem ApplyPost.good {w w' : World} {ps qs : List Pl} {ms : List Mv} {e : Ending} (h : ApplyPost w ps ms e w') (hc : apply ps ms = some qs) : ∃ v xs, xs.map (·.1) = qs ∧ e = .returned (.tuple #[v, .int .i64 0]) ∧ PlsO w.heap.size w' v xs ∧ Keep (fun _ => False) w w' := by
  obtain ⟨hk, h | h⟩ := h
  · rw [hc] at h; cases h.1
  · obtain ⟨v, xs, h1, h2, h3⟩ := h
    rw [hc] at h1
    exact ⟨v, xs, (Option.some.inj h1).symm, h2, h3, hk⟩

theorem ex_a : check [0, 0, 1] [⟨0, [0]⟩] = 0 ∧ (plan [0, 0, 1] 7 (2 : Int).toNat [⟨0, [0]⟩]).1 = [⟨0, 0, 2⟩] ∧ (plan [0, 0, 1] 3 (2 : Int).toNat [⟨0, [0]⟩]).1 = [⟨0, 0, 1⟩] := by decide +kernel
theorem ex_b : check [0, 0, 1] [⟨0, [0, 1, 2]⟩] = 0 ∧ (drop [0, 0, 1] 7 (2 : Int).toNat [⟨0, [0, 1, 2]⟩]).1 = [⟨0, 1, -1⟩] ∧ apply [⟨0, [0]⟩] [⟨0, 0, 2⟩] = some [⟨0, [0, 2]⟩] ∧ check [] [] = 2 := by decide +kernel

/-- One move's cells. -/
theorem row_one_move {w : World} {v : Value} {m : Mv} (h : Row w 52 3 v 1 (mvsV [m])) : ∃ g cap, v = .slice (some ⟨g, 0, none⟩) 1 cap ∧ w.cell? ⟨g, 0, none⟩ = some (.int .i64 m.chunk) ∧ w.cell? ⟨g, 1, none⟩ = some (.int .i64 m.src) ∧ w.cell? ⟨g, 2, none⟩ = some (.int .i64 m.dst) := by
  obtain ⟨g, cap, rfl, h0⟩ := h.getCell (show (mvsV [m])[0]? = some (.int .i64 m.chunk) from rfl)
  obtain ⟨g1, cap1, e1, h1⟩ := h.getCell (show (mvsV [m])[1]? = some (.int .i64 m.src) from rfl)
  obtain ⟨g2, cap2, e2, h2⟩ := h.getCell (show (mvsV [m])[2]? = some (.int .i64 m.dst) from rfl)
  cases e1
  cases e2
  exact ⟨g, cap, rfl, h0, h1, h2⟩

set_option maxRecDepth 20000 in
set_option maxHeartbeats 4000000 in
theorem known_any (w : World) : Calls Try.prog 11 #[] w fun e w' => e = .returned (.bool true) ∧ Keep (fun _ => False) w w' := by
  have hk1 : Keep (fun _ => False) w (w.alloc (.cells #[.int .i64 0, .int .i64 0, .int .i64 1] 3)) := (Keep.refl _ _).alloc _
  have hn1 := heap_alloc_new w (.cells #[.int .i64 0, .int .i64 0, .int .i64 1] 3)
  go_enter Try.func11, Try.ntmps11
  go_upto_region 2 with fail
  obtain ⟨g1, hg1⟩ : ∃ g, g = w.heap.size := ⟨_, rfl⟩
  obtain ⟨w1, hw1⟩ : ∃ w1, w1 = w.alloc (.cells #[.int .i64 0, .int .i64 0, .int .i64 1] 3) := ⟨_, rfl⟩
  rw [← hw1] at hk1
  rw [← hw1, ← hg1] at hn1
  rw [← hw1, ← hg1]
  have H1 := hid (And.intro hk1 hn1)
  clear hk1 hn1 hw1 hg1
  have hk2 : Keep (fun _ => False) w1 (w1.alloc (.cells #[.int .i64 0] 3)) := (Keep.refl _ _).alloc _
  have hn2 := heap_alloc_new w1 (.cells #[.int .i64 0] 3)
  obtain ⟨g2, hg2⟩ : ∃ g, g = w1.heap.size := ⟨_, rfl⟩
  obtain ⟨w2, hw2⟩ : ∃ w', w' = w1.alloc (.cells #[.int .i64 0] 3) := ⟨_, rfl⟩
  have hsz2 : w2.heap.size = g2 + 1 := by rw [hw2, hg2]; simp
  rw [← hw2] at hk2
  rw [← hw2, ← hg2] at hn2
  have hk3 : Keep (fun _ => False) w2 (w2.alloc (.cells #[.int .i64 0, .slice (some ⟨g2, 0, none⟩) 1 1] 44)) := (Keep.refl _ _).alloc _
  have hn3 := heap_alloc_new w2 (.cells #[.int .i64 0, .slice (some ⟨g2, 0, none⟩) 1 1] 44)
  go_upto_region 3 with fail
  rw [← hg2, ← hw2]
  obtain ⟨w3, hw3⟩ : ∃ w', w' = w2.alloc (.cells #[.int .i64 0, .slice (some ⟨g2, 0, none⟩) 1 1] 44) := ⟨_, rfl⟩
  obtain ⟨g3, hg3⟩ : ∃ g, g = g2 + 1 := ⟨_, rfl⟩
  rw [← hw3] at hk3
  rw [← hw3, hsz2, ← hg3] at hn3
  rw [← hw3, ← hg3]
  have hs3 : IntsV w3 (.slice (some ⟨g1, 0, none⟩) 3 3) [0, 0, 1] := IntsV.of_heap (l := [0, 0, 1]) (hk3.get (hk2.get H1.out.2 id) id) rfl (by unfold I64; simp) (by unfold maxLen; simp)
  have hp3 : PlsV w3 (.slice (some ⟨g3, 0, none⟩) 1 1) [⟨0, [0]⟩] := PlsV.of_heap1 hn3 (IntsV.of_heap (l := [0]) (hk3.get hn2 id) rfl (by unfold I64; simp) (by unfold maxLen; simp)) (by unfold I64; omega)
  have H3 := hid (And.intro hs3 (And.intro hp3 ((H1.out.1.next hk2 (fun _ _ x => x) (fun _ _ x => x)).next hk3 (fun _ _ x => x) (fun _ _ x => x))))
  have HP := hid (plan_any w3 _ _ _ _ 7 2 hs3 hp3 (by decide) (by unfold I64; omega))
  clear hk2 hn2 hg2 hw2 hsz2 hk3 hn3 hw3 hg3 hs3 hp3
  go_wp2_with (at_builtin; refine stopAt ?_; intro q hq)
  refine HP.out.mono ?_
  rintro e w4 hpost
  obtain ⟨mv, rfl, hr4, ho4, hk4⟩ := hpost.good ex_a.1 (by omega)
  rw [ex_a.2.1] at hr4
  obtain ⟨g4, cap4, rfl, a0, a1, a2⟩ := row_one_move hr4
  have H4 := hid (And.intro hr4 (And.intro a0 (And.intro a1 (And.intro a2 hk4))))
  have HP4 := hid (plan_any w4 _ _ _ _ 3 2 (H3.out.1.keep hk4) (H3.out.2.1.keep hk4) (by decide) (by unfold I64; omega))
  clear hpost hr4 ho4 hk4 HP a0 a1 a2
  go_wp2_with (at_builtin; refine stopAt ?_; intro q hq)
  refine HP4.out.mono ?_
  rintro e w5 hpost
  obtain ⟨mv, rfl, hr5, ho5, hk5⟩ := hpost.good ex_a.1 (by omega)
  rw [ex_a.2.2] at hr5
  obtain ⟨g5, cap5, rfl, b0, b1, b2⟩ := row_one_move hr5
  have H5 := hid (And.intro b0 (And.intro b1 (And.intro b2 hk5)))
  clear hpost hr5 ho5 hk5 HP4 b0 b1 b2
  have hk6 : Keep (fun _ => False) w5 (w5.alloc (.cells #[.int .i64 0, .int .i64 1, .int .i64 2] 3)) := (Keep.refl _ _).alloc _
  have hn6 := heap_alloc_new w5 (.cells #[.int .i64 0, .int .i64 1, .int .i64 2] 3)
  obtain ⟨g6, hg6⟩ : ∃ g, g = w5.heap.size := ⟨_, rfl⟩
  obtain ⟨w6, hw6⟩ : ∃ w', w' = w5.alloc (.cells #[.int .i64 0, .int .i64 1, .int .i64 2] 3) := ⟨_, rfl⟩
  have hsz6 : w6.heap.size = g6 + 1 := by rw [hw6, hg6]; simp
  rw [← hw6] at hk6
  rw [← hw6, ← hg6] at hn6
  have hk7 : Keep (fun _ => False) w6 (w6.alloc (.cells #[.int .i64 0, .slice (some ⟨g6, 0, none⟩) 3 3] 44)) := (Keep.refl _ _).alloc _
  have hn7 := heap_alloc_new w6 (.cells #[.int .i64 0, .slice (some ⟨g6, 0, none⟩) 3 3] 44)
  go_upto_region 5 with fail
  have Hq := hid (And.intro hg6 (And.intro hw6 hsz6))
  clear hg6 hw6 hsz6
  go_wp2_with (at_builtin; refine stopAt ?_; intro q hq)
  rw [← Hq.out.1, ← Hq.out.2.1]
  obtain ⟨w7, hw7⟩ : ∃ w', w' = w6.alloc (.cells #[.int .i64 0, .slice (some ⟨g6, 0, none⟩) 3 3] 44) := ⟨_, rfl⟩
  obtain ⟨g7, hg7⟩ : ∃ g, g = g6 + 1 := ⟨_, rfl⟩
  rw [← hw7] at hk7
  rw [← hw7, Hq.out.2.2, ← hg7] at hn7
  rw [← hw7, ← hg7]
  have hk37 := ((H4.out.2.2.2.2.next H5.out.2.2.2 (fun _ _ x => x) (fun _ _ x => x)).next hk6 (fun _ _ x => x) (fun _ _ x => x)).next hk7 (fun _ _ x => x) (fun _ _ x => x)
  have hp7 : PlsV w7 (.slice (some ⟨g7, 0, none⟩) 1 1) [⟨0, [0, 1, 2]⟩] := PlsV.of_heap1 hn7 (IntsV.of_heap (l := [0, 1, 2]) (hk7.get hn6 id) rfl (by unfold I64; simp) (by unfold maxLen; simp)) (by unfold I64; omega)
  have hk57 := hk6.next hk7 (fun _ _ x => x) (fun _ _ x => x)
  have H7 := hid (And.intro hk37 hk57)
  have HP7 := hid (drop_any w7 _ _ _ _ 7 2 (H3.out.1.keep hk37) hp7 (by decide) (by unfold I64; omega))
  clear hk6 hn6 hk7 hn7 hw7 hg7 hp7 hk37 hk57 Hq
  refine HP7.out.mono ?_
  rintro e w8 hpost
  obtain ⟨mv, rfl, hr8, ho8, hk8⟩ := hpost.good ex_b.1 (by omega)
  rw [ex_b.2.1] at hr8
  obtain ⟨g8, cap8, rfl, c0, c1, c2⟩ := row_one_move hr8
  have H8 := hid (And.intro c0 (And.intro c1 (And.intro c2 hk8)))
  have hk48 := (H5.out.2.2.2.next H7.out.2 (fun _ _ x => x) (fun _ _ x => x)).next hk8 (fun _ _ x => x) (fun _ _ x => x)
  have hk38 := H7.out.1.next hk8 (fun _ _ x => x) (fun _ _ x => x)
  have HP8 := hid (apply_any w8 _ _ _ _ (H3.out.2.1.keep hk38) (MvsV.of_row (l := [⟨0, 0, 2⟩]) (H4.out.1.keep hk48 (fun _ _ x => x)) (by unfold I64; simp)) ⟨by simp, by simp, by simp⟩)
  have H38 := hid (And.intro hk38 hk48)
  clear hpost hr8 ho8 hk8 HP7 c0 c1 c2 hk38 hk48
  go_wp2_with (at_builtin; refine stopAt ?_; intro q hq)
  refine HP8.out.mono ?_
  rintro e w9 hpost
  obtain ⟨v9, xs, hxs, rfl, ho9, hk9⟩ := hpost.good ex_b.2.2.1
  have hxl : xs.length = 1 := by have := congrArg List.length hxs; simpa using this
  obtain ⟨g9, cap9, rfl, d0, d1, -⟩ := ho9.at 0 (by omega)
  have hrow := ho9.each _ (List.getElem_mem (show 0 < xs.length by omega))
  have hx0 : xs[0].1 = ⟨0, [0, 2]⟩ := by
    have : (xs.map (·.1))[0]'(by simp; omega) = ⟨0, [0, 2]⟩ := by simp [hxs]
    simpa using this
  obtain ⟨nv, hnv⟩ : ∃ nv, nv = xs[0].2 := ⟨_, rfl⟩
  rw [← hnv] at d1 hrow
  rw [hx0] at hrow d0
  rw [hxl] at *
  obtain ⟨an, cn, rfl, -⟩ := hrow.form
  have hkA := H38.out.2.next hk9 (fun _ _ x => x) (fun _ _ x => x)
  have hkB := (H7.out.2.next H8.out.2.2.2 (fun _ _ x => x) (fun _ _ x => x)).next hk9 (fun _ _ x => x) (fun _ _ x => x)
  have a0 := cell_old hkA _ _ H4.out.2.1
  have a1 := cell_old hkA _ _ H4.out.2.2.1
  have a2 := cell_old hkA _ _ H4.out.2.2.2.1
  have b0 := cell_old hkB _ _ H5.out.1
  have b1 := cell_old hkB _ _ H5.out.2.1
  have b2 := cell_old hkB _ _ H5.out.2.2.1
  have c0 := cell_old hk9 _ _ H8.out.1
  have c1 := cell_old hk9 _ _ H8.out.2.1
  have c2 := cell_old hk9 _ _ H8.out.2.2.1
  have hints : IntsV w9 (.slice an 2 cn) [0, 2] := IntsV.of_row hrow (by unfold I64; simp)
  have H9 := hid (And.intro hints ((H3.out.2.2.next H38.out.1 (fun _ _ x => x) (fun _ _ x => x)).next hk9 (fun _ _ x => x) (fun _ _ x => x)))
  clear hpost hxs ho9 hk9 hxl hrow hx0 hnv hkA hkB hints HP8
  have hk10 : Keep (fun _ => False) w9 (w9.alloc (.cells #[.int .i64 0, .int .i64 2] 3)) := (Keep.refl _ _).alloc _
  have hn10 := heap_alloc_new w9 (.cells #[.int .i64 0, .int .i64 2] 3)
  go_wp2_with (at_builtin; refine stopAt ?_; intro q hq)
  refine (sameInts_any _ _ _ [0, 2] (H9.out.1.keep hk10) (IntsV.of_heap (l := [0, 2]) hn10 rfl (by unfold I64; simp) (by unfold maxLen; simp))).mono ?_
  rintro e w11 ⟨rfl, hk11⟩
  have H11 := hid (H9.out.2.next (hk10.next hk11 (fun _ _ x => x) (fun _ _ x => x)) (fun _ _ x => x) (fun _ _ x => x))
  clear hk10 hk11 hn10 a0 a1 a2 b0 b1 b2 c0 c1 c2 d0 d1
  have hch := check_any w11 (.slice none 0 0) (.slice none 0 0) [] [] ⟨none, 0, rfl, Nat.zero_le _, by simp, fun h => absurd h (by simp)⟩ ⟨none, 0, rfl, Nat.zero_le _, fun h => absurd h (by simp)⟩
  rw [ex_b.2.2.2] at hch
  have HCh := hid hch
  clear hch
  go_wp2_with (at_builtin; refine stopAt ?_; intro q hq)
  refine HCh.out.mono ?_
  rintro e w12 ⟨rfl, hk12⟩
  have H12 := hid (H11.out.next hk12 (fun _ _ x => x) (fun _ _ x => x))
  clear hk12
  go_wp2_with (at_builtin; refine stopAt ?_; intro q hq)
  go_ret
  exact ⟨rfl, H12.out⟩
end Go.Proofs.Ytmdonjadhkffiaa
/- Heal: what is more than is looked at; arguments; what both plans give. Conditions: as each law names them. -/
namespace Go.Proofs.Ytmdonjadhkffiaa
open Go.RowKit Go.WideShapes Go.ChangeShapes
open HE

def MvR (cs : List Value) (m : Mv) : Prop := cs = mvV m ∧ I64 m.chunk ∧ I64 m.src ∧ I64 m.dst
section
variable {H : Type} {enc : TypeId × Value → H} {w : World} {base : Nat} {held : Bool} {fuel : Nat}
set_option maxRecDepth 20000 in
theorem rd_place {cs : List Value} {x : DataW H × List MemPlace} (h : DataW.trod enc Try.prog w base (fun _ => true) held fuel 44 cs = some x) : ∃ p, PlR w cs p := by
  have hl := rd_len Try.underlying44 h
  have c2 : Try.prog.cellsOf 44 = 2 := by kernel_rfl
  have ci : Try.prog.cellsOf 3 = 1 := by kernel_rfl
  have cs1 : Try.prog.cellsOf 22 = 1 := by kernel_rfl
  obtain ⟨n0, y0, h0⟩ := rd_field Try.underlying44 h 0 _ rfl
  obtain ⟨n1, y1, h1⟩ := rd_field Try.underlying44 h 1 _ rfl
  rw [c2] at hl
  match cs, hl with
  | [x0, x1], _ =>
    simp [ci, cs1] at h0 h1
    obtain ⟨k, e0, w0⟩ := rd_int Try.underlying3 h0
    obtain ⟨l, hl1⟩ := rd_ints h1
    simp only [List.cons.injEq, and_true] at e0
    subst e0
    exact ⟨⟨k, l⟩, x1, rfl, by have := wf_i64 w0; unfold I64; exact this, hl1⟩
theorem rd_places {v : Value} {x : DataW H × List MemPlace} (h : DataW.trod enc Try.prog w base (fun _ => true) held fuel 24 [v] = some x) : ∃ l, SliceOf w 2 (PlR w) v l :=
  rd_sliceL Try.underlying24 (by kernel_rfl) (fun _ _ _ _ h => rd_place h) h
set_option maxRecDepth 20000 in
theorem rd_move {cs : List Value} {x : DataW H × List MemPlace} (h : DataW.trod enc Try.prog w base (fun _ => true) held fuel 52 cs = some x) : ∃ m, MvR cs m := by
  have hl := rd_len Try.underlying52 h
  have c3 : Try.prog.cellsOf 52 = 3 := by kernel_rfl
  have ci : Try.prog.cellsOf 3 = 1 := by kernel_rfl
  obtain ⟨n0, y0, h0⟩ := rd_field Try.underlying52 h 0 _ rfl
  obtain ⟨n1, y1, h1⟩ := rd_field Try.underlying52 h 1 _ rfl
  obtain ⟨n2, y2, h2⟩ := rd_field Try.underlying52 h 2 _ rfl
  rw [c3] at hl
  match cs, hl with
  | [x0, x1, x2], _ =>
    simp [ci] at h0 h1 h2
    obtain ⟨a, e0, w0⟩ := rd_int Try.underlying3 h0
    obtain ⟨b, e1, w1⟩ := rd_int Try.underlying3 h1
    obtain ⟨c, e2, w2⟩ := rd_int Try.underlying3 h2
    simp only [List.cons.injEq, and_true] at e0 e1 e2
    subst e0 e1 e2
    exact ⟨⟨a, b, c⟩, rfl, wf_i64 w0, wf_i64 w1, wf_i64 w2⟩
theorem rd_moves {v : Value} {x : DataW H × List MemPlace} (h : DataW.trod enc Try.prog w base (fun _ => true) held fuel 30 [v] = some x) : ∃ l, SliceOf w 3 MvR v l :=
  rd_sliceL Try.underlying30 (by kernel_rfl) (fun _ _ _ _ h => rd_move h) h
end
theorem wf_u32 {a : Int} (h : (Lit.int .u32 a).wf = true) : ∃ n : Nat, a = n ∧ n < 4294967296 := by
  have : 0 ≤ a ∧ a ≤ 4294967295 := by simpa [Lit.wf, IntKind.min, IntKind.max, IntKind.signed, IntKind.bits] using h
  exact ⟨a.toNat, by omega, by omega⟩
theorem MvsV.of_moves {w : World} {v : Value} {l : List Mv} (h : SliceOf w 3 MvR v l) : MvsV w v l := by
  obtain ⟨ao, c, hv, h1, h2, h3⟩ := id h
  have hz : ∀ m ∈ l, I64 m.chunk ∧ I64 m.src ∧ I64 m.dst := fun m hm => by
    obtain ⟨i, hi, rfl⟩ := List.getElem_of_mem hm
    obtain ⟨ad, -, h4⟩ := h3 (by omega)
    obtain ⟨cs, -, h5, -⟩ := h4 i hi
    exact h5.2
  refine ⟨ao, c, hv, by omega, hz, mvsV_length l, fun h0 => ?_⟩
  obtain ⟨ad, rfl, h4⟩ := h3 (by omega)
  refine ⟨ad, rfl, fun t u hu => ?_⟩
  have ht : t < l.length * 3 := by rw [← mvsV_length]; exact (List.getElem?_eq_some_iff.1 hu).1
  have hi : t / 3 < l.length := by omega
  obtain ⟨cs, hl, h5, h6⟩ := h4 (t / 3) hi
  have he : t = t / 3 * 3 + t % 3 := by omega
  have hg : (mvsV l)[t / 3 * 3 + t % 3]? = (mvV l[t / 3])[t % 3]? := by
    obtain ⟨g1, g2, g3⟩ := mvsV_get l (t / 3) hi
    have : t % 3 = 0 ∨ t % 3 = 1 ∨ t % 3 = 2 := by omega
    rcases this with h | h | h
    · rw [h, Nat.add_zero, g1]; rfl
    · rw [h, g2]; rfl
    · rw [h, g3]; rfl
  rw [he] at hu ⊢
  rw [hg] at hu
  exact h6 _ _ (by rw [h5.1]; exact hu)

theorem min_any (w : World) (i c : Nat) (z : Int) (hz : z = (c : Int)) : (Builtin.min_ #[3, 3] 3 #[.int .i64 (i : Int), .int .i64 z]).run Try.prog w = .ok (.int .i64 ((min i c : Nat) : Int)) w := by
  subst hz
  rcases Nat.lt_or_ge c i with q | q
  · rw [Nat.min_eq_right (by omega)]
    simp [Builtin.min_, Builtin.min2]
    omega
  · rw [Nat.min_eq_left q]
    simp [Builtin.min_, Builtin.min2]
    omega

def cnt (n0 : Nat) (ps : List Pl) : Nat := n0 + (ps.map fun p => 1 + min p.nodes.length 4000).sum
theorem cnt_snoc (n0 : Nat) (ps : List Pl) (p : Pl) : cnt n0 (ps ++ [p]) = cnt n0 ps + (1 + min p.nodes.length 4000) := by unfold cnt; simp; omega
theorem cnt_few {n0 : Nat} {ps : List Pl} (h : cnt n0 ps ≤ 4000) : n0 ≤ 4000 ∧ ps.length ≤ 4000 ∧ ∀ p ∈ ps, p.nodes.length ≤ 4000 := by
  unfold cnt at h
  have h1 : ∀ l : List Pl, l.length ≤ (l.map fun p => 1 + min p.nodes.length 4000).sum := fun l => by
    induction l with
    | nil => simp
    | cons p l ih => simp only [List.map_cons, List.sum_cons, List.length_cons]; omega
  have h2 : ∀ (l : List Pl) (p), p ∈ l → 1 + min p.nodes.length 4000 ≤ (l.map fun p => 1 + min p.nodes.length 4000).sum := fun l => by
    induction l with
    | nil => simp
    | cons q l ih =>
      intro p hp
      simp only [List.map_cons, List.sum_cons]
      rcases List.mem_cons.1 hp with rfl | hp
      · omega
      · have := ih p hp; omega
  have := h1 ps
  exact ⟨by omega, by omega, fun p hp => by have := h2 ps p hp; omega⟩

set_option maxHeartbeats 1000000 in
set_option maxRecDepth 20000 in
theorem many_any (w : World) (v u : Value) (s : List Int) (ps : List Pl) (hs : IntsV w v s) (hp : PlsV w u ps) :
    Calls Try.prog 10 #[v, u] w fun e w' => ∃ B, e = .returned (.bool B) ∧ Keep (fun _ => False) w w' ∧ (B = false → s.length ≤ 4000 ∧ ps.length ≤ 4000 ∧ ∀ p ∈ ps, p.nodes.length ≤ 4000) := by
  obtain ⟨aS, cS, rfl, hmS, -, -⟩ := hs
  obtain ⟨aP, cP, rfl, hmP, hcP⟩ := hp
  obtain ⟨n, hn⟩ : ∃ n, n = s.length := ⟨_, rfl⟩
  obtain ⟨m, hm⟩ : ∃ m, m = ps.length := ⟨_, rfl⟩
  rw [← hn] at hmS ⊢
  rw [← hm] at hmP ⊢
  have hn63 : (n : Int) ≤ 9223372036854775807 := by unfold maxLen at hmS; omega
  have hm63 : (m : Int) ≤ 9223372036854775807 := by unfold maxLen at hmP; omega
  have HN := hid (And.intro hn hm)
  have HC := hid hcP
  clear hn hm hcP
  obtain ⟨Post, hPost⟩ : ∃ Post : Ending → World → Prop, Post = fun e w' => ∃ B, e = .returned (.bool B) ∧ Keep (fun _ => False) w w' ∧ (B = false → n ≤ 4000 ∧ m ≤ 4000 ∧ ∀ p ∈ ps, p.nodes.length ≤ 4000) := ⟨_, rfl⟩
  rw [← hPost]
  have HPost := hid hPost
  clear hPost
  go_enter Try.func10, Try.ntmps10
  go_wp2_with (at_builtin; refine stopAt ?_; intro q hq)
  go_loopw [5, 6] (fun nv iv wr => ∃ (i t : Nat), i ≤ m ∧ iv = .int .i64 i ∧ nv = .int .i64 t ∧ (t : Int) ≤ 9223372036854775807 ∧ Hid (Keep (fun _ => False) w wr ∧ t = cnt n (ps.take i))) (fun _ iv _ => m - (intOf iv).toNat)
  case atStart => exact ⟨0, n, Nat.zero_le _, rfl, rfl, hn63, hid ⟨Keep.refl _ _, by simp [cnt]⟩⟩
  case round =>
    obtain ⟨i, t, hi, rfl, rfl, ht63, HK⟩ := hrel
    by_cases hin : i < m
    · have h4 : (i : Int) < m := by omega
      by_cases h40 : t ≤ 4000
      · have t1 : decide ((t : Int) ≤ 4000) = true := by simp; omega
        have hil : i < ps.length := by have := HN.out.2; omega
        obtain ⟨ad, rfl, hcell⟩ := HC.out (by omega)
        obtain ⟨nv, g1, g2, g3, g4⟩ := hcell i hil
        have a1 := cell_old HK.out.1 _ _ g2
        obtain ⟨an, cn, rfl, hnm, -, -⟩ := g3
        obtain ⟨L, hL⟩ : ∃ L, L = ps[i].nodes.length := ⟨_, rfl⟩
        rw [← hL] at a1 hnm
        have hL63 : (L : Int) ≤ 9223372036854775807 := by unfold maxLen at hnm; omega
        have hst : cnt n (ps.take (i + 1)) = t + (1 + min L 4000) := by
          rw [List.take_add_one, List.getElem?_eq_getElem hil, HK.out.2, hL]
          exact cnt_snoc _ _ _
        have hmin := fun w : World => min_any w L 4000 4000 rfl
        obtain ⟨q, hq⟩ : ∃ q, q = min L 4000 := ⟨_, rfl⟩
        rw [← hq] at hmin hst
        have hq4 : q ≤ 4000 := by omega
        obtain ⟨q1, hq1⟩ : ∃ q1, q1 = 1 + q := ⟨_, rfl⟩
        obtain ⟨q2, hq2⟩ : ∃ q2, q2 = t + q1 := ⟨_, rfl⟩
        have e1 : (1 : Int) + (q : Int) = (q1 : Int) := by omega
        have e2 : (t : Int) + (q1 : Int) = (q2 : Int) := by omega
        have e3 : IntKind.i64.wrap (q1 : Int) = (q1 : Int) := by simp [IntKind.wrap, IntKind.signed, IntKind.bits]; omega
        have e4 : IntKind.i64.wrap (q2 : Int) = (q2 : Int) := by simp [IntKind.wrap, IntKind.signed, IntKind.bits]; omega
        have hb2 : (q2 : Int) ≤ 9223372036854775807 := by omega
        have HS := hid (show q2 = cnt n (ps.take (i + 1)) by omega)
        clear hst hq hq1 hq2 hcell g1 g2 g4 hL h40 hq4
        go_wp2_with (at_builtin; refine stopAt ?_; intro q hq)
        exact ⟨⟨i + 1, q2, by omega, by go_num, rfl, hb2, hid ⟨HK.out.1, HS.out⟩⟩, by simp [intOf]; omega⟩
      · have t1 : decide ((t : Int) ≤ 4000) = false := by simp; omega
        have t2 : decide ((4000 : Int) < (t : Int)) = true := by simp; omega
        clear h40
        go_wp2_with (at_builtin; refine stopAt ?_; intro q hq)
        rw [HPost.out]
        exact ⟨true, rfl, HK.out.1, fun h => by cases h⟩
    · have h4 : decide ((i : Int) < m) = false := by simp; omega
      have HB := hid (show t ≤ 4000 → n ≤ 4000 ∧ m ≤ 4000 ∧ ∀ p ∈ ps, p.nodes.length ≤ 4000 from fun h => by
        have h1 := HK.out.2
        rw [List.take_of_length_le (by have := HN.out.2; omega)] at h1
        have h2 := cnt_few (n0 := n) (ps := ps) (by omega)
        exact ⟨h2.1, by have := HN.out.2; omega, h2.2.2⟩)
      by_cases h40 : t ≤ 4000
      · have t2 : decide ((4000 : Int) < (t : Int)) = false := by simp; omega
        have H40 := hid h40
        clear h40
        go_wp2_with (at_builtin; refine stopAt ?_; intro q hq)
        rw [HPost.out]
        exact ⟨false, rfl, HK.out.1, fun _ => HB.out H40.out⟩
      · have t2 : decide ((4000 : Int) < (t : Int)) = true := by simp; omega
        clear h40
        go_wp2_with (at_builtin; refine stopAt ?_; intro q hq)
        rw [HPost.out]
        exact ⟨true, rfl, HK.out.1, fun h => by cases h⟩

/-- What both plans say. -/
def codeOf (s : List Int) (ps : List Pl) (copies : Int) : Nat := if check s ps = 0 then (if copies < 1 ∨ 12 < copies then 2 else 0) else check s ps
def given (s : List Int) (ps : List Pl) (copies : Int) (ms : List Mv) : List Mv := if codeOf s ps copies = 0 then ms else []
theorem PlanPost.all {w w' : World} {s : List Int} {ps : List Pl} {up : Nat} {copies : Int} {ms : List Mv} {e : Ending} (h : PlanPost w s ps up copies ms e w') :
    ∃ mv, e = .returned (.tuple #[mv, .int .i64 (codeOf s ps copies : Nat)]) ∧ Row w' 52 3 mv (given s ps copies ms).length (mvsV (given s ps copies ms)) ∧ (∀ k, mv.ownBlock = some k → w.heap.size ≤ k) ∧ Keep (fun _ => False) w w' := by
  obtain ⟨hk, ⟨h1, rfl⟩ | ⟨h1, h2, rfl⟩ | ⟨h1, h2, mv, rfl, h3, h4⟩⟩ := h
  · have hc : codeOf s ps copies = check s ps := by unfold codeOf; rw [if_neg h1]
    have hg : given s ps copies ms = [] := by unfold given; rw [hc, if_neg h1]
    rw [hc, hg]
    exact ⟨_, rfl, Row.nil _ _ _, fun k e => by simp [Value.ownBlock] at e, hk⟩
  · have hc : codeOf s ps copies = 2 := by unfold codeOf; rw [if_pos h1, if_pos h2]
    have hg : given s ps copies ms = [] := by unfold given; rw [hc]; rfl
    rw [hc, hg]
    exact ⟨_, rfl, Row.nil _ _ _, fun k e => by simp [Value.ownBlock] at e, hk⟩
  · have hc : codeOf s ps copies = 0 := by unfold codeOf; rw [if_pos h1, if_neg (by omega)]
    have hg : given s ps copies ms = ms := by unfold given; rw [if_pos hc]
    rw [hc, hg]
    exact ⟨mv, rfl, h3, h4, hk⟩

/-! ### the moves of a plan and of a drop are small -/
def Small (_ps : List Pl) (m : Mv) : Prop := I64 m.chunk ∧ I64 m.src ∧ I64 m.dst
theorem chunkAt_i64 {ps : List Pl} (h : ∀ p ∈ ps, I64 p.chunk) (i : Nat) : I64 (chunkAt ps i) := by
  unfold chunkAt
  by_cases hi : i < ps.length
  · have : ps.getD i ⟨0, []⟩ = ps[i] := by simp [hi]
    rw [this]
    exact h _ (List.getElem_mem hi)
  · have : ps.getD i ⟨0, []⟩ = ⟨0, []⟩ := by simp [Nat.le_of_not_lt hi]
    rw [this]
    unfold I64; simp
theorem set_chunk_i64 {ps : List Pl} (h : ∀ p ∈ ps, I64 p.chunk) (i : Nat) (l : List Int) : ∀ p ∈ setNodes ps i l, I64 p.chunk := fun p hp => by
  rcases List.mem_or_eq_of_mem_set hp with hp | rfl
  · exact h p hp
  · exact chunkAt_i64 h i
theorem psteps_i64 {s : List Int} {up copies : Nat} {ps ps' : List Pl} {ms : List Mv} (h : PSteps s up copies ps ms ps') (hs : s.length ≤ 12) : Wf s ps → (∀ p ∈ ps, I64 p.chunk) → ∀ m ∈ ms, I64 m.chunk ∧ I64 m.src ∧ I64 m.dst := by
  induction h with
  | nil => intro _ _ m hm; cases hm
  | @cons ps ps' ms i t hi h0 h1 ht _ ih =>
    intro hw hc m hm
    rcases target_spec s up ps (nodesAt ps i) with ⟨hn, _⟩ | ⟨t', ht', hr, hu, hn, -⟩
    · rw [hn] at ht; cases ht
    · rw [ht'] at ht
      cases ht
      rcases List.mem_cons.1 hm with rfl | hm
      · have hsm := (List.mem_filter.1 (source_mem (s := s) h0 t)).1
        have hs0 := (hw.at i).2 _ hsm
        refine ⟨chunkAt_i64 hc i, ?_, ?_⟩ <;> (unfold I64; simp only; omega)
      · exact ih (hw.set i (withN_rise (hw.at i) hr.1 hr.2)) (set_chunk_i64 hc i _) m hm
theorem dsteps_i64 {s : List Int} {up copies : Nat} {ps ps' : List Pl} {ms : List Mv} (h : DSteps s up copies ps ms ps') (hs : s.length ≤ 12) : Wf s ps → (∀ p ∈ ps, I64 p.chunk) → ∀ m ∈ ms, I64 m.chunk ∧ I64 m.src ∧ I64 m.dst := by
  induction h with
  | nil => intro _ _ m hm; cases hm
  | @cons ps ps' ms i t hi h1 ht _ ih =>
    intro hw hc m hm
    rcases worst_spec s up ps (nodesAt ps i) with ⟨hn, _⟩ | ⟨t', ht', hmem, -⟩
    · rw [hn] at ht; cases ht
    · rw [ht'] at ht
      cases ht
      rcases List.mem_cons.1 hm with rfl | hm
      · have hs0 := (hw.at i).2 _ (List.mem_filter.1 hmem).1
        refine ⟨chunkAt_i64 hc i, ?_, ?_⟩ <;> (unfold I64; simp only; omega)
      · exact ih (hw.set i (without_rise (hw.at i))) (set_chunk_i64 hc i _) m hm
theorem planFrom_steps (s : List Int) (up copies : Nat) : ∀ (n i : Nat) (ps : List Pl), i + n ≤ ps.length → PSteps s up copies ps (planFrom s up copies i n ps).1 (planFrom s up copies i n ps).2
  | 0, i, ps, _ => .nil ps
  | n + 1, i, ps, h => by
    have h1 := planAt_steps s up copies i copies ps (by omega)
    have hl : (planAt s up copies i copies ps).2.length = ps.length := by
      have : ∀ (f : Nat) (ps : List Pl), (planAt s up copies i f ps).2.length = ps.length := fun f => by
        induction f with
        | zero => intro ps; rfl
        | succ f ih =>
          intro ps
          unfold planAt
          split
          · cases target s up ps (nodesAt ps i) with
            | none => rfl
            | some t => simp only; rw [ih, set_len]
          · rfl
      exact this _ _
    exact h1.trans (planFrom_steps s up copies n (i + 1) _ (by rw [hl]; omega))
theorem dropFrom_steps (s : List Int) (up copies : Nat) : ∀ (n i : Nat) (ps : List Pl), i + n ≤ ps.length → DSteps s up copies ps (dropFrom s up copies i n ps).1 (dropFrom s up copies i n ps).2
  | 0, i, ps, _ => .nil ps
  | n + 1, i, ps, h => by
    have h1 := dropAt_steps s up copies i (nodesAt ps i).length ps (by omega)
    have hl : (dropAt s up copies i (nodesAt ps i).length ps).2.length = ps.length := by
      have : ∀ (f : Nat) (ps : List Pl), (dropAt s up copies i f ps).2.length = ps.length := fun f => by
        induction f with
        | zero => intro ps; rfl
        | succ f ih =>
          intro ps
          unfold dropAt
          split
          · cases worst s up ps (nodesAt ps i) with
            | none => rfl
            | some t => simp only; rw [ih, set_len]
          · rfl
      exact this _ _
    exact h1.trans (dropFrom_steps s up copies n (i + 1) _ (by rw [hl]; omega))
theorem codeOf_zero {s : List Int} {ps : List Pl} {copies : Int} (h : codeOf s ps copies = 0) : check s ps = 0 ∧ 1 ≤ copies ∧ copies ≤ 12 := by
  unfold codeOf at h
  split at h
  · rename_i h1
    split at h
    · cases h
    · exact ⟨h1, by omega, by omega⟩
  · rename_i h1; exact absurd h h1
theorem plan_i64 (s : List Int) (ps : List Pl) (up : Nat) (copies : Int) (hz : ∀ p ∈ ps, I64 p.chunk) : ∀ m ∈ given s ps copies (plan s up copies.toNat ps).1, I64 m.chunk ∧ I64 m.src ∧ I64 m.dst := by
  unfold given
  split
  · rename_i h
    have hc := check_zero (codeOf_zero h).1
    exact psteps_i64 (planFrom_steps s up copies.toNat ps.length 0 ps (by omega)) hc.1.2 hc.2.2 hz
  · intro m hm; cases hm
theorem drop_i64 (s : List Int) (ps : List Pl) (up : Nat) (copies : Int) (hz : ∀ p ∈ ps, I64 p.chunk) : ∀ m ∈ given s ps copies (drop s up copies.toNat ps).1, I64 m.chunk ∧ I64 m.src ∧ I64 m.dst := by
  unfold given
  split
  · rename_i h
    have hc := check_zero (codeOf_zero h).1
    exact dsteps_i64 (dropFrom_steps s up copies.toNat ps.length 0 ps (by omega)) hc.1.2 hc.2.2 hz
  · intro m hm; cases hm
theorem PlsV.i64 {w : World} {v : Value} {ps : List Pl} (h : PlsV w v ps) : ∀ p ∈ ps, I64 p.chunk := fun p hp => by
  obtain ⟨i, hi, rfl⟩ := List.getElem_of_mem hp
  obtain ⟨ao, c, -, -, hc⟩ := h
  obtain ⟨ad, -, h1⟩ := hc (by omega)
  obtain ⟨_, _, _, _, h2⟩ := h1 i hi
  exact h2
end Go.Proofs.Ytmdonjadhkffiaa
/- Heal: HealPlans' and HealApplies' walks. Conditions: as each law names them. -/
namespace Go.Proofs.Ytmdonjadhkffiaa
open Go.RowKit
open HE

set_option maxRecDepth 20000 in
set_option maxHeartbeats 4000000 in
theorem plans_walk (w : World) (v0 : Value) (s : List Int) (h0 : Ints w v0 s) (up : Nat) (hup : up < 4294967296) (copies : Int) (lo : -9223372036854775808 ≤ copies) (hi : copies ≤ 9223372036854775807) (v3 : Value) (ps : List Pl) (h3 : SliceOf w 2 (PlR w) v3 ps) :
    Calls Try.prog 3 #[v0, .int .u32 (up : Int), .int .i64 copies, v3] w fun e w' => e = .returned (.bool true) ∧ Keep (fun _ => False) w w' := by
  have hs : IntsV w v0 s := IntsV.of_ints h0
  have hp : PlsV w v3 ps := PlsV.of_pls h3
  have HS := hid hs
  have HP := hid hp
  have HMa := hid (many_any w v0 v3 s ps hs hp)
  have HKn := hid known_any
  obtain ⟨aS, cS, rfl, -⟩ := hs
  obtain ⟨aP, cP, rfl, -⟩ := hp
  have hc64 : I64 copies := ⟨lo, hi⟩
  clear h0 h3
  go_enter Try.func3, Try.ntmps3
  go_wp2_with (at_builtin; refine stopAt ?_; intro q hq)
  refine HMa.out.mono ?_
  rintro e w1 ⟨B, rfl, hk1, hfew⟩
  cases B with
  | true =>
    have HK1 := hid hk1
    clear hk1 hfew
    go_wp2_with (at_builtin; refine stopAt ?_; intro q hq)
    refine (HKn.out w1).mono ?_
    rintro e w2 ⟨rfl, hk2⟩
    have HK2 := hid (HK1.out.next hk2 (fun _ _ x => x) (fun _ _ x => x))
    clear hk2
    go_wp2_with (at_builtin; refine stopAt ?_; intro q hq)
    go_ret
    exact ⟨rfl, HK2.out⟩
  | false =>
    obtain ⟨f1, f2, f3⟩ := hfew rfl
    have HF := hid (And.intro f1 (And.intro f2 f3))
    have HCo := hid (rcopy_any w1 _ ps (HP.out.keep hk1) ⟨by omega, fun p hp => by have := f3 p hp; omega⟩)
    have HK1 := hid hk1
    clear hk1 hfew f1 f2 f3
    go_wp2_with (at_builtin; refine stopAt ?_; intro q hq)
    refine HCo.out.mono ?_
    rintro e w2 ⟨vx, xs, rfl, hxs, hox, hk2⟩
    have hpx : PlsV w2 vx ps := by have := hox.pls; rw [hxs] at this; exact this
    have HX := hid hpx
    obtain ⟨aX, cX, rfl, -⟩ := hpx
    have HK2 := hid (HK1.out.next hk2 (fun _ _ x => x) (fun _ _ x => x))
    clear hxs hox hk2 HCo
    go_wp2_with (at_builtin; refine stopAt ?_; intro q hq)
    refine (check_any w2 _ _ s ps (HS.out.keep HK2.out) HX.out).mono ?_
    rintro e w3 ⟨rfl, hk3⟩
    have HX3 := hid (HX.out.keep hk3)
    have HK3 := hid (HK2.out.next hk3 (fun _ _ x => x) (fun _ _ x => x))
    clear hk3
    obtain ⟨E, hE⟩ : ∃ E, E = check s ps := ⟨_, rfl⟩
    rw [← hE]
    have HE := hid hE
    clear hE
    go_wp2_with (at_builtin; refine stopAt ?_; intro q hq)
    refine (plan_any w3 _ _ s ps up copies (HS.out.keep HK3.out) HX3.out hup hc64).mono ?_
    intro e w4 hpost
    obtain ⟨ma, rfl, hra, -, hk4⟩ := hpost.all
    have hMa : MvsV w4 ma (given s ps copies (plan s up copies.toNat ps).1) := MvsV.of_row hra (plan_i64 s ps up copies HP.out.i64)
    have HX4 := hid (HX3.out.keep hk4)
    have HK4 := hid (HK3.out.next hk4 (fun _ _ x => x) (fun _ _ x => x))
    obtain ⟨ama, cma, rfl, -⟩ := id hMa
    obtain ⟨G1, hG1⟩ : ∃ G1, G1 = given s ps copies (plan s up copies.toNat ps).1 := ⟨_, rfl⟩
    obtain ⟨C, hC⟩ : ∃ C, C = codeOf s ps copies := ⟨_, rfl⟩
    rw [← hG1] at hMa ⊢
    rw [← hC]
    have HMA := hid hMa
    have HG1 := hid (And.intro hG1 hC)
    clear hpost hra hk4 hMa hG1 hC
    go_wp2_with (at_builtin; refine stopAt ?_; intro q hq)
    refine (drop_any w4 _ _ s ps up copies (HS.out.keep HK4.out) HX4.out hup hc64).mono ?_
    intro e w5 hpost
    obtain ⟨mb, rfl, hrb, -, hk5⟩ := hpost.all
    have hMb : MvsV w5 mb (given s ps copies (drop s up copies.toNat ps).1) := MvsV.of_row hrb (drop_i64 s ps up copies HP.out.i64)
    have HX5 := hid (HX4.out.keep hk5)
    have HMA5 := hid (HMA.out.keep hk5)
    have HK5 := hid (HK4.out.next hk5 (fun _ _ x => x) (fun _ _ x => x))
    obtain ⟨amb, cmb, rfl, -⟩ := id hMb
    obtain ⟨G2, hG2⟩ : ∃ G2, G2 = given s ps copies (drop s up copies.toNat ps).1 := ⟨_, rfl⟩
    rw [← hG2] at hMb ⊢
    rw [← HG1.out.2]
    have HMB := hid hMb
    have HG2 := hid hG2
    clear hpost hrb hk5 hMb hG2
    go_wp2_with (at_builtin; refine stopAt ?_; intro q hq)
    refine (rplan_any w5 _ _ s ps up copies (HS.out.keep HK5.out) (HP.out.keep HK5.out) hup hc64).mono ?_
    intro e w6 hpost
    obtain ⟨mc, rfl, hrc, -, hk6⟩ := hpost.all
    have hMc : MvsV w6 mc (given s ps copies (plan s up copies.toNat ps).1) := MvsV.of_row hrc (plan_i64 s ps up copies HP.out.i64)
    obtain ⟨amc, cmc, rfl, -⟩ := id hMc
    rw [← HG1.out.1] at hMc ⊢
    rw [← HG1.out.2]
    have HMC := hid hMc
    have HX6 := hid (HX5.out.keep hk6)
    have HMA6 := hid (HMA5.out.keep hk6)
    have HMB6 := hid (HMB.out.keep hk6)
    have HK6 := hid (HK5.out.next hk6 (fun _ _ x => x) (fun _ _ x => x))
    clear hpost hrc hk6 hMc
    go_wp2_with (at_builtin; refine stopAt ?_; intro q hq)
    refine (rdrop_any w6 _ _ s ps up copies (HS.out.keep HK6.out) (HP.out.keep HK6.out) hup hc64).mono ?_
    intro e w7 hpost
    obtain ⟨md, rfl, hrd, -, hk7⟩ := hpost.all
    have hMd : MvsV w7 md (given s ps copies (drop s up copies.toNat ps).1) := MvsV.of_row hrd (drop_i64 s ps up copies HP.out.i64)
    obtain ⟨amd, cmd, rfl, -⟩ := id hMd
    rw [← HG2.out] at hMd ⊢
    rw [← HG1.out.2]
    have HMD := hid hMd
    have HX7 := hid (HX6.out.keep hk7)
    have HMA7 := hid (HMA6.out.keep hk7)
    have HMB7 := hid (HMB6.out.keep hk7)
    have HMC7 := hid (HMC.out.keep hk7)
    have HK7 := hid (HK6.out.next hk7 (fun _ _ x => x) (fun _ _ x => x))
    clear hpost hrd hk7 hMd
    go_wp2_with (at_builtin; refine stopAt ?_; intro q hq)
    refine (rcheck_any w7 _ _ s ps (HS.out.keep HK7.out) (HP.out.keep HK7.out)).mono ?_
    rintro e w8 ⟨rfl, hk8⟩
    rw [← HE.out]
    have HX8 := hid (HX7.out.keep hk8)
    have HMA8 := hid (HMA7.out.keep hk8)
    have HMB8 := hid (HMB7.out.keep hk8)
    have HMC8 := hid (HMC7.out.keep hk8)
    have HMD8 := hid (HMD.out.keep hk8)
    have HK8 := hid (HK7.out.next hk8 (fun _ _ x => x) (fun _ _ x => x))
    clear hk8
    go_wp2_with (at_builtin; refine stopAt ?_; intro q hq)
    refine (rsameMoves_any w8 _ _ G1 HMA8.out HMC8.out).mono ?_
    rintro e w9 ⟨rfl, hk9⟩
    have HK9 := hid (HK8.out.next hk9 (fun _ _ x => x) (fun _ _ x => x))
    have HX9 := hid (HX8.out.keep hk9)
    have HMB9 := hid (HMB8.out.keep hk9)
    have HMD9 := hid (HMD8.out.keep hk9)
    clear hk9
    go_wp2_with (at_builtin; refine stopAt ?_; intro q hq)
    refine (rsameMoves_any w9 _ _ G2 HMB9.out HMD9.out).mono ?_
    rintro e w10 ⟨rfl, hk10⟩
    have HK10 := hid (HK9.out.next hk10 (fun _ _ x => x) (fun _ _ x => x))
    have HX10 := hid (HX9.out.keep hk10)
    clear hk10
    go_wp2_with (at_builtin; refine stopAt ?_; intro q hq)
    refine (rsame_any w10 _ _ ps HX10.out (HP.out.keep HK10.out)).mono ?_
    rintro e w11 ⟨rfl, hk11⟩
    have HK11 := hid (HK10.out.next hk11 (fun _ _ x => x) (fun _ _ x => x))
    clear hk11
    go_wp2_with (at_builtin; refine stopAt ?_; intro q hq)
    refine (HKn.out w11).mono ?_
    rintro e w12 ⟨rfl, hk12⟩
    have HK12 := hid (HK11.out.next hk12 (fun _ _ x => x) (fun _ _ x => x))
    clear hk12
    go_wp2_with (at_builtin; refine stopAt ?_; intro q hq)
    go_ret
    exact ⟨rfl, HK12.out⟩

theorem ApplyPost.all {w w' : World} {ps : List Pl} {ms : List Mv} {e : Ending} (h : ApplyPost w ps ms e w') :
    ∃ v xs, e = .returned (.tuple #[v, .int .i64 (if (apply ps ms).isSome then 0 else 160)]) ∧ xs.map (·.1) = (apply ps ms).getD [] ∧ PlsO w.heap.size w' v xs ∧ Keep (fun _ => False) w w' := by
  obtain ⟨hk, ⟨h1, rfl⟩ | ⟨v, xs, h1, rfl, h3⟩⟩ := h
  · rw [h1]
    exact ⟨_, [], rfl, rfl, PlsO.nil _ _, hk⟩
  · rw [h1]
    exact ⟨v, xs, rfl, rfl, h3, hk⟩

set_option maxRecDepth 20000 in
set_option maxHeartbeats 4000000 in
theorem applies_walk (w : World) (v0 : Value) (ps : List Pl) (h0 : SliceOf w 2 (PlR w) v0 ps) (v1 : Value) (ms : List Mv) (h1 : SliceOf w 3 MvR v1 ms) :
    Calls Try.prog 4 #[v0, v1] w fun e w' => e = .returned (.bool true) ∧ Keep (fun _ => False) w w' := by
  have hp : PlsV w v0 ps := PlsV.of_pls h0
  have hm : MvsV w v1 ms := MvsV.of_moves h1
  have HP := hid hp
  have HM := hid hm
  have HMa := hid (many_any w (.slice none 0 0) v0 [] ps ⟨none, 0, rfl, Nat.zero_le _, by simp, fun h => absurd h (by simp)⟩ hp)
  have HKn := hid known_any
  obtain ⟨aP, cP, rfl, -⟩ := hp
  obtain ⟨aM, cM, rfl, hmM, -⟩ := hm
  obtain ⟨m, hmm⟩ : ∃ m, m = ms.length := ⟨_, rfl⟩
  rw [← hmm] at hmM HM ⊢
  have Hm := hid hmm
  have hm63 : (m : Int) ≤ 9223372036854775807 := by unfold maxLen at hmM; omega
  clear h0 h1 hmm
  go_enter Try.func4, Try.ntmps4
  go_wp2_with (at_builtin; refine stopAt ?_; intro q hq)
  refine HMa.out.mono ?_
  rintro e w1 ⟨B, rfl, hk1, hfew⟩
  have HK1 := hid hk1
  have HFew := hid hfew
  clear hk1 hfew
  cases B with
  | true =>
    go_wp2_with (at_builtin; refine stopAt ?_; intro q hq)
    refine (HKn.out w1).mono ?_
    rintro e w2 ⟨rfl, hk2⟩
    have HK2 := hid (HK1.out.next hk2 (fun _ _ x => x) (fun _ _ x => x))
    clear hk2
    go_wp2_with (at_builtin; refine stopAt ?_; intro q hq)
    go_ret
    exact ⟨rfl, HK2.out⟩
  | false =>
    by_cases h500 : 500 < m
    · have t1 : decide ((500 : Int) < (m : Int)) = true := by simp; omega
      clear h500
      go_wp2_with (at_builtin; refine stopAt ?_; intro q hq)
      refine (HKn.out w1).mono ?_
      rintro e w2 ⟨rfl, hk2⟩
      have HK2 := hid (HK1.out.next hk2 (fun _ _ x => x) (fun _ _ x => x))
      clear hk2
      go_wp2_with (at_builtin; refine stopAt ?_; intro q hq)
      go_ret
      exact ⟨rfl, HK2.out⟩
    have t1 : decide ((500 : Int) < (m : Int)) = false := by simp; omega
    obtain ⟨-, f2, f3⟩ := HFew.out rfl
    have hsm : ps.length ≤ 100000 ∧ (∀ p ∈ ps, p.nodes.length ≤ 100000) ∧ ms.length ≤ 100000 := ⟨by omega, fun p hp => by have := f3 p hp; omega, by have := Hm.out; omega⟩
    have HSm := hid hsm
    have HCo := hid (rcopy_any w1 _ ps (HP.out.keep HK1.out) ⟨hsm.1, hsm.2.1⟩)
    clear h500 f2 f3 hsm
    go_wp2_with (at_builtin; refine stopAt ?_; intro q hq)
    refine HCo.out.mono ?_
    rintro e w2 ⟨vx, xs, rfl, hxs, hox, hk2⟩
    have hpx : PlsV w2 vx ps := by have := hox.pls; rw [hxs] at this; exact this
    have HX := hid hpx
    obtain ⟨aX, cX, rfl, -⟩ := hpx
    have HK2 := hid (HK1.out.next hk2 (fun _ _ x => x) (fun _ _ x => x))
    clear hxs hox hk2 HCo
    go_wp2_with (at_builtin; refine stopAt ?_; intro q hq)
    refine (apply_any w2 _ _ ps ms HX.out (HM.out.keep HK2.out) HSm.out).mono ?_
    intro e w3 hpost
    obtain ⟨va, ya, rfl, hya, hoa, hk3⟩ := hpost.all
    obtain ⟨ava, cva, rfl, -⟩ := hoa.row.form
    obtain ⟨X, hX⟩ : ∃ X, X = ya.length := ⟨_, rfl⟩
    rw [← hX] at hoa ⊢
    obtain ⟨E, hE⟩ : ∃ E : Int, E = if (apply ps ms).isSome then 0 else 160 := ⟨_, rfl⟩
    rw [← hE]
    have HA := hid (And.intro hya (And.intro hoa (And.intro hX hE)))
    have HK23 := hid hk3
    have HK3 := hid (HK2.out.next hk3 (fun _ _ x => x) (fun _ _ x => x))
    clear hpost hya hoa hX hE hk3
    go_wp2_with (at_builtin; refine stopAt ?_; intro q hq)
    refine (rapply_any w3 _ _ ps ms (HP.out.keep HK3.out) (HM.out.keep HK3.out) HSm.out).mono ?_
    intro e w4 hpost
    obtain ⟨vb, yb, rfl, hyb, hob, hk4⟩ := hpost.all
    rw [← HA.out.2.2.2]
    have hpb : PlsV w4 vb ((apply ps ms).getD []) := by have := hob.pls; rw [hyb] at this; exact this
    obtain ⟨aB, cB, rfl, -⟩ := id hpb
    have hpa : PlsV w4 (.slice ava X cva) ((apply ps ms).getD []) := by have := (HA.out.2.1.later hk4).pls; rw [HA.out.1] at this; exact this
    have HSame := hid (rsame_any w4 _ _ _ hpa hpb)
    have HA4 := hid (HA.out.2.1.later hk4)
    have HK24 := hid (HK23.out.next hk4 (fun _ _ x => x) (fun _ _ x => x))
    clear hpost hyb hob hk4 hpb hpa
    go_wp2_with (at_builtin; refine stopAt ?_; intro q hq)
    refine HSame.out.mono ?_
    rintro e w5 ⟨rfl, hk5⟩
    have HK25 := hid (HK24.out.next hk5 (fun _ _ x => x) (fun _ _ x => x))
    have HA5 := hid (HA4.out.later hk5)
    clear hk5
    go_wp2_with (at_builtin; refine stopAt ?_; intro q hq)
    refine (rsame_any w5 _ _ ps (HX.out.keep HK25.out) (HP.out.keep (HK2.out.next HK25.out (fun _ _ x => x) (fun _ _ x => x)))).mono ?_
    rintro e w6 ⟨rfl, hk6⟩
    have HK26 := hid (HK25.out.next hk6 (fun _ _ x => x) (fun _ _ x => x))
    have HA6 := hid (And.intro (HA5.out.later hk6) HA.out.2.2.1.symm)
    have hX63 : (X : Int) ≤ 9223372036854775807 := by
      obtain ⟨_, _, hv, hc1, hc2, -⟩ := HA.out.2.1.row.form
      have := HA.out.2.2.1
      unfold maxLen at hc2; omega
    clear hk6
    go_wp2_with (at_builtin; refine stopAt ?_; intro q hq)
    go_loopw [10] (fun iv wr => ∃ (i : Nat) (ys : List (Pl × Value)), i ≤ X ∧ iv = .int .i64 i ∧ Hid (PlsO w2.heap.size wr (.slice ava X cva) ys ∧ ys.length = X ∧ Keep (fun _ => False) w2 wr)) (fun iv _ => X - (intOf iv).toNat)
    case atStart => exact ⟨0, ya, Nat.zero_le _, rfl, hid ⟨HA6.out.1, HA6.out.2, HK26.out⟩⟩
    case round =>
      obtain ⟨i, ys, hi, rfl, HY⟩ := hrel
      by_cases hin : i < X
      · have h4 : (i : Int) < X := by omega
        have hyl : i < ys.length := by have := HY.out.2.1; omega
        obtain ⟨L, hL⟩ : ∃ L, L = ys[i].1.nodes.length := ⟨_, rfl⟩
        have HY0 := hid (And.intro HY.out.1 (And.intro HY.out.2.1 (And.intro (show ∀ h : i < ys.length, ys[i].1.nodes.length = L from fun _ => hL.symm) HY.out.2.2)))
        clear hL
        go_wp2_with (at_builtin; refine stopAt ?_; intro q hq)
        go_loopw [11] (fun kv wy => ∃ (k : Nat) (zs : List (Pl × Value)), k ≤ L ∧ kv = .int .i64 k ∧ Hid (PlsO w2.heap.size wy (.slice ava X cva) zs ∧ zs.length = X ∧ (∀ h : i < zs.length, zs[i].1.nodes.length = L) ∧ Keep (fun _ => False) w2 wy)) (fun kv _ => L - (intOf kv).toNat)
        case atStart => exact ⟨0, ys, Nat.zero_le _, rfl, HY0⟩
        case round =>
          obtain ⟨k, zs, hk, rfl, HZ⟩ := hrel
          have hzl : i < zs.length := by have := HZ.out.2.1; omega
          obtain ⟨g, cap, hvg, -, p1, -⟩ := HZ.out.1.at i hzl
          have hav : ava = some ⟨g, 0, none⟩ := by injection hvg
          subst hav
          have hrow := HZ.out.1.each _ (List.getElem_mem hzl)
          have hll := HZ.out.2.2.1 hzl
          obtain ⟨nl, hnl⟩ : ∃ nl, nl = zs[i].1.nodes := ⟨_, rfl⟩
          obtain ⟨nv, hnv⟩ : ∃ nv, nv = zs[i].2 := ⟨_, rfl⟩
          rw [← hnl] at hrow hll
          rw [← hnv] at p1 hrow
          rw [hll] at hrow
          obtain ⟨an, cn, rfl, hcn1, hcn2, -⟩ := hrow.form
          have hL63 : (L : Int) ≤ 9223372036854775807 := by unfold maxLen at hcn2; omega
          have HNv := hid (And.intro hnl (And.intro hnv (And.intro hrow hll)))
          clear hvg hrow hll hnl hnv hcn1 hcn2
          by_cases hkn : k < L
          · have h5 : (k : Int) < L := by omega
            have hknl : k < nl.length := by have := HNv.out.2.2.2; omega
            obtain ⟨gn, cap2, hv2, c0⟩ := HNv.out.2.2.1.getCell (show (numsV nl)[k]? = some (.int .i64 nl[k]) by
              unfold numsV
              rw [List.getElem?_map, List.getElem?_eq_getElem hknl]; rfl)
            have han : an = some ⟨gn, 0, none⟩ := by injection hv2
            subst han
            have hrow := HNv.out.2.2.1
            have c1 := hrow.frozen k (by omega)
            have hset := hrow.setOne k hkn (.int .i64 (-7)) rfl
            have hkk : Keep (fun q => (zs[i]).2.ownBlock = some q) wr (wr.setCell ⟨gn, k, none⟩ (.int .i64 (-7))) := by
              refine Keep.setCell (Keep.refl _ _) (.inl ?_) _
              rw [← HNv.out.2.1]; rfl
            have hturn := HZ.out.1.turn i hzl (l' := nl.set k (-7)) HZ.out.2.2.2.size hkk (by
              rw [← HNv.out.2.1, List.length_set, HNv.out.2.2.2]
              have e : numsV (nl.set k (-7)) = (numsV nl).set k (.int .i64 (-7)) := by unfold numsV; rw [List.map_set]
              rw [e]; exact hset) (fun z hz => by
                rcases List.mem_or_eq_of_mem_set hz with hz | rfl
                · have := (HZ.out.1.i64 _ (List.getElem_mem hzl)).2; rw [← HNv.out.1] at this; exact this z hz
                · unfold I64; omega)
            have hown := (HZ.out.1.owns _ (List.getElem_mem hzl) gn (by rw [← HNv.out.2.1]; rfl)).1
            have HF := hid (show PlsO w2.heap.size (wr.setCell ⟨gn, k, none⟩ (.int .i64 (-7))) (.slice (some ⟨g, 0, none⟩) X cva) (zs.set i (⟨zs[i].1.chunk, nl.set k (-7)⟩, zs[i].2)) ∧ (zs.set i (⟨zs[i].1.chunk, nl.set k (-7)⟩, zs[i].2)).length = X ∧
              (∀ h : i < (zs.set i (⟨zs[i].1.chunk, nl.set k (-7)⟩, zs[i].2)).length, (zs.set i (⟨zs[i].1.chunk, nl.set k (-7)⟩, zs[i].2))[i].1.nodes.length = L) ∧ Keep (fun _ => False) w2 (wr.setCell ⟨gn, k, none⟩ (.int .i64 (-7))) from
              ⟨hturn, by rw [List.length_set]; exact HZ.out.2.1, fun h => by rw [List.getElem_set_self]; simp only [List.length_set]; exact HNv.out.2.2.2, HZ.out.2.2.2.setCell (.inr hown) _⟩)
            clear hv2 hrow hset hkk hturn hown
            go_wp2_with (at_builtin; refine stopAt ?_; intro q hq)
            exact ⟨⟨k + 1, _, by omega, by go_num, HF⟩, by simp [intOf]; omega⟩
          · have h5 : decide ((k : Int) < L) = false := by simp; omega
            go_wp2_with (at_builtin; refine stopAt ?_; intro q hq)
            exact ⟨⟨i + 1, zs, by omega, by go_num, hid ⟨HZ.out.1, HZ.out.2.1, HZ.out.2.2.2⟩⟩, by simp [intOf]; omega⟩
      · have h4 : decide ((i : Int) < X) = false := by simp; omega
        go_wp2_with (at_builtin; refine stopAt ?_; intro q hq)
        refine (rsame_any wr _ _ ps (HX.out.keep HY.out.2.2) (HP.out.keep (HK2.out.next HY.out.2.2 (fun _ _ x => x) (fun _ _ x => x)))).mono ?_
        rintro e w7 ⟨rfl, hk7⟩
        have HK7 := hid ((HK2.out.next HY.out.2.2 (fun _ _ x => x) (fun _ _ x => x)).next hk7 (fun _ _ x => x) (fun _ _ x => x))
        clear hk7
        go_wp2_with (at_builtin; refine stopAt ?_; intro q hq)
        refine (HKn.out w7).mono ?_
        rintro e w8 ⟨rfl, hk8⟩
        have HK8 := hid (HK7.out.next hk8 (fun _ _ x => x) (fun _ _ x => x))
        clear hk8
        go_wp2_with (at_builtin; refine stopAt ?_; intro q hq)
        go_ret
        exact ⟨rfl, HK8.out⟩
end Go.Proofs.Ytmdonjadhkffiaa
