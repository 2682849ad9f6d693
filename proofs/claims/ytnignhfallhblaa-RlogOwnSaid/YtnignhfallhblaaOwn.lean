/- Own: lists of bytes that each have memory of their own are written over, and grown, and still are what was written. Conditions: as the contract names them. -/
import Derived.Test.YtnignhfallhblaaLists
namespace Go.Proofs.Ytnignhfallhblaa
open Go.RowKit

theorem ty_lists : SliceTy Try.prog 22 24 (.slice none 0 0) 1 24 := ⟨by kernel_rfl, by kernel_rfl, rfl, by decide⟩

/-- n rows of bytes in an outer row, row j ns j long; c tells whose each block is: 0 the outer row's, j + 2 row j's. -/
structure Lot (c : Nat → Nat) (w : World) (v : Value) (vs : List Value) (n : Nat) (ns : Nat → Nat) (C : Nat → List Value → Prop) : Prop where
  row : Row w 24 1 v n vs
  each : ∀ j, j < n → ∃ u xs, vs[j]? = some u ∧ Row w 5 1 u (ns j) xs ∧ C j xs
  cv : ∀ k, v.ownBlock = some k → c k = 0
  ce : ∀ (j : Nat) u k, vs[j]? = some u → u.ownBlock = some k → c k = j + 2

def patV (j t : Nat) : Value := .int .u8 (((j : Int) * 31 + (t : Int) % 7) % 256)
def markV (j t : Nat) : Value := .int .u8 ((200 + (j : Int) * 5 + (t : Int)) % 256)
def Filled (j m : Nat) (xs : List Value) : Prop := ∀ t, t < m → xs[t]? = some (patV j t)

structure Own1 (c : Nat → Nat) (w0 : World) (v : Value) (vs : List Value) (n : Nat) (ns : Nat → Nat) (i k : Nat) (wr : World) : Prop where
  lot : Lot c wr v vs n ns (fun j xs => (j < i → Filled j (ns j) xs) ∧ (j = i → Filled j k xs))
  keep : Keep (fun b => ∃ u ∈ vs, u.ownBlock = some b) w0 wr

theorem Own1.put {c : Nat → Nat} {w0 wr : World} {v : Value} {vs : List Value} {n : Nat} {ns : Nat → Nat} {i k m g cap : Nat} (H : Own1 c w0 v vs n ns i k wr) (hin : i < n)
    (hu : vs[i]? = some (.slice (some ⟨g, 0, none⟩) m cap)) (hm : m = ns i) (hkm : k < m) : Own1 c w0 v vs n ns i (k + 1) (wr.setCell ⟨g, k, none⟩ (patV i k)) := by
  have hcg : c g = i + 2 := H.lot.ce i _ g hu rfl
  have hk : Keep (fun b => b = g) wr (wr.setCell ⟨g, k, none⟩ (patV i k)) := by refine Keep.setCell (Keep.refl _ _) (.inl ?_) _; rfl
  refine ⟨⟨H.lot.row.keep hk fun b e x => ?_, fun j hj => ?_, H.lot.cv, H.lot.ce⟩, H.keep.next hk (fun _ _ x => x) fun b _ x => ?_⟩
  · have := H.lot.cv b e
    rw [x] at this
    omega
  · obtain ⟨u, xs, h1, h2, h3, h4⟩ := H.lot.each j hj
    by_cases hji : j = i
    · subst hji
      rw [hu] at h1
      cases h1
      rw [← hm] at h2
      have hl := h2.1
      refine ⟨_, xs.set k (patV j k), hu, by rw [← hm]; exact h2.setOne k hkm _ rfl, fun x => absurd x (Nat.lt_irrefl _), fun _ t ht => ?_⟩
      rw [List.getElem?_set]
      by_cases htk : k = t
      · subst htk
        rw [if_pos rfl, if_pos (by omega)]
      · rw [if_neg htk]
        exact h4 rfl t (by omega)
    · refine ⟨u, xs, h1, h2.keep hk fun b e x => ?_, h3, fun x => absurd x hji⟩
      have := H.lot.ce j u b h1 e
      rw [x] at this
      omega
  · refine ⟨_, List.mem_of_getElem? hu, ?_⟩
    rw [x]
    rfl

def Marked (j m k : Nat) (xs : List Value) : Prop := ∀ t, t < k → xs[m + t]? = some (markV j t)

/-- Behind the writing, i rows grown by four. -/
structure Own2 (c : Nat → Nat) (w0 : World) (v : Value) (vs : List Value) (n : Nat) (ns : Nat → Nat) (i : Nat) (lv : Value) (ls : List Value) (wr : World) : Prop where
  lot : Lot c wr v vs n ns (fun j xs => Filled j (ns j) xs)
  lrow : Row wr 24 1 lv i ls
  lone : ∀ j, j < i → ∃ u xs, ls[j]? = some u ∧ Row wr 5 1 u (ns j + 4) xs ∧ Filled j (ns j) xs ∧ Marked j (ns j) 4 xs
  cl : ∀ b, lv.ownBlock = some b → c b = 1
  cu : ∀ (j : Nat) u b, ls[j]? = some u → u.ownBlock = some b → c b = j + 2
  keep : Keep (fun b => ∃ u ∈ vs, u.ownBlock = some b) w0 wr
  fresh : ∀ b, lv.ownBlock = some b → w0.heap.size ≤ b

/-- .. and the row at hand, k of its four. -/
structure Own3 (c : Nat → Nat) (w0 : World) (v : Value) (vs : List Value) (n : Nat) (ns : Nat → Nat) (i : Nat) (lv : Value) (ls : List Value) (k : Nat) (x : Value) (wr : World) : Prop where
  two : Own2 c w0 v vs n ns i lv ls wr
  row : ∃ xs, Row wr 5 1 x (ns i + k) xs ∧ Filled i (ns i) xs ∧ Marked i (ns i) k xs
  cx : ∀ b, x.ownBlock = some b → c b = i + 2
  fx : ∀ b, x.ownBlock = some b → (∃ u ∈ vs, u.ownBlock = some b) ∨ w0.heap.size ≤ b

theorem Lot.relabel {c c' : Nat → Nat} {w : World} {v : Value} {vs : List Value} {n : Nat} {ns : Nat → Nat} {C : Nat → List Value → Prop} (h : Lot c w v vs n ns C) (hc : ∀ b, b < w.heap.size → c' b = c b) : Lot c' w v vs n ns C := by
  refine ⟨h.row, h.each, fun k e => by rw [hc _ (h.row.lt e)]; exact h.cv k e, fun j u k hu e => ?_⟩
  have hj : j < n := by have := h.row.1; have := (List.getElem?_eq_some_iff.1 hu).1; omega
  obtain ⟨u', xs, h1, h2, _⟩ := h.each j hj
  rw [hu] at h1
  cases h1
  rw [hc _ (h2.lt e)]
  exact h.ce j u k hu e

theorem Row.same_cap {w : World} {e : TypeId} {g n m cap cap' : Nat} {xs ys : List Value} (h : Row w e 1 (.slice (.some ⟨g, 0, none⟩) n cap) n xs) (h' : Row w e 1 (.slice (.some ⟨g, 0, none⟩) m cap') m ys) : cap = cap' := by
  rcases h.2 with ⟨hv, _⟩ | ⟨g1, c1, cur1, fz1, hv, hg, _, _, _, hs, _⟩
  · cases hv
  · cases hv
    rcases h'.2 with ⟨hv, _⟩ | ⟨g2, c2, cur2, fz2, hv, hg2, _, _, _, hs2, _⟩
    · cases hv
    · cases hv
      rw [hg] at hg2
      cases hg2
      omega

theorem Own1.two {c : Nat → Nat} {w0 wr : World} {v : Value} {vs : List Value} {n : Nat} {ns : Nat → Nat} (H : Own1 c w0 v vs n ns n 0 wr) : Own2 c w0 v vs n ns 0 (.slice none 0 0) [] wr := by
  refine ⟨⟨H.lot.row, fun j hj => ?_, H.lot.cv, H.lot.ce⟩, Row.nil _ _ _, fun j hj => absurd hj (Nat.not_lt_zero _), fun b e => by simp [Value.ownBlock] at e, fun j u b e => by simp at e, H.keep, fun b e => by simp [Value.ownBlock] at e⟩
  obtain ⟨u, xs, h1, h2, h3, _⟩ := H.lot.each j hj
  exact ⟨u, xs, h1, h2, h3 hj⟩

theorem Own2.three {c : Nat → Nat} {w0 wr : World} {v : Value} {vs : List Value} {n : Nat} {ns : Nat → Nat} {i : Nat} {lv : Value} {ls : List Value} (H : Own2 c w0 v vs n ns i lv ls wr) (hin : i < n) {u : Value} (hu : vs[i]? = some u) :
    Own3 c w0 v vs n ns i lv ls 0 u wr := by
  obtain ⟨u', xs, h1, h2, h3⟩ := H.lot.each i hin
  rw [hu] at h1
  cases h1
  exact ⟨H, ⟨xs, h2, h3, fun t ht => absurd ht (Nat.not_lt_zero _)⟩, fun b e => H.lot.ce i _ b hu e, fun b e => .inl ⟨_, List.mem_of_getElem? hu, e⟩⟩

/-- Nothing of it is touched. -/
theorem Own2.step {c : Nat → Nat} {w0 wr w' : World} {v : Value} {vs : List Value} {n : Nat} {ns : Nat → Nat} {i : Nat} {lv : Value} {ls : List Value} (H : Own2 c w0 v vs n ns i lv ls wr) (hk : Keep (fun _ => False) wr w') : Own2 c w0 v vs n ns i lv ls w' := by
  refine ⟨⟨H.lot.row.keep hk fun _ _ x => x, fun j hj => ?_, H.lot.cv, H.lot.ce⟩, H.lrow.keep hk fun _ _ x => x, fun j hj => ?_, H.cl, H.cu, H.keep.next hk (fun _ _ x => x) fun _ _ x => x.elim, H.fresh⟩
  · obtain ⟨u, xs, h1, h2, h3⟩ := H.lot.each j hj
    exact ⟨u, xs, h1, h2.keep hk fun _ _ x => x, h3⟩
  · obtain ⟨u, xs, h1, h2, h3⟩ := H.lone j hj
    exact ⟨u, xs, h1, h2.keep hk fun _ _ x => x, h3⟩
theorem Own3.step {c : Nat → Nat} {w0 wr w' : World} {v : Value} {vs : List Value} {n : Nat} {ns : Nat → Nat} {i k : Nat} {lv x : Value} {ls : List Value} (H : Own3 c w0 v vs n ns i lv ls k x wr) (hk : Keep (fun _ => False) wr w') : Own3 c w0 v vs n ns i lv ls k x w' := by
  obtain ⟨xs, h1, h2⟩ := H.row
  exact ⟨H.two.step hk, ⟨xs, h1.keep hk fun _ _ x => x, h2⟩, H.cx, H.fx⟩

/-- One of the four. -/
theorem Own3.push {c : Nat → Nat} {w0 wr w' : World} {v : Value} {vs : List Value} {n : Nat} {ns : Nat → Nat} {i k : Nat} {lv x x' : Value} {ls xs : List Value} (H : Own3 c w0 v vs n ns i lv ls k x wr) (hin : i < n)
    (hr : Row wr 5 1 x (ns i + k) xs) (hf : Filled i (ns i) xs) (hm : Marked i (ns i) k xs) (hr' : Row w' 5 1 x' (ns i + k + 1) (xs ++ [markV i k])) (hk : Keep (fun b => x.ownBlock = some b) wr w')
    (hx : ∃ b, x'.ownBlock = some b ∧ (x.ownBlock = some b ∨ b = wr.heap.size)) (ho : Row w' 5 1 x (ns i + k) xs) : ∃ c', Own3 c' w0 v vs n ns i lv ls (k + 1) x' w' := by
  obtain ⟨b, hb, hx⟩ := hx
  have hl : xs.length = ns i + k := by have := hr.1; omega
  have h0 : w0.heap.size ≤ wr.heap.size := H.two.keep.size
  obtain ⟨c', hcn, hc'⟩ : ∃ c' : Nat → Nat, c' wr.heap.size = i + 2 ∧ ∀ y, y < wr.heap.size → c' y = c y := ⟨fun y => if y = wr.heap.size then i + 2 else c y, if_pos rfl, fun y hy => if_neg (by omega)⟩
  have L := H.two.lot.relabel hc'
  refine ⟨c', ⟨⟨L.row.keep hk fun y e z => ?_, fun j hj => ?_, L.cv, L.ce⟩, H.two.lrow.keep hk fun y e z => ?_, fun j hj => ?_, fun y e => ?_, fun j u y hu e => ?_, H.two.keep.next hk (fun _ _ x => x) fun y hy z => ?_, H.two.fresh⟩,
    ⟨xs ++ [markV i k], hr', fun t ht => ?_, fun t ht => ?_⟩, fun y e => ?_, fun y e => ?_⟩
  · have h1 := H.two.lot.cv y e
    have h2 := H.cx y z
    omega
  · obtain ⟨u, ys, h1, h2, h3⟩ := H.two.lot.each j hj
    by_cases hsame : ∃ y, u.ownBlock = some y ∧ x.ownBlock = some y
    · obtain ⟨y, e1, e2⟩ := hsame
      have c1 := H.two.lot.ce j u y h1 e1
      have c2 := H.cx y e2
      obtain rfl : j = i := by omega
      obtain ⟨ad, cap, rfl, -, -, -, hform⟩ := h2.form
      obtain ⟨ad', cap', rfl, -, -, -, hform'⟩ := hr.form
      obtain ⟨a, rfl⟩ : ∃ a, ad = some a := by cases ad with | none => simp [Value.ownBlock] at e1 | some a => exact ⟨a, rfl⟩
      obtain ⟨a', rfl⟩ : ∃ a, ad' = some a := by cases ad' with | none => simp [Value.ownBlock] at e2 | some a => exact ⟨a, rfl⟩
      obtain ⟨f1, f2⟩ := hform a rfl
      obtain ⟨f3, f4⟩ := hform' a' rfl
      rw [f2] at e1
      rw [f4] at e2
      cases e1
      have e3 : a'.block = a.block := by simpa using e2
      have e4 : a' = a := by rw [f1, f3, e3]
      subst e4
      rw [f1] at h2 hr ho h1
      have := Row.same_cap h2 hr
      subst this
      refine ⟨_, _, h1, ho.cut (ns j) (by omega), fun t ht => ?_⟩
      rw [List.getElem?_take, if_pos (by omega)]
      exact hf t ht
    · exact ⟨u, ys, h1, h2.keep hk fun y e z => hsame ⟨y, e, z⟩, h3⟩
  · have h1 := H.two.cl y e
    have h2 := H.cx y z
    omega
  · obtain ⟨u, ys, h1, h2, h3⟩ := H.two.lone j hj
    refine ⟨u, ys, h1, h2.keep hk fun y e z => ?_, h3⟩
    have h1 := H.two.cu j u y h1 e
    have h2 := H.cx y z
    omega
  · rw [hc' y (H.two.lrow.lt e)]
    exact H.two.cl y e
  · have hj : j < i := by have := H.two.lrow.1; have := (List.getElem?_eq_some_iff.1 hu).1; omega
    obtain ⟨u', ys, h1, h2, h3⟩ := H.two.lone j hj
    rw [hu] at h1
    cases h1
    rw [hc' y (h2.lt e)]
    exact H.two.cu j u y hu e
  · rcases H.fx y z with h | h
    · exact h
    · omega
  · rw [List.getElem?_append_left (by omega)]
    exact hf t ht
  · by_cases htk : t < k
    · rw [List.getElem?_append_left (by omega)]
      exact hm t htk
    · obtain rfl : t = k := by omega
      rw [List.getElem?_append_right (by omega), hl]
      simp
  · have e' : y = b := by rw [hb] at e; exact (Option.some.inj e).symm
    rw [e']
    rcases hx with hx | hx
    · rw [hc' b (hr.lt hx)]
      exact H.cx b hx
    · rw [hx]
      exact hcn
  · have e' : y = b := by rw [hb] at e; exact (Option.some.inj e).symm
    rw [e']
    rcases hx with hx | hx
    · exact H.fx b hx
    · exact .inr (by omega)

/-- The row at hand goes to the long ones. -/
theorem Own3.done {c : Nat → Nat} {w0 wr w' : World} {v : Value} {vs : List Value} {n : Nat} {ns : Nat → Nat} {i : Nat} {lv x lv' : Value} {ls : List Value} (H : Own3 c w0 v vs n ns i lv ls 4 x wr)
    (hr' : Row w' 24 1 lv' (i + 1) (ls ++ [x])) (hk : Keep (fun b => lv.ownBlock = some b) wr w')
    (hx : ∃ b, lv'.ownBlock = some b ∧ (lv.ownBlock = some b ∨ b = wr.heap.size)) : ∃ c', Own2 c' w0 v vs n ns (i + 1) lv' (ls ++ [x]) w' := by
  obtain ⟨b, hb, hx⟩ := hx
  have hl : ls.length = i := by have := H.two.lrow.1; omega
  have h0 : w0.heap.size ≤ wr.heap.size := H.two.keep.size
  obtain ⟨c', hcn, hc'⟩ : ∃ c' : Nat → Nat, c' wr.heap.size = 1 ∧ ∀ y, y < wr.heap.size → c' y = c y := ⟨fun y => if y = wr.heap.size then 1 else c y, if_pos rfl, fun y hy => if_neg (by omega)⟩
  have L := H.two.lot.relabel hc'
  obtain ⟨xs, g1, g2, g3⟩ := H.row
  refine ⟨c', ⟨L.row.keep hk fun y e z => ?_, fun j hj => ?_, L.cv, L.ce⟩, hr', fun j hj => ?_, fun y e => ?_, fun j u y hu e => ?_, H.two.keep.next hk (fun _ _ x => x) fun y hy z => ?_, fun y e => ?_⟩
  · have h1 := H.two.lot.cv y e
    have h2 := H.two.cl y z
    omega
  · obtain ⟨u, ys, h1, h2, h3⟩ := H.two.lot.each j hj
    refine ⟨u, ys, h1, h2.keep hk fun y e z => ?_, h3⟩
    have h1 := H.two.lot.ce j u y h1 e
    have h2 := H.two.cl y z
    omega
  · by_cases hji : j < i
    · obtain ⟨u, ys, h1, h2, h3⟩ := H.two.lone j hji
      refine ⟨u, ys, by rw [List.getElem?_append_left (by omega)]; exact h1, h2.keep hk fun y e z => ?_, h3⟩
      have h1 := H.two.cu j u y h1 e
      have h2 := H.two.cl y z
      omega
    · obtain rfl : j = i := by omega
      refine ⟨x, xs, by rw [List.getElem?_append_right (by omega)]; simp [hl], g1.keep hk fun y e z => ?_, g2, g3⟩
      have h1 := H.cx y e
      have h2 := H.two.cl y z
      omega
  · have e' : y = b := by rw [hb] at e; exact (Option.some.inj e).symm
    rw [e']
    rcases hx with hx | hx
    · rw [hc' b (H.two.lrow.lt hx)]
      exact H.two.cl b hx
    · rw [hx]
      exact hcn
  · by_cases hji : j < i
    · rw [List.getElem?_append_left (by omega)] at hu
      obtain ⟨u', ys, h1, h2, h3⟩ := H.two.lone j hji
      rw [hu] at h1
      cases h1
      rw [hc' y (h2.lt e)]
      exact H.two.cu j u y hu e
    · obtain rfl : j = i := by have := (List.getElem?_eq_some_iff.1 hu).1; simp at this; omega
      rw [List.getElem?_append_right (by omega)] at hu
      simp [hl] at hu
      subst hu
      rw [hc' y (g1.lt e)]
      exact H.cx y e
  · have := H.two.fresh y z
    omega
  · have e' : y = b := by rw [hb] at e; exact (Option.some.inj e).symm
    rw [e']
    rcases hx with hx | hx
    · exact H.two.fresh b hx
    · omega

set_option maxRecDepth 20000 in
set_option maxHeartbeats 2000000 in
theorem own_any (w : World) (c : Nat → Nat) (v : Value) (vs : List Value) (n : Nat) (ns : Nat → Nat) (h : Lot c w v vs n ns (fun _ _ => True)) (hn : n ≤ 1000000) (hb : ∀ j, ns j ≤ 1099511627776) :
    Calls Try.prog 30 #[v] w fun e w' => e = .returned (.bool true) ∧ Keep (fun b => ∃ u ∈ vs, u.ownBlock = some b) w w' := by
  obtain ⟨ad, cap, rfl, hcap, hmax, -⟩ := h.row.form
  have HB := hid hb
  have H1 : Hid (Own1 c w (.slice ad n cap) vs n ns 0 0 w) := hid ⟨⟨h.row, fun j hj => let ⟨u, xs, h1, h2, _⟩ := h.each j hj; ⟨u, xs, h1, h2, fun x => absurd x (Nat.not_lt_zero _), fun _ t ht => absurd ht (Nat.not_lt_zero _)⟩, h.cv, h.ce⟩, Keep.refl _ _⟩
  clear h hb
  go_enter Try.func30, Try.ntmps30
  go_wp2_with (at_builtin; refine stopAt ?_; intro q hq)
  go_loopw [4] (fun iv wr => ∃ i : Nat, i ≤ n ∧ iv = .int .i64 i ∧ Hid (Own1 c w (.slice ad n cap) vs n ns i 0 wr)) (fun iv _ => n - (intOf iv).toNat)
  case atStart => exact ⟨0, Nat.zero_le _, rfl, H1⟩
  case round =>
    clear H1
    obtain ⟨i, hi, rfl, HR⟩ := hrel
    by_cases hin : i < n
    · have h4 : (i : Int) < n := by omega
      go_wp2_with (at_builtin; refine stopAt ?_; intro q hq)
      obtain ⟨wq, hwq⟩ : ∃ wq, wq = wr := ⟨_, rfl⟩
      subst hwq
      obtain ⟨u, hu⟩ : ∃ u, vs[i]? = some u := let ⟨u, _, h, _⟩ := HR.out.lot.each i hin; ⟨u, h⟩
      have Hu := hid hu
      clear hu
      obtain ⟨m, hm⟩ : ∃ m, m = ns i := ⟨_, rfl⟩
      have Hm := hid hm
      have hm63 : (m : Int) ≤ 1099511627776 := by have := HB.out i; omega
      clear hm
      go_loopw [5] (fun kv wr => ∃ k : Nat, k ≤ m ∧ kv = .int .i64 k ∧ Hid (Own1 c w (.slice ad n cap) vs n ns i k wr)) (fun kv _ => m - (intOf kv).toNat)
      case atStart => exact ⟨0, Nat.zero_le _, rfl, HR⟩
      case round =>
        clear HR
        obtain ⟨k, hk, rfl, HR⟩ := hrel
        obtain ⟨u', xs, hu', hr, hC⟩ := HR.out.lot.each i hin
        rw [Hu.out] at hu'
        cases hu'
        rw [← Hm.out] at hr
        obtain ⟨g, cap', hv, c0⟩ := HR.out.lot.row.getCell Hu.out
        cases hv
        obtain ⟨ao, cu, rfl, hmc, hcm, -⟩ := hr.form
        by_cases hkm : k < m
        · have h5 : (k : Int) < m := by omega
          obtain ⟨x0, hx0⟩ : ∃ x0, xs[k]? = some x0 := ⟨_, List.getElem?_eq_getElem (by have := hr.1; omega)⟩
          obtain ⟨g2, cap2, hv2, c1⟩ := hr.getCell hx0
          cases hv2
          have f1 := hr.frozen k (by omega)
          have H2 := hid (HR.out.put hin Hu.out Hm.out hkm)
          unfold patV at H2
          clear hr hC hx0
          go_wp2_with (at_builtin; refine stopAt ?_; intro q hq)
          go_roundw
          case rel => exact ⟨k + 1, by omega, by go_num, H2⟩
          case measure => simp [intOf]; omega
        · have h5 : ¬ (k : Int) < m := by omega
          have H2 : Own1 c w (.slice (some ⟨g, 0, none⟩) n cap) vs n ns (i + 1) 0 wr := by
            refine ⟨⟨HR.out.lot.row, fun j hj => ?_, HR.out.lot.cv, HR.out.lot.ce⟩, HR.out.keep⟩
            obtain ⟨u, xs, h1, h2, h3, h4⟩ := HR.out.lot.each j hj
            refine ⟨u, xs, h1, h2, fun hji => ?_, fun _ t ht => absurd ht (Nat.not_lt_zero _)⟩
            by_cases hji' : j < i
            · exact h3 hji'
            · obtain rfl : j = i := by omega
              have := h4 rfl
              rwa [show k = ns j by rw [← Hm.out]; omega] at this
          have H2' := hid H2
          clear H2 hr hC
          go_wp2_with (at_builtin; refine stopAt ?_; intro q hq)
          go_roundw
          case rel => exact ⟨i + 1, by omega, by go_num, H2'⟩
          case measure => simp [intOf]; omega
    · have h4 : ¬ (i : Int) < n := by omega
      obtain rfl : i = n := by omega
      have H2 : Hid (∃ c', Own2 c' w (.slice ad i cap) vs i ns 0 (.slice none 0 0) [] wr) := hid ⟨c, HR.out.two⟩
      clear HR
      go_wp2_with (at_builtin; refine stopAt ?_; intro q hq)
      go_loopw [3, 6] (fun lv jv wr => ∃ j ls, j ≤ i ∧ jv = .int .i64 j ∧ Hid (∃ c', Own2 c' w (.slice ad i cap) vs i ns j lv ls wr)) (fun _ jv _ => i - (intOf jv).toNat)
      case atStart => exact ⟨0, [], Nat.zero_le _, rfl, H2⟩
      case round =>
        clear H2
        obtain ⟨j, ls, hj, rfl, HR⟩ := hrel
        by_cases hji : j < i
        · have h5 : (j : Int) < i := by omega
          obtain ⟨u, hu⟩ : ∃ u, vs[j]? = some u := let ⟨_, H⟩ := HR.out; let ⟨u, _, h, _⟩ := H.lot.each j hji; ⟨u, h⟩
          have H3 : Hid (∃ c', Own3 c' w (.slice ad i cap) vs i ns j _ ls 0 u wr) := hid (let ⟨c', H⟩ := HR.out; ⟨c', H.three hji hu⟩)
          obtain ⟨g, cap', hv, c0⟩ : ∃ g cap', (Value.slice ad i cap) = .slice (some ⟨g, 0, none⟩) i cap' ∧ wr.cell? ⟨g, j, none⟩ = some u := let ⟨_, H⟩ := HR.out; H.lot.row.getCell hu
          cases hv
          clear HR
          go_wp2_with (at_builtin; refine stopAt ?_; intro q hq)
          clear c0
          go_loopw [7, 8] (fun x kv wr => ∃ k : Nat, k ≤ 4 ∧ kv = .int .i64 k ∧ Hid (∃ c', Own3 c' w (.slice (some ⟨g, 0, none⟩) i cap) vs i ns j _ ls k x wr)) (fun _ kv _ => 4 - (intOf kv).toNat)
          case atStart => exact ⟨0, Nat.zero_le _, rfl, H3⟩
          case round =>
            clear H3
            obtain ⟨k, hk, rfl, HR⟩ := hrel
            by_cases hk4 : k < 4
            · have h6 : (k : Int) < 4 := by omega
              go_wp2_with (at_builtin; refine stopAt ?_; intro q hq)
              (refine hq.out ?_; clear hq q)
              obtain ⟨c', H⟩ := HR.out
              have hn4 := heap_alloc_new wr (.cells #[.int .u8 ((200 + (j : Int) * 5 + (k : Int)) % 256)] 5)
              have hk4' : Keep (fun _ => False) wr (wr.alloc (.cells #[.int .u8 ((200 + (j : Int) * 5 + (k : Int)) % 256)] 5)) := (Keep.refl _ _).alloc _
              obtain ⟨w4, hw4⟩ : ∃ w4, w4 = wr.alloc (.cells #[.int .u8 ((200 + (j : Int) * 5 + (k : Int)) % 256)] 5) := ⟨_, rfl⟩
              rw [← hw4] at hn4 hk4' ⊢
              clear hw4
              have H4 := H.step hk4'
              obtain ⟨xs, r1, r2, r3⟩ := H4.row
              have hbj := HB.out j
              refine wpList_plain rfl (fun K hK => ?_)
              refine wp_append2 ty_bytes (.tmp 54) (.tmp 61) rfl rfl r1 (some ⟨wr.heap.size, 0, none⟩) 1 1 [markV j k] rfl
                ⟨rfl, fun _ => ⟨_, rfl, fun t u hu => by rw [addr_add, Nat.zero_add, cell_of_row _ _ _ _ _ _ hn4]; simpa [markV] using hu⟩⟩ (by intro u hu; simp at hu; subst hu; rfl) (by unfold maxLen; omega) (by omega) ?_
              intro v5 w5 hr5 hk5 hv5 ho5
              refine hK _ _ ?_
              clear hK K
              have H5 := hid (H4.push hji r1 r2 r3 hr5 hk5 (hv5.resolve_left (fun h => by omega)) ho5)
              clear hr5 hk5 hv5 ho5 r1 r2 r3 H4 hn4 hk4' H HR
              go_wp2_with (at_builtin; refine stopAt ?_; intro q hq)
              go_roundw
              case rel => exact ⟨k + 1, by omega, by go_num, H5⟩
              case measure => simp [intOf]; omega
            · have h6 : decide ((k : Int) < 4) = false := by simp; omega
              have e4 : k = 4 := by omega
              have H4 : Hid (∃ c', Own3 c' w (.slice (some ⟨g, 0, none⟩) i cap) vs i ns j _ ls 4 _ wr) := hid (by have := HR.out; rw [e4] at this; exact this)
              clear HR e4
              obtain ⟨c', H⟩ := H4.out
              obtain ⟨xs, r1, -, -⟩ := H.row
              obtain ⟨aox, cpx, rfl, -⟩ := r1.form
              obtain ⟨nx, hnx⟩ : ∃ nx, nx = ns j + 4 := ⟨_, rfl⟩
              rw [← hnx] at H ⊢
              have H5 := hid H
              clear H4 H r1 hnx
              go_wp2_with (at_builtin; refine stopAt ?_; intro q hq)
              (refine hq.out ?_; clear hq q)
              have hn4 := heap_alloc_new wr (.cells #[.slice aox nx cpx] 24)
              have hk4' : Keep (fun _ => False) wr (wr.alloc (.cells #[.slice aox nx cpx] 24)) := (Keep.refl _ _).alloc _
              obtain ⟨w4, hw4⟩ : ∃ w4, w4 = wr.alloc (.cells #[.slice aox nx cpx] 24) := ⟨_, rfl⟩
              rw [← hw4] at hn4 hk4' ⊢
              clear hw4
              have H6 := H5.out.step hk4'
              refine wpList_plain rfl (fun K hK => ?_)
              refine wp_append ty_lists (.tmp 63) (.tmp 65) rfl rfl H6.two.lrow (some ⟨wr.heap.size, 0, none⟩) 1 1 [.slice aox nx cpx] rfl
                ⟨rfl, fun _ => ⟨_, rfl, fun t u hu => by rw [addr_add, Nat.zero_add, cell_of_row _ _ _ _ _ _ hn4]; simpa using hu⟩⟩ (by intro u hu; simp at hu; subst hu; rfl) (by unfold maxLen; omega) (by omega) ?_
              intro v5 w5 hr5 hk5 hv5
              refine hK _ _ ?_
              clear hK K
              have H7 := hid (H6.done hr5 hk5 (hv5.resolve_left (fun h => by omega)))
              clear hr5 hk5 hv5 H6 H5 hn4 hk4'
              go_wp2_with (at_builtin; refine stopAt ?_; intro q hq)
              go_roundw
              case rel => exact ⟨j + 1, _, by omega, by go_num, H7⟩
              case measure => simp [intOf]; omega
        · have h5 : decide ((j : Int) < i) = false := by simp; omega
          have e5 : j = i := by omega
          have H3 : Hid (∃ c', Own2 c' w (.slice ad i cap) vs i ns i _ ls wr) := hid (by have := HR.out; rw [e5] at this; exact this)
          clear HR e5
          obtain ⟨c', H⟩ := H3.out
          obtain ⟨adl, cpl, rfl, hicl, -⟩ := H.lrow.form
          have H4 := hid H
          clear H H3
          go_wp2_with (at_builtin; refine stopAt ?_; intro q hq)
          obtain ⟨wq, hwq⟩ : ∃ wq, wq = wr := ⟨_, rfl⟩
          subst hwq
          go_loopw [9] (fun jv wr => ∃ j : Nat, j ≤ i ∧ jv = .int .i64 j ∧ wr = wq) (fun jv _ => i - (intOf jv).toNat)
          case atStart => exact ⟨0, Nat.zero_le _, rfl, rfl⟩
          case round =>
            obtain ⟨j, hj, rfl, rfl⟩ := hrel
            by_cases hji : j < i
            · have h5 : (j : Int) < i := by omega
              obtain ⟨u, xs, hu, r1, r2⟩ := H4.out.lot.each j hji
              obtain ⟨ul, xl, hul, l1, l2, l3⟩ := H4.out.lone j hji
              obtain ⟨g, cap', hv, c0⟩ := H4.out.lot.row.getCell hu
              cases hv
              obtain ⟨gl, capl, hv, c1⟩ := H4.out.lrow.getCell hul
              cases hv
              obtain ⟨ao, cu, rfl, hmc, -⟩ := r1.form
              obtain ⟨aol, cul, rfl, hmcl, -⟩ := l1.form
              obtain ⟨m, hm⟩ : ∃ m, m = ns j := ⟨_, rfl⟩
              have hm63 : (m : Int) ≤ 1099511627776 := by have := HB.out j; omega
              rw [← hm] at r1 r2 l1 l2 l3 hmc hmcl c0 c1
              have R := hid (And.intro r1 (And.intro r2 (And.intro l1 (And.intro l2 l3))))
              clear r1 r2 l1 l2 l3 hu hul hm
              obtain ⟨ml, hml⟩ : ∃ ml, ml = m + 4 := ⟨_, rfl⟩
              rw [← hml] at c1
              have Hml := hid hml
              have hml63 : (m : Int) + 4 = ml := by omega
              clear hml
              go_wp2_with (at_builtin; refine stopAt ?_; intro q hq)
              obtain ⟨wz, hwz⟩ : ∃ wz, wz = wr := ⟨_, rfl⟩
              subst hwz
              go_loopw [11] (fun tv wr => ∃ t : Nat, t ≤ m ∧ tv = .int .i64 t ∧ wr = wz) (fun tv _ => m - (intOf tv).toNat)
              case atStart => exact ⟨0, Nat.zero_le _, rfl, rfl⟩
              case round =>
                obtain ⟨t, ht, rfl, rfl⟩ := hrel
                by_cases htm : t < m
                · have h6 : (t : Int) < m := by omega
                  obtain ⟨g2, cap2, hv2, c2⟩ := R.out.1.getCell (R.out.2.1 t htm)
                  cases hv2
                  unfold patV at c2
                  go_wp2_with (at_builtin; refine stopAt ?_; intro q hq)
                  go_roundw
                  case rel => exact ⟨t + 1, by omega, by go_num, by first | trivial | rfl⟩
                  case measure => simp [intOf]; omega
                · have h6 : decide ((t : Int) < m) = false := by simp; omega
                  go_wp2_with (at_builtin; refine stopAt ?_; intro q hq)
                  obtain ⟨wy, hwy⟩ : ∃ wy, wy = wr := ⟨_, rfl⟩
                  subst hwy
                  go_loopw [12] (fun tv wr => ∃ t : Nat, t ≤ 4 ∧ tv = .int .i64 t ∧ wr = wy) (fun tv _ => 4 - (intOf tv).toNat)
                  case atStart => exact ⟨0, Nat.zero_le _, rfl, rfl⟩
                  case round =>
                    obtain ⟨s, hs, rfl, rfl⟩ := hrel
                    by_cases hs4 : s < 4
                    · have h7 : (s : Int) < 4 := by omega
                      obtain ⟨g3, cap3, hv3, c3⟩ := R.out.2.2.1.getCell (R.out.2.2.2.2 s hs4)
                      rw [← Hml.out] at hv3
                      cases hv3
                      unfold markV at c3
                      have h8 : (m : Int) + s < ml := by omega
                      go_wp2_with (at_builtin; refine stopAt ?_; intro q hq)
                      go_roundw
                      case rel => exact ⟨s + 1, by omega, by go_num, by first | trivial | rfl⟩
                      case measure => simp [intOf]; omega
                    · have h7 : decide ((s : Int) < 4) = false := by simp; omega
                      go_wp2_with (at_builtin; refine stopAt ?_; intro q hq)
                      go_roundw
                      case rel => exact ⟨j + 1, by omega, by go_num, by first | trivial | rfl⟩
                      case measure => simp [intOf]; omega
            · have h5 : decide ((j : Int) < i) = false := by simp; omega
              go_wp2_with (at_builtin; refine stopAt ?_; intro q hq)
              go_ret
              exact ⟨by rfl, H4.out.keep⟩
end Go.Proofs.Ytnignhfallhblaa
