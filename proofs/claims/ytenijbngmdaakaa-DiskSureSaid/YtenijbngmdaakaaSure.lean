/- DiskSure in plain lists, and the two arrays that the law keeps. Conditions: none. -/
import Derived.Test.YtenijbngmdaakaaShelf
namespace Go.Proofs.Ytenijbngmdaakaa
open Go.RowKit
open DM

/-! ### the plain law -/
theorem torn_get (s : List Sec) (p : Nat × Sec) (z : Int) (i k : Nat) (hs : ∀ x ∈ s, x.length = 32) (hp : p.2.length = 32) (hi : i < s.length) (hk : k < 32) :
    ((torn s p z).getD i []).getD k 0 = (s.getD i []).getD k 0 ∨ (p.1 = i ∧ ((torn s p z).getD i []).getD k 0 = p.2.getD k 0) := by
  by_cases he : p.1 = i
  · subst he
    have h1 : s[p.1].length = 32 := hs _ (List.getElem_mem hi)
    have h2 : (torn s p z).getD p.1 [] = p.2.take (clamp z) ++ s[p.1].drop (clamp z) := by simp [torn, List.getD, hi]
    have h3 : s.getD p.1 [] = s[p.1] := by simp [List.getD, hi]
    rw [h2, h3]
    have hc := clamp_le z
    by_cases hkz : k < clamp z
    · right
      refine ⟨rfl, ?_⟩
      simp [List.getD, List.getElem?_append, hp, hc, hkz, hk]
    · left
      have : clamp z + (k - clamp z) = k := by omega
      simp [List.getD, List.getElem?_append, hp, Nat.min_eq_left hc, hkz, List.getElem?_drop, this]
  · left
    simp [torn, List.getD, List.getElem?_set_ne he]

theorem tear_get : ∀ (l : List (Nat × Sec)) (ks : List Int) (s : List Sec) (i k : Nat), (∀ x ∈ s, x.length = 32) → (∀ p ∈ l, p.1 < s.length ∧ p.2.length = 32) → i < s.length → k < 32 →
    ((tear s l ks).getD i []).getD k 0 = (s.getD i []).getD k 0 ∨ ∃ p ∈ l, p.1 = i ∧ ((tear s l ks).getD i []).getD k 0 = p.2.getD k 0
  | [], ks, s, i, k, _, _, _, _ => by left; simp [tear]
  | p :: l, [], s, i, k, _, _, _, _ => by left; simp [tear]
  | p :: l, z :: ks, s, i, k, hs, hl, hi, hk => by
    rw [tear]
    have h1 := torn_get s p z i k hs (hl p (by simp)).2 hi hk
    rcases tear_get l ks (torn s p z) i k (torn_len32 hs (hl p (by simp)).2 (hl p (by simp)).1) (fun q hq => by rw [torn_length]; exact hl q (by simp [hq])) (by rw [torn_length]; exact hi) hk with h | ⟨q, hq, h2, h3⟩
    · rcases h1 with h1 | ⟨h1, h4⟩
      · left; rw [h, h1]
      · right; exact ⟨p, by simp, h1, by rw [h, h4]⟩
    · right; exact ⟨q, by simp [hq], h2, h3⟩

def sFill (fills : List UInt8) (i : Nat) : UInt8 := fills.getD i 0
def sRow (fills : List UInt8) (i : Nat) : Sec := rowL (sFill fills i) 32
def sRows (fills : List UInt8) : List Sec := (List.range 8).map (sRow fills)
/-- The disk while the first rows are written. -/
def sD1 (fills : List UInt8) (k : Nat) : Dk := { safe := List.replicate 8 DM.blank, waits := (List.range k).map fun i => (i, sRow fills i), left := none, down := false }
theorem sD1_write (fills : List UInt8) (k : Nat) (hk : k < 8) : DM.write (sD1 fills k) k (sRow fills k) = (0, sD1 fills (k + 1)) := by
  have h : (sRow fills k).length = 32 := rowL_length _ _
  unfold DM.write
  have hn : ¬ ((k : Int) < 0 ∨ ((sD1 fills k).safe.length : Int) ≤ k ∨ (sRow fills k).length ≠ 32) := by simp [sD1, h]; omega
  rw [if_neg (by simp [sD1]), if_neg hn]
  simp [act, sD1, List.range_succ]
theorem sD1_sync (fills : List UInt8) : DM.sync (sD1 fills 8) = (0, { safe := sRows fills, waits := [], left := none, down := false }) := by
  simp [DM.sync, act, sD1, now, puts, List.range_succ, List.replicate, sRows]
/-- What is written later. -/
def sPut (x : Act3) : Nat × Sec := ((x.at_ % 18446744073709551616 % 8).toNat, rowL x.fill 32)
def sD2 (fills : List UInt8) (l : List (Nat × Sec)) : Dk := { safe := sRows fills, waits := l, left := none, down := false }
theorem sD2_write (fills : List UInt8) (l : List (Nat × Sec)) (x : Act3) : DM.write (sD2 fills l) (x.at_ % 18446744073709551616 % 8) (rowL x.fill 32) = (0, sD2 fills (l ++ [sPut x])) := by
  have h : (rowL x.fill 32).length = 32 := rowL_length _ _
  unfold DM.write
  have hn : ¬ ((x.at_ % 18446744073709551616 % 8) < 0 ∨ ((sD2 fills l).safe.length : Int) ≤ (x.at_ % 18446744073709551616 % 8) ∨ (rowL x.fill 32).length ≠ 32) := by simp [sD2, h, sRows]; omega
  rw [if_neg (by simp [sD2]), if_neg hn]
  simp [act, sD2, sPut]
theorem sD2_write' (fills : List UInt8) (l : List (Nat × Sec)) (q : Nat) (hq : q < 8) (b : Sec) (h : b.length = 32) : DM.write (sD2 fills l) q b = (0, sD2 fills (l ++ [(q, b)])) := by
  unfold DM.write
  have hn : ¬ ((q : Int) < 0 ∨ ((sD2 fills l).safe.length : Int) ≤ q ∨ b.length ≠ 32) := by simp [sD2, h, sRows]; omega
  rw [if_neg (by simp [sD2]), if_neg hn]
  simp [act, sD2]
/-- Of each sector, what was put there. -/
def sOf (l : List (Nat × Sec)) (i : Nat) : List Sec := (l.filter fun p => p.1 == i).map (·.2)
theorem sOf_snoc (l : List (Nat × Sec)) (p : Nat × Sec) (i : Nat) : sOf (l ++ [p]) i = if p.1 = i then sOf l i ++ [p.2] else sOf l i := by
  unfold sOf
  rw [List.filter_append, List.map_append]
  by_cases h : p.1 = i <;> simp [h]
theorem sOf_len {l : List (Nat × Sec)} (h : ∀ p ∈ l, p.2.length = 32) (i : Nat) : ∀ x ∈ sOf l i, x.length = 32 := by
  intro x hx
  simp only [sOf, List.mem_map, List.mem_filter] at hx
  obtain ⟨p, ⟨hp, _⟩, rfl⟩ := hx
  exact h p hp
theorem sOf_le (l : List (Nat × Sec)) (i : Nat) : (sOf l i).length ≤ l.length := by
  unfold sOf; rw [List.length_map]; exact List.length_filter_le _ _

theorem sure_get (fills : List UInt8) (l : List (Nat × Sec)) (hl : ∀ p ∈ l, p.1 < 8 ∧ p.2.length = 32) (ks : List Int) (i k : Nat) (hi : i < 8) (hk : k < 32) :
    ((tear (sRows fills) l ks).getD i []).getD k 0 = (sRow fills i).getD k 0 ∨ ∃ j, j < (sOf l i).length ∧ ((tear (sRows fills) l ks).getD i []).getD k 0 = ((sOf l i).getD j []).getD k 0 := by
  have h8 : (sRows fills).length = 8 := by simp [sRows]
  have hw : (sRows fills).getD i [] = sRow fills i := by simp [sRows, List.getD, hi]
  rcases tear_get l ks (sRows fills) i k (by intro x hx; simp only [sRows, List.mem_map] at hx; obtain ⟨_, _, rfl⟩ := hx; exact rowL_length _ _) (fun p hp => by rw [h8]; exact hl p hp) (by omega) hk with h | ⟨p, hp, h1, h2⟩
  · left; rw [h, hw]
  · right
    have hm : p.2 ∈ sOf l i := by simp only [sOf, List.mem_map, List.mem_filter]; exact ⟨p, ⟨hp, by simp [h1]⟩, rfl⟩
    obtain ⟨j, hj, he⟩ := List.getElem_of_mem hm
    exact ⟨j, hj, by rw [h2, show (sOf l i).getD j [] = p.2 by rw [← he]; simp [List.getD, hj]]⟩

theorem cells_at {w : World} {g : Nat} {vs : List Value} {T : TypeId} (h : w.heap[g]? = some (.cells vs.toArray T (0, 0))) : (∀ j u, vs[j]? = some u → w.cell? ⟨g, j, none⟩ = some u) ∧ ∀ o, w.frozen? ⟨g, o, none⟩ = false :=
  ⟨fun j u hu => by rw [cell_of_row _ _ _ _ _ _ h]; simpa using hu, fun o => by simp [World.frozen?, h]⟩

/-! ### the array of rows -/
structure Rack (wr : World) (F : Nat → Prop) (g : Nat) (T : TypeId) (n : Nat) (L : List (List UInt8)) (vs : List Value) : Prop where
  head : wr.heap[g]? = some (.cells vs.toArray T (0, 0))
  len : vs.length = n
  each : ∀ j (hj : j < L.length), ∃ ao c, vs[j]? = some (.slice ao L[j].length c) ∧ Cells wr ao L[j].length 1 (bytesV L[j]) ∧ (0 < L[j].length → ∀ x, ao = some x → ¬ F x.block ∧ x.block ≠ g)
  own : ¬ F g

theorem Rack.keep {wr w' : World} {F F' G : Nat → Prop} {g n : Nat} {T : TypeId} {L : List (List UInt8)} {vs : List Value} (h : Rack wr F g T n L vs) (hk : Keep G wr w') (hG : ∀ k, G k → F k) (hF : ∀ k, F' k → F k ∨ wr.heap.size ≤ k) :
    Rack w' F' g T n L vs := by
  refine ⟨hk.get h.head fun x => h.own (hG _ x), h.len, fun j hj => ?_, fun x => ?_⟩
  · obtain ⟨ao, c, h1, h2, h3⟩ := h.each j hj
    refine ⟨ao, c, h1, h2.keep0 hk fun hp x hx y => (h3 (by omega) x hx).1 (hG _ y), fun hp x hx => ⟨fun y => ?_, (h3 hp x hx).2⟩⟩
    subst hx
    have := h2.lt (by omega)
    rcases hF _ y with z | z
    · exact (h3 hp x rfl).1 z
    · omega
  · rcases hF _ x with z | z
    · exact h.own z
    · have := heap_lt h.head; omega

/-- The next place is set. -/
theorem Rack.set {wr w' : World} {F : Nat → Prop} {g n : Nat} {T : TypeId} {L : List (List UInt8)} {vs : List Value} (h : Rack wr F g T n L vs) {ao : Option Addr} {c : Nat} {l : List UInt8} (hs : Cells wr ao l.length 1 (bytesV l))
    (ha : 0 < l.length → ∀ x, ao = some x → ¬ F x.block ∧ x.block ≠ g) (hn : L.length < n) (hk : Keep (fun k => k = g) wr w') (hh : w'.heap[g]? = some (.cells (vs.set L.length (.slice ao l.length c)).toArray T (0, 0))) :
    Rack w' F g T n (L ++ [l]) (vs.set L.length (.slice ao l.length c)) := by
  have hvl := h.len
  refine ⟨hh, by simpa using h.len, fun j hj => ?_, h.own⟩
  by_cases hjl : j < L.length
  · obtain ⟨ao', c', h1, h2, h3⟩ := h.each j hjl
    rw [List.getElem_append_left hjl]
    exact ⟨ao', c', by rw [List.getElem?_set_ne (by omega)]; exact h1, h2.keep0 hk fun hp x hx => (h3 (by omega) x hx).2, h3⟩
  · obtain rfl : j = L.length := by simp at hj; omega
    rw [List.getElem_append_right (Nat.le_refl _)]
    simp only [Nat.sub_self, List.getElem_cons_zero]
    exact ⟨ao, c, by rw [List.getElem?_set_self (by omega)], hs.keep0 hk fun hp x hx => (ha (by omega) x hx).2, ha⟩

/-! ### the array of shelves -/
def otherOwn (vs : List Value) (i k : Nat) : Prop := ∃ j u, j ≠ i ∧ vs[j]? = some u ∧ u.ownBlock = some k
structure Shelves (w0 wr : World) (F : Nat → Prop) (g : Nat) (T : TypeId) (n : Nat) (Ls : Nat → List (List UInt8)) (vs : List Value) : Prop where
  head : wr.heap[g]? = some (.cells vs.toArray T (0, 0))
  len : vs.length = n
  each : ∀ i, i < n → ∃ v xs, vs[i]? = some v ∧ Shelf w0 wr (fun k => F k ∨ k = g ∨ otherOwn vs i k) v (Ls i) xs
  own : ¬ F g

theorem Shelves.keep {w0 wr w' : World} {F F' G : Nat → Prop} {g n : Nat} {T : TypeId} {Ls : Nat → List (List UInt8)} {vs : List Value} (h : Shelves w0 wr F g T n Ls vs) (hk : Keep G wr w') (hG : ∀ k, G k → F k) (hF : ∀ k, F' k → F k ∨ wr.heap.size ≤ k) :
    Shelves w0 w' F' g T n Ls vs := by
  refine ⟨hk.get h.head fun x => h.own (hG _ x), h.len, fun i hi => ?_, fun x => ?_⟩
  · obtain ⟨v, xs, h1, h2⟩ := h.each i hi
    refine ⟨v, xs, h1, h2.keep hk (fun k x => .inl (hG k x)) fun k x => ?_⟩
    rcases x with x | x
    · rcases hF k x with y | y
      · exact .inl (.inl y)
      · exact .inr y
    · exact .inl (.inr x)
  · rcases hF _ x with z | z
    · exact h.own z
    · have := heap_lt h.head; omega

/-- One shelf is put anew: first the append, then the store. -/
theorem Shelves.set {w0 wr w1 w' : World} {F : Nat → Prop} {g n : Nat} {T : TypeId} {Ls Ls' : Nat → List (List UInt8)} {vs : List Value} (h : Shelves w0 wr F g T n Ls vs) {i : Nat} (hi : i < n) {v v' : Value} {xs : List Value}
    (hvi : vs[i]? = some v) (hk1 : Keep (fun k => v.ownBlock = some k) wr w1) (hs : Shelf w0 w1 (fun k => F k ∨ k = g ∨ otherOwn vs i k) v' (Ls' i) xs) (hv : ∀ k, v'.ownBlock = some k → v.ownBlock = some k ∨ wr.heap.size ≤ k)
    (hk : Keep (fun k => k = g) w1 w') (hh : w'.heap[g]? = some (.cells (vs.set i v').toArray T (0, 0))) (hL : ∀ j, j ≠ i → Ls' j = Ls j) : Shelves w0 w' F g T n Ls' (vs.set i v') := by
  have hvl := h.len
  refine ⟨hh, by simpa using h.len, fun j hj => ?_, h.own⟩
  by_cases hji : j = i
  · subst hji
    refine ⟨v', xs, by rw [List.getElem?_set_self (by omega)], hs.keep hk (fun k e => .inr (.inl e)) fun k x => .inl ?_⟩
    rcases x with x | x | ⟨q, u, hq, hu, ho⟩
    · exact .inl x
    · exact .inr (.inl x)
    · exact .inr (.inr ⟨q, u, hq, by rwa [List.getElem?_set_ne (Ne.symm hq)] at hu, ho⟩)
  · obtain ⟨vj, xsj, h1, h2⟩ := h.each j hj
    rw [← hL j hji] at h2
    have h3 := h2.keep (F' := fun k => F k ∨ k = g ∨ otherOwn (vs.set i v') j k) hk1 (fun k e => .inr (.inr ⟨i, v, Ne.symm hji, hvi, e⟩)) fun k x => ?_
    · exact ⟨vj, xsj, by rw [List.getElem?_set_ne (Ne.symm hji)]; exact h1, h3.keep hk (fun k e => .inr (.inl e)) fun k x => .inl x⟩
    · rcases x with x | x | ⟨q, u, hq, hu, ho⟩
      · exact .inl (.inl x)
      · exact .inl (.inr (.inl x))
      · by_cases hqi : q = i
        · subst hqi
          rw [List.getElem?_set_self (by omega)] at hu
          cases hu
          rcases hv _ ho with y | y
          · exact .inl (.inr (.inr ⟨q, v, hq, hvi, y⟩))
          · exact .inr y
        · exact .inl (.inr (.inr ⟨q, u, hq, by rwa [List.getElem?_set_ne (Ne.symm hqi)] at hu, ho⟩))

/-! ### what is read at the end -/
theorem byte_beq (x y : UInt8) : (((x.toNat : Int)) == ((y.toNat : Int))) = decide (x = y) := by
  by_cases h : x = y
  · subst h; simp
  · have : x.toNat ≠ y.toNat := fun e => h (UInt8.toNat_inj.1 e)
    simp [h]; omega

theorem Cells.byte {w : World} {ao : Option Addr} {n : Nat} {l : List UInt8} (h : Cells w ao n 1 (bytesV l)) (k : Nat) (hk : k < l.length) : ∃ ad, ao = some ad ∧ w.cell? (ad.add k) = some (.int .u8 ((l.getD k 0).toNat : Int)) := by
  have hl := h.1
  rw [bytesV_length] at hl
  obtain ⟨ad, rfl, hc⟩ := h.2 (by omega)
  exact ⟨ad, rfl, hc k _ (by simp [bytesV, List.getD, hk])⟩

structure SuRead (wr : World) (S : Sec) (aoS : Option Addr) (g i : Nat) (aoW : Option Addr) (cW : Nat) (W : Sec) (gp : Nat) (vq : Value) (L : List Sec) : Prop where
  fs : Cells wr aoS 32 1 (bytesV S)
  fw : wr.cell? ⟨g, i, none⟩ = some (.slice aoW 32 cW)
  fw2 : Cells wr aoW 32 1 (bytesV W)
  fp : wr.cell? ⟨gp, i, none⟩ = some vq
  fp2 : ∀ j (hj : j < L.length), ∃ g' cap ao c, vq = .slice (some ⟨g', 0, none⟩) L.length cap ∧ wr.cell? ⟨g', j, none⟩ = some (.slice ao L[j].length c) ∧ Cells wr ao L[j].length 1 (bytesV L[j])
  ls : S.length = 32
  lw : W.length = 32
  ll : ∀ x ∈ L, x.length = 32

theorem cell_keep {w w' : World} (hk : Keep (fun _ => False) w w') {a : Addr} {u : Value} (h : w.cell? a = some u) : w'.cell? a = some u := by
  rw [World.cell?_of_block (hk.block _ (World.block_lt_of_cell? w _ h) id)]; exact h

theorem SuRead.keep {wr w' : World} {S W : Sec} {aoS aoW : Option Addr} {g i cW gp : Nat} {vq : Value} {L : List Sec} (h : SuRead wr S aoS g i aoW cW W gp vq L) (hk : Keep (fun _ => False) wr w') : SuRead w' S aoS g i aoW cW W gp vq L :=
  ⟨h.fs.keep hk (fun _ _ x => x), cell_keep hk h.fw, h.fw2.keep hk (fun _ _ x => x), cell_keep hk h.fp, fun j hj => let ⟨g', cap, ao, c, h1, h2, h3⟩ := h.fp2 j hj; ⟨g', cap, ao, c, h1, cell_keep hk h2, h3.keep hk (fun _ _ x => x)⟩, h.ls, h.lw, h.ll⟩
end Go.Proofs.Ytenijbngmdaakaa
