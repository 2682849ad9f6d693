/- DiskSure: the walk. Conditions: none but that the arguments are bytes, acts and ints. -/
import Derived.Test.YtenijbngmdaakaaSure
import Derived.Test.YtenijbngmdaakaaGuard
import Derived.BigQuiet
namespace Go.Proofs.Ytenijbngmdaakaa
open Go.RowKit
open DM

def nils8 : List Value := List.replicate 8 (.slice none 0 0)

structure SuRel1 (w0 : World) (b g : Nat) (fills : List UInt8) (k : Nat) (wr : World) : Prop where
  ex : ∃ F vs, Own w0 b F (sD1 fills k) wr ∧ Rack wr F g 29 8 ((List.range k).map (sRow fills)) vs ∧ w0.heap.size ≤ g

def allOwn (vs : List Value) (k : Nat) : Prop := ∃ (j : Nat) (u : Value), vs[j]? = some u ∧ u.ownBlock = some k
theorem allOwn_nils (k : Nat) (h : allOwn nils8 k) : False := by
  obtain ⟨j, u, h1, h2⟩ := h
  have : u ∈ nils8 := List.mem_of_getElem? h1
  simp [nils8] at this
  subst this
  simp [Value.ownBlock] at h2
structure SuRel2 (w0 : World) (b g gp : Nat) (fills : List UInt8) (Q : List (Nat × Sec)) (wr : World) : Prop where
  ex : ∃ F vs xs, Own w0 b F (sD2 fills Q) wr ∧ Rack wr (fun k => F k ∨ k = gp ∨ allOwn xs k) g 29 8 ((List.range 8).map (sRow fills)) vs ∧
    Shelves w0 wr (fun k => F k ∨ k = g) gp 34 8 (sOf Q) xs ∧ w0.heap.size ≤ g ∧ w0.heap.size ≤ gp

structure SuRel3 (w0 : World) (b g gp : Nat) (fills : List UInt8) (Q : List (Nat × Sec)) (ks : List Int) (wr : World) : Prop where
  ex : ∃ F vs xs, Own w0 b F (DM.crash (sD2 fills Q) ks) wr ∧ Rack wr (fun k => F k ∨ k = gp ∨ allOwn xs k) g 29 8 ((List.range 8).map (sRow fills)) vs ∧
    Shelves w0 wr (fun k => F k ∨ k = g) gp 34 8 (sOf Q) xs

theorem SuRel3.keep {w0 wr w' : World} {b g gp : Nat} {fills : List UInt8} {Q : List (Nat × Sec)} {ks : List Int} (h : SuRel3 w0 b g gp fills Q ks wr) (hk : Keep (fun _ => False) wr w') : SuRel3 w0 b g gp fills Q ks w' := by
  obtain ⟨F, vs, xs, O, R, S⟩ := h.ex
  exact ⟨F, vs, xs, O.step hk, R.keep hk (fun _ x => x.elim) (fun _ x => .inl x), S.keep hk (fun _ x => x.elim) (fun _ x => .inl x)⟩

def sEnd (fills : List UInt8) (Q : List (Nat × Sec)) (ks : List Int) (i : Nat) : Sec := (tear (sRows fills) Q ks).getD i []
theorem sEnd_read (fills : List UInt8) (Q : List (Nat × Sec)) (ks : List Int) (i : Nat) (hi : i < 8) : DM.read (DM.crash (sD2 fills Q) ks) i = (sEnd fills Q ks i, 0) := by
  have hl : (DM.crash (sD2 fills Q) ks).safe.length = 8 := by show (tear _ _ _).length = 8; rw [tear_length]; simp [sD2, sRows]
  have h0 : ¬ ((i : Int) < 0 ∨ ((DM.crash (sD2 fills Q) ks).safe.length : Int) ≤ i) := by omega
  unfold DM.read
  rw [if_neg (by simp [DM.crash]), if_neg h0]
  simp [now, puts, DM.crash, sEnd, sD2]
theorem sEnd_len (fills : List UInt8) (Q : List (Nat × Sec)) (hQ : ∀ p ∈ Q, p.1 < 8 ∧ p.2.length = 32) (ks : List Int) (i : Nat) (hi : i < 8) : (sEnd fills Q ks i).length = 32 := by
  have h8 : (sRows fills).length = 8 := by simp [sRows]
  have hl : i < (tear (sRows fills) Q ks).length := by rw [tear_length, h8]; exact hi
  have h := tear_len32 Q ks (sRows fills) (by intro x hx; simp only [sRows, List.mem_map] at hx; obtain ⟨_, _, rfl⟩ := hx; exact rowL_length _ _) (fun p hp => by rw [h8]; exact hQ p hp) _ (List.getElem_mem hl)
  unfold sEnd
  rw [List.getD, List.getElem?_eq_getElem hl]
  exact h

/-- One place, as far as the puts were looked at. -/
def Told (S W : Sec) (L : List Sec) (k j : Nat) : Prop := S.getD k 0 = W.getD k 0 ∨ ∃ t, t < j ∧ S.getD k 0 = (L.getD t []).getD k 0
theorem Told.succ {S W : Sec} {L : List Sec} {k j : Nat} : Told S W L k (j + 1) ↔ Told S W L k j ∨ S.getD k 0 = (L.getD j []).getD k 0 := by
  constructor
  · rintro (h | ⟨t, ht, h⟩)
    · exact .inl (.inl h)
    · by_cases htj : t = j
      · subst htj; exact .inr h
      · exact .inl (.inr ⟨t, by omega, h⟩)
  · rintro ((h | ⟨t, ht, h⟩) | h)
    · exact .inl h
    · exact .inr ⟨t, by omega, h⟩
    · exact .inr ⟨j, by omega, h⟩

set_option maxRecDepth 20000 in
set_option maxHeartbeats 8000000 in
theorem sure_walk (w : World) (vf : Value) (fills : List UInt8) (hfi : Octets w vf fills) (v : Value) (l : List Act3) (hl : Acts w v l) (vk : Value) (lk : List Int) (hlk : Ints w vk lk) :
    Calls Try.prog 3 #[vf, v, vk] w fun e w' => e = .returned (.bool true) ∧ Keep (fun _ => False) w w' := by
  obtain ⟨ao, c, rfl, hlc, hcm⟩ := hl.form
  have HL := hid hl
  clear hl hcm
  obtain ⟨m, hm⟩ : ∃ m, m = l.length := ⟨_, rfl⟩
  rw [← hm] at HL hlc ⊢
  have Hm := hid hm
  clear hm
  obtain ⟨aok, ck, rfl, hkc, hkm, hck, hwk⟩ := hlk.cells
  obtain ⟨aof, cf, rfl, hfc, hfm, hcf⟩ := hfi.cells
  have hkn : lk.length ≤ 9223372036854775807 := by unfold maxLen at hkm; omega
  have oldk : ∀ (F : Nat → Prop), (∀ k, F k → w.heap.size ≤ k) → 0 < lk.length → ∀ x, aok = some x → ¬ F x.block := fun F hF hp x hx y => by
    subst hx; have := hck.lt (by omega); have := hF _ y; omega
  have HK : Hid (lk.length ≤ 9223372036854775807 ∧ Cells w aok lk.length 1 (intsV lk) ∧ (∀ z ∈ lk, -9223372036854775808 ≤ z ∧ z ≤ 9223372036854775807) ∧ ∀ (F : Nat → Prop), (∀ k, F k → w.heap.size ≤ k) → 0 < lk.length → ∀ x, aok = some x → ¬ F x.block) := hid ⟨hkn, hck, hwk, oldk⟩
  have Hcf := hid hcf
  clear hlk hkc hkm hck hwk hkn oldk hfi hfc hfm hcf
  go_enter Try.func3, Try.ntmps3
  go_wp2_with (at_builtin; refine stopAt ?_; intro q hq)
  refine (new_any w 8 (by decide) (by decide)).mono ?_
  rintro e w1 ⟨b, F1, rfl, hD1, hk1, hF1⟩
  have O1 : Own w b F1 (sD1 fills 0) w1 := ⟨hD1, hF1, hk1⟩
  clear hD1 hk1 hF1
  go_wp2_with (first | (at_builtin; refine stopAt ?_; intro q hq) | (refine stopOp (.alloc _) rfl ?_; intro q hq))
  (refine hq.out ?_; clear hq q)
  refine wpList_plain rfl (fun K hK => ?_)
  refine wp_alloc 29 rfl (.agg nils8.toArray) (by kernel_rfl) ?_
  refine hK _ _ ?_
  clear hK K
  have hg2 := heap_alloc_new w1 (.cells nils8.toArray 29)
  have hk2 : Keep (fun _ => False) w1 (w1.alloc (.cells nils8.toArray 29)) := (Keep.refl _ _).alloc _
  obtain ⟨w2, hw2⟩ : ∃ w2, w2 = w1.alloc (.cells nils8.toArray 29) := ⟨_, rfl⟩
  have hw2' : w1.alloc (.cells (Value.agg nils8.toArray).cells 29) = w2 := hw2.symm
  rw [← hw2] at hg2 hk2
  rw [hw2']
  clear hw2 hw2'
  have hng : ¬ F1 w1.heap.size := fun x => by have := O1.at_.lt _ x; omega
  have hwg := O1.keep.size
  have O2 := O1.step hk2
  clear O1
  obtain ⟨g, hg⟩ : ∃ g, g = w1.heap.size := ⟨_, rfl⟩
  rw [← hg] at hg2 hng hwg ⊢
  clear hg
  have HR2 := hid (SuRel1.mk (k := 0) ⟨F1, nils8, O2, ⟨hg2, rfl, fun j hj => by simp at hj, hng⟩, hwg⟩)
  clear O2 hg2 hng hwg hk2
  go_wp2_with (at_builtin; refine stopAt ?_; intro q hq)
  go_loopw [10] (fun i wr => ∃ k : Nat, k ≤ 8 ∧ i = .int .i64 k ∧ Hid (SuRel1 w b g fills k wr)) (fun i _ => 8 - (intOf i).toNat)
  case atStart => exact ⟨0, Nat.zero_le _, rfl, HR2⟩
  case round =>
    obtain ⟨k, hk, rfl, HR⟩ := hrel
    by_cases hk8 : k < 8
    · have h1 : (k : Int) < 8 := by omega
      obtain ⟨F, vs, O, R, hwg⟩ := HR.out.ex
      have O' := hid O
      have R' := hid R
      have Kw := hid O.keep
      clear O R
      have hrest : ∀ (K : Act → World → Prop), True := fun _ => trivial
      clear hrest
      by_cases hkf : k < fills.length
      · have h2 : (k : Int) < (fills.length : Int) := by omega
        obtain ⟨adf, hadf, hcf⟩ := (Hcf.out.keep Kw.out (fun _ _ x => x)).2 (by omega)
        subst hadf
        have a0 : wr.cell? (adf.add k) = some (.int .u8 ((sFill fills k).toNat : Int)) := hcf k _ (by simp [bytesV, hkf, sFill, List.getD])
        clear hcf
        go_wp2_with (at_builtin; refine stopAt ?_; intro q hq)
        refine (row_any wr (sFill fills k) 0 (by decide) (by decide)).mono ?_
        rintro e w3 ⟨v3, rfl, hf3⟩
        have hrow : rowL (sFill fills k) (rowN 0) = sRow fills k := rfl
        rw [hrow] at hf3
        have O3 := O'.out.step hf3.keep
        have R3 := R'.out.keep (F' := F) hf3.keep (fun _ x => x.elim) (fun _ x => .inl x)
        obtain ⟨aoA, cA, rfl, hcA, hA3, haA3⟩ := Fresh.srcN hf3 O'.out.at_.lt 32 (rowL_length _ _)
        have hgA : ∀ x, aoA = some x → x.block ≠ g := fun x hx e => by
          obtain ⟨_, _, hv, _, _, _, h5⟩ := hf3.row.form
          cases hv
          have h6 := hf3.own _ (h5 x hx).2
          have := heap_lt R'.out.head
          omega
        clear hf3 hrow O' R' Kw HR
        obtain ⟨c3, z3⟩ := cells_at R3.head
        have hvl := R3.len
        obtain ⟨u3, hu3⟩ : ∃ u, vs[k]? = some u := ⟨vs[k]'(by omega), List.getElem?_eq_getElem (by omega)⟩
        have s3 := c3 k u3 hu3
        have hs3 := z3 k
        have Hx := hid (And.intro O3 (And.intro R3 (And.intro hA3 (And.intro haA3 hgA))))
        clear c3 z3 O3 R3 hA3 haA3 hgA
        go_wp2_with (at_builtin; refine stopAt ?_; intro q hq)
        have R3 := Hx.out.2.1
        have hll : ((List.range k).map (sRow fills)).length = k := by simp
        have hk4 : Keep (fun j => j = g) w3 (w3.setCell ⟨g, k, none⟩ (.slice aoA 32 cA)) := by refine Keep.setCell (Keep.refl _ _) (.inl ?_) _; rfl
        have hh4 : (w3.setCell ⟨g, k, none⟩ (.slice aoA 32 cA)).heap[g]? = some (.cells (vs.set k (.slice aoA 32 cA)).toArray 29 (0, 0)) := by rw [heap_setCell6 R3.head]; simp
        obtain ⟨w4, hw4⟩ : ∃ w4, w4 = w3.setCell ⟨g, k, none⟩ (.slice aoA 32 cA) := ⟨_, rfl⟩
        rw [← hw4] at hk4 hh4 ⊢
        clear hw4
        have hA4 := Hx.out.2.2.1.keep hk4 (fun x hx => Hx.out.2.2.2.2 x hx)
        have haA4 := Hx.out.2.2.2.1
        have R4 := R3.set (ao := aoA) (c := cA) (l := sRow fills k) (w' := w4) Hx.out.2.2.1 (fun _ x hx => ⟨Hx.out.2.2.2.1 x hx, Hx.out.2.2.2.2 x hx⟩) (by rw [hll]; exact hk8) hk4 (by rw [hll]; exact hh4)
        rw [hll] at R4
        have hrs : (List.range k).map (sRow fills) ++ [sRow fills k] = (List.range (k + 1)).map (sRow fills) := by rw [List.range_succ, List.map_append]; rfl
        rw [hrs] at R4
        have O4 : Own w b F (sD1 fills k) w4 := ⟨Hx.out.1.at_.keep hk4 (fun j hF e => R3.own (by rw [← e]; exact hF)), Hx.out.1.new, Hx.out.1.keep.next hk4 (fun _ _ x => x) (fun j hj e => by omega)⟩
        clear Hx R3 hll hk4 hh4 hrs s3 hs3 hu3
        refine (write_any w4 b F (sD1 fills k) k aoA _ cA (sRow fills k) O4.at_ hA4 (fun _ => haA4) (by omega) (by decide) (by simp [sD1]; omega)).mono ?_
        rintro e w5 ⟨rfl, ht5⟩
        rw [sD1_write fills k hk8] at ht5 ⊢
        obtain ⟨F5, O5, hk5, hF5⟩ := O4.toS ht5
        have R5 := R4.keep hk5 (fun _ x => x) hF5
        have HR5 := hid (SuRel1.mk (k := k + 1) ⟨F5, _, O5, R5, hwg⟩)
        clear hA4 haA4 O4 R4 ht5 hk5 hF5 O5 R5
        go_wp2_with (at_builtin; refine stopAt ?_; intro q hq)
        go_roundw
        case rel => exact ⟨k + 1, by omega, by go_num, HR5⟩
        case measure => simp [intOf]; omega
      · have h2 : ¬ (k : Int) < (fills.length : Int) := by omega
        have hz : sFill fills k = 0 := by simp [sFill, List.getD, hkf]
        go_wp2_with (at_builtin; refine stopAt ?_; intro q hq)
        refine (row_any wr 0 0 (by decide) (by decide)).mono ?_
        rintro e w3 ⟨v3, rfl, hf3⟩
        have hrow : rowL 0 (rowN 0) = sRow fills k := by unfold sRow; rw [hz]; rfl
        rw [hrow] at hf3
        have O3 := O'.out.step hf3.keep
        have R3 := R'.out.keep (F' := F) hf3.keep (fun _ x => x.elim) (fun _ x => .inl x)
        obtain ⟨aoA, cA, rfl, hcA, hA3, haA3⟩ := Fresh.srcN hf3 O'.out.at_.lt 32 (rowL_length _ _)
        have hgA : ∀ x, aoA = some x → x.block ≠ g := fun x hx e => by
          obtain ⟨_, _, hv, _, _, _, h5⟩ := hf3.row.form
          cases hv
          have h6 := hf3.own _ (h5 x hx).2
          have := heap_lt R'.out.head
          omega
        clear hf3 hrow O' R' Kw HR
        obtain ⟨c3, z3⟩ := cells_at R3.head
        have hvl := R3.len
        obtain ⟨u3, hu3⟩ : ∃ u, vs[k]? = some u := ⟨vs[k]'(by omega), List.getElem?_eq_getElem (by omega)⟩
        have s3 := c3 k u3 hu3
        have hs3 := z3 k
        have Hx := hid (And.intro O3 (And.intro R3 (And.intro hA3 (And.intro haA3 hgA))))
        clear c3 z3 O3 R3 hA3 haA3 hgA
        go_wp2_with (at_builtin; refine stopAt ?_; intro q hq)
        have R3 := Hx.out.2.1
        have hll : ((List.range k).map (sRow fills)).length = k := by simp
        have hk4 : Keep (fun j => j = g) w3 (w3.setCell ⟨g, k, none⟩ (.slice aoA 32 cA)) := by refine Keep.setCell (Keep.refl _ _) (.inl ?_) _; rfl
        have hh4 : (w3.setCell ⟨g, k, none⟩ (.slice aoA 32 cA)).heap[g]? = some (.cells (vs.set k (.slice aoA 32 cA)).toArray 29 (0, 0)) := by rw [heap_setCell6 R3.head]; simp
        obtain ⟨w4, hw4⟩ : ∃ w4, w4 = w3.setCell ⟨g, k, none⟩ (.slice aoA 32 cA) := ⟨_, rfl⟩
        rw [← hw4] at hk4 hh4 ⊢
        clear hw4
        have hA4 := Hx.out.2.2.1.keep hk4 (fun x hx => Hx.out.2.2.2.2 x hx)
        have haA4 := Hx.out.2.2.2.1
        have R4 := R3.set (ao := aoA) (c := cA) (l := sRow fills k) (w' := w4) Hx.out.2.2.1 (fun _ x hx => ⟨Hx.out.2.2.2.1 x hx, Hx.out.2.2.2.2 x hx⟩) (by rw [hll]; exact hk8) hk4 (by rw [hll]; exact hh4)
        rw [hll] at R4
        have hrs : (List.range k).map (sRow fills) ++ [sRow fills k] = (List.range (k + 1)).map (sRow fills) := by rw [List.range_succ, List.map_append]; rfl
        rw [hrs] at R4
        have O4 : Own w b F (sD1 fills k) w4 := ⟨Hx.out.1.at_.keep hk4 (fun j hF e => R3.own (by rw [← e]; exact hF)), Hx.out.1.new, Hx.out.1.keep.next hk4 (fun _ _ x => x) (fun j hj e => by omega)⟩
        clear Hx R3 hll hk4 hh4 hrs s3 hs3 hu3
        refine (write_any w4 b F (sD1 fills k) k aoA _ cA (sRow fills k) O4.at_ hA4 (fun _ => haA4) (by omega) (by decide) (by simp [sD1]; omega)).mono ?_
        rintro e w5 ⟨rfl, ht5⟩
        rw [sD1_write fills k hk8] at ht5 ⊢
        obtain ⟨F5, O5, hk5, hF5⟩ := O4.toS ht5
        have R5 := R4.keep hk5 (fun _ x => x) hF5
        have HR5 := hid (SuRel1.mk (k := k + 1) ⟨F5, _, O5, R5, hwg⟩)
        clear hA4 haA4 O4 R4 ht5 hk5 hF5 O5 R5
        go_wp2_with (at_builtin; refine stopAt ?_; intro q hq)
        go_roundw
        case rel => exact ⟨k + 1, by omega, by go_num, HR5⟩
        case measure => simp [intOf]; omega
    · have h1 : ¬ (k : Int) < 8 := by omega
      obtain rfl : k = 8 := by omega
      obtain ⟨F, vs, O, R, hwg⟩ := HR.out.ex
      go_wp2_with (at_builtin; refine stopAt ?_; intro q hq)
      refine (sync_any wr b F _ O.at_ (by simp [sD1])).mono ?_
      rintro e w3 ⟨rfl, ht3⟩
      rw [sD1_sync] at ht3 ⊢
      obtain ⟨F3, O3, hk3, hF3⟩ := O.toS ht3
      have R3 := R.keep hk3 (fun _ x => x) hF3
      clear O R ht3 hk3 hF3 HR
      go_wp2_with (first | (at_builtin; refine stopAt ?_; intro q hq) | (refine stopOp (.alloc _) rfl ?_; intro q hq))
      (refine hq.out ?_; clear hq q)
      refine wpList_plain rfl (fun K hK => ?_)
      refine wp_alloc 34 rfl (.agg nils8.toArray) (by kernel_rfl) ?_
      refine hK _ _ ?_
      clear hK K
      have hg4 := heap_alloc_new w3 (.cells nils8.toArray 34)
      have hk4 : Keep (fun _ => False) w3 (w3.alloc (.cells nils8.toArray 34)) := (Keep.refl _ _).alloc _
      obtain ⟨w4, hw4⟩ : ∃ w4, w4 = w3.alloc (.cells nils8.toArray 34) := ⟨_, rfl⟩
      have hw4' : w3.alloc (.cells (Value.agg nils8.toArray).cells 34) = w4 := hw4.symm
      rw [← hw4] at hg4 hk4
      rw [hw4']
      clear hw4 hw4'
      have hng : ¬ F3 w3.heap.size := fun x => by have := O3.at_.lt _ x; omega
      have hgl := heap_lt R3.head
      have hsz := O3.keep.size
      have O4 := O3.step hk4
      have R4 := R3.keep (F' := fun j => F3 j ∨ j = w3.heap.size ∨ allOwn nils8 j) hk4 (fun _ x => x.elim) (fun j x => x.elim .inl fun e => e.elim (fun e => .inr (by omega)) (fun e => (allOwn_nils j e).elim))
      obtain ⟨gp, hgp⟩ : ∃ gp, gp = w3.heap.size := ⟨_, rfl⟩
      rw [← hgp] at hg4 hng hgl hsz R4 ⊢
      clear hgp O3 R3
      have hgne : gp ≠ g := by omega
      have h0 : SuRel2 w b g gp fills [] w4 := by
        refine ⟨_, _, nils8, O4, R4, ⟨hg4, rfl, fun i hi => ⟨.slice none 0 0, [], by show (List.replicate 8 _)[i]? = _; rw [List.getElem?_replicate_of_lt hi], by simpa [sOf] using Shelf.nil _ _ _⟩, fun x => x.elim hng hgne⟩, hwg, by omega⟩
      have HR4 := hid h0
      clear h0 R4 O4 hg4 hng hgl hsz hk4
      go_wp2_with (at_builtin; refine stopAt ?_; intro q hq)
      clear HR2
      go_loopw [13] (fun i wr => ∃ k : Nat, k ≤ m ∧ k ≤ 60 ∧ i = .int .i64 k ∧ Hid (SuRel2 w b g gp fills ((l.take k).map sPut) wr)) (fun i _ => 60 - (intOf i).toNat)
      case atStart => exact ⟨0, Nat.zero_le _, Nat.zero_le _, rfl, HR4⟩
      case round =>
        clear HR4
        obtain ⟨k, hk, hk60, rfl, HR⟩ := hrel
        obtain ⟨F, vs, xs, O, R, S, hwg, hwp⟩ := HR.out.ex
        by_cases hgo : k < m ∧ k < 60
        · have hkm := hgo.1
          have hk1 := hgo.2
          clear hgo
          have h1 : (k : Int) < 60 := by omega
          have h2 : (k : Int) < m := by omega
          have hkl : k < l.length := by rw [← Hm.out]; exact hkm
          obtain ⟨ad, kv, rfl, a0, a1, a2, a3, a4, hkv, b0, b1, b2⟩ := Acts.get HL.out O.keep k hkl
          obtain ⟨q, hq⟩ : ∃ q : Nat, (q : Int) = l[k].at_ % 18446744073709551616 % 8 := ⟨(l[k].at_ % 18446744073709551616 % 8).toNat, by omega⟩
          have hq8 : q < 8 := by omega
          have hat : IntKind.i64.wrap ((IntKind.u64.wrap l[k].at_).tmod 8) = (q : Int) := by rw [umod_int _ 8 (by decide) (by decide), hq]
          have hput : (l.take (k + 1)).map sPut = (l.take k).map sPut ++ [(q, rowL l[k].fill 32)] := by
            rw [List.take_add_one, List.getElem?_eq_getElem hkl, List.map_append]
            simp only [Option.toList_some, List.map_cons, List.map_nil, sPut, ← hq, Int.toNat_natCast]
          obtain ⟨Q, hQ⟩ : ∃ Q, Q = (l.take k).map sPut := ⟨_, rfl⟩
          have hQl : Q.length ≤ 60 := by rw [hQ, List.length_map, List.length_take]; omega
          rw [← hQ] at O S hput
          have Hput := hid hput
          have Hx := hid (And.intro O (And.intro R (And.intro S (And.intro hwg (And.intro hwp (And.intro hq8 (And.intro hq hQl)))))))
          clear hput O R S hwg hwp hq8 hq hQl hQ a0 a3 a4 hkv b0 b1 b2
          go_wp2_with (at_builtin; refine stopAt ?_; intro q hq)
          refine (row_any wr l[k].fill 0 (by decide) (by decide)).mono ?_
          rintro e w3 ⟨v3, rfl, hf3⟩
          obtain ⟨O, R, S, hwg, hwp, hq8, hq, hQl⟩ := Hx.out
          have O3 := O.step hf3.keep
          have R3 := R.keep (F' := fun k => F k ∨ k = gp ∨ allOwn xs k) hf3.keep (fun _ x => x.elim) (fun _ x => .inl x)
          have S3 := S.keep (F' := fun k => F k ∨ k = g) hf3.keep (fun _ x => x.elim) (fun _ x => .inl x)
          have hsz3 := hf3.keep.size
          obtain ⟨aoB, cB, rfl, hcB, hB3, haB3⟩ := Fresh.srcN hf3 O.at_.lt 32 (rowL_length _ _)
          have hnB : ∀ x, aoB = some x → wr.heap.size ≤ x.block := fun x hx => by
            obtain ⟨_, _, hv, _, _, _, h5⟩ := hf3.row.form
            cases hv
            exact hf3.own _ (h5 x hx).2
          have hlB : ∀ x, aoB = some x → x.block < w3.heap.size := fun x hx => by subst hx; exact hB3.lt (by decide)
          have hgw := heap_lt R.head
          have hgpw := heap_lt S.head
          have hother : ∀ (j : Nat) (u : Value) (t : Nat), xs[j]? = some u → u.ownBlock = some t → t < wr.heap.size := fun j u t hu ht => by
            have hj : j < 8 := by rw [← S.len]; exact (List.getElem?_eq_some_iff.1 hu).1
            obtain ⟨v', ys, h1, h2⟩ := S.each j hj
            rw [hu] at h1; cases h1
            exact h2.row.lt ht
          have Hy := hid (And.intro O3 (And.intro R3 (And.intro S3 (And.intro hB3 (And.intro haB3 (And.intro hnB (And.intro hlB (And.intro hgw (And.intro hgpw hother)))))))))
          clear O R S hf3 O3 R3 S3 hB3 haB3 hnB hlB hgw hgpw hother hwg hwp hq hQl
          go_wp2_with (at_builtin; refine stopAt ?_; intro q hq)
          refine (write_any w3 b F (sD2 fills Q) q aoB _ cB (rowL l[k].fill 32) Hy.out.1.at_ Hy.out.2.2.2.1 (fun _ => Hy.out.2.2.2.2.1) (by omega) (by decide) (by have := Hx.out.2.2.2.2.2.2.2; show Q.length ≤ _; omega)).mono ?_
          rintro e w5 ⟨rfl, ht5⟩
          rw [sD2_write' fills Q q hq8 _ (rowL_length _ _)] at ht5 ⊢
          obtain ⟨O3, R3, S3, hB3, haB3, hnB, hlB, hgw, hgpw, hother⟩ := Hy.out
          obtain ⟨F5, O5, hk5, hF5⟩ := O3.toS ht5
          have R5 := R3.keep (F' := fun k => F5 k ∨ k = gp ∨ allOwn xs k) hk5 (fun _ x => .inl x) (fun j x => x.elim (fun y => (hF5 j y).imp .inl id) (fun e => .inl (.inr e)))
          have S5 := S3.keep (F' := fun k => F5 k ∨ k = g) hk5 (fun _ x => .inl x) (fun j x => x.elim (fun y => (hF5 j y).imp .inl id) (fun e => .inl (.inr e)))
          have hB5 := hB3.keep hk5 haB3
          have haB5 : ∀ x, aoB = some x → ¬ F5 x.block := fun x hx y => by
            rcases hF5 _ y with z | z
            · exact haB3 x hx z
            · have := hlB x hx; omega
          obtain ⟨vq, ys5, hxq, Sq5⟩ := S5.each q hq8
          obtain ⟨c5, z5⟩ := cells_at S5.head
          have i0 := c5 q vq hxq
          have Hz := hid (And.intro O5 (And.intro R5 (And.intro S5 (And.intro hB5 (And.intro haB5 (And.intro hxq (And.intro Sq5 (And.intro hk5.size (And.intro hsz3 hF5)))))))))
          clear O3 R3 S3 hB3 haB3 hnB hlB hgw hgpw hother ht5 hk5 hF5 O5 R5 S5 hB5 haB5 hxq Sq5 c5 z5 hsz3
          go_wp2_with (at_builtin; refine stopAt ?_; intro q hq)
          (refine hq.out ?_; clear hq q)
          obtain ⟨O5, R5, S5, hB5, haB5, hxq, Sq5, hsz5, hsz3, hF5⟩ := Hz.out
          obtain ⟨O3, R3, S3, hB3, haB3, hnB, hlB, hgw, hgpw, hother⟩ := Hy.out
          obtain ⟨O, R, S, hwg, hwp, -, hq, hQl⟩ := Hx.out
          have hn6 := heap_alloc_new w5 (.cells #[.slice aoB 32 cB] 22)
          have hk6 : Keep (fun _ => False) w5 (w5.alloc (.cells #[.slice aoB 32 cB] 22)) := (Keep.refl _ _).alloc _
          obtain ⟨w6, hw6⟩ : ∃ w6, w6 = w5.alloc (.cells #[.slice aoB 32 cB] 22) := ⟨_, rfl⟩
          rw [← hw6] at hn6 hk6 ⊢
          clear hw6
          have O6 := O5.step hk6
          have R6 := R5.keep (F' := fun k => F5 k ∨ k = gp ∨ allOwn xs k) hk6 (fun _ x => x.elim) (fun _ x => .inl x)
          have S6 := S5.keep (F' := fun k => F5 k ∨ k = g) hk6 (fun _ x => x.elim) (fun _ x => .inl x)
          have Sq6 := Sq5.keep (F' := fun k => (F5 k ∨ k = g) ∨ k = gp ∨ otherOwn xs q k) hk6 (fun _ x => x.elim) (fun _ x => .inl x)
          have hB6 := hB5.keep hk6 (fun _ _ x => x)
          have hqo : ∀ t, vq.ownBlock = some t → t < wr.heap.size := fun t ht => hother q vq t hxq ht
          have hsz6 := hk6.size
          have hfew := sOf_le Q q
          refine wpList_plain rfl (fun K hK => ?_)
          refine wp_append ty_rows (.tmp 90) (.tmp 92) rfl rfl Sq6.row (some ⟨w5.heap.size, 0, none⟩) 1 1 [.slice aoB 32 cB] rfl
            ⟨rfl, fun _ => ⟨_, rfl, fun j u hu => by rw [addr_add, Nat.zero_add, cell_of_row _ _ _ _ _ _ hn6]; simpa using hu⟩⟩ (by intro u hu; simp at hu; subst hu; rfl) (by unfold maxLen; omega) (by omega) ?_
          intro v8 w8 hr8 hk8 hv8
          refine hK _ _ ?_
          clear hK K
          have hv8' : ∀ t, v8.ownBlock = some t → vq.ownBlock = some t ∨ t = w6.heap.size := fun t ht => by
            rcases hv8 with ⟨_, h0⟩ | ⟨k', h3, h4⟩
            · omega
            · rw [ht] at h3; cases h3
              exact h4
          have S8 := Sq6.push (w' := w8) (v' := v8) O6.keep.size (l := rowL l[k].fill 32) hB6 (fun _ x hx => ⟨fun y => by
              have h1 := hnB x hx
              have h2 := hlB x hx
              rcases y with (y | y) | y | ⟨j', u', _, hu', ho'⟩
              · exact haB5 x hx y
              · omega
              · omega
              · have := hother j' u' _ hu' ho'; omega, fun e => by have := hqo _ e; have := hnB x hx; omega⟩) hr8 hk8 (fun j hj => by
            rcases hv8' _ hj with h4 | h4
            · exact .inl h4
            · refine .inr ⟨Nat.le_of_eq h4.symm, fun y => ?_⟩
              have := O6.at_.lt
              rcases y with (y | y) | y | ⟨j', u', _, hu', ho'⟩
              · have := this _ y; omega
              · omega
              · omega
              · have := hother j' u' _ hu' ho'; omega)
          have hso := sOf_snoc Q (q, rowL l[k].fill 32) q
          rw [if_pos rfl] at hso
          simp only at hso
          rw [← hso] at S8
          obtain ⟨ao8, cap8, hv8e, -⟩ := S8.row.form
          subst hv8e
          have hnqp : ¬ vq.ownBlock = some gp := fun e => (Sq6.own _ e).1 (.inr (.inl rfl))
          have hnqg : ¬ vq.ownBlock = some g := fun e => (Sq6.own _ e).1 (.inl (.inr rfl))
          have O8 : Own w b F5 (sD2 fills (Q ++ [(q, rowL l[k].fill 32)])) w8 := ⟨O6.at_.keep hk8 (fun j hF e => (Sq6.own _ e).1 (.inl (.inl hF))), O6.new, O6.keep.next hk8 (fun _ _ x => x) (fun j hj e => by have := (Sq6.own _ e).2; omega)⟩
          have hh8 := hk8.get S6.head hnqp
          obtain ⟨c8, z8⟩ := cells_at hh8
          have i8 := c8 q vq hxq
          have j8 := z8 q
          have Hu := hid (And.intro O8 (And.intro R6 (And.intro S6 (And.intro S8 (And.intro hk8 (And.intro hxq (And.intro hv8' hh8)))))))
          clear O O3 O5 O6 O8 R R3 R5 R6 S S3 S5 S6 S8 hk8 hxq hv8 hv8' hh8 c8 z8 hr8 hso hnqp hnqg hB3 hB5 hB6 Sq5 Sq6 hn6 hk6
          clear hsz5 hsz3 hF5 haB3 haB5 hnB hlB hgw hgpw hother hwg hwp hq hQl hqo hsz6 hfew i0
          go_wp2_with (at_builtin; refine stopAt ?_; intro q hq)
          obtain ⟨O8, R6, S6, S8, hk8, hxq, hv8', hh8⟩ := Hu.out
          obtain ⟨O, R, S, hwg, hwp, -, hq, hQl⟩ := Hx.out
          have hk9 : Keep (fun j => j = gp) w8 (w8.setCell ⟨gp, q, none⟩ (.slice ao8 (sOf (Q ++ [(q, rowL l[k].fill 32)]) q).length cap8)) := by refine Keep.setCell (Keep.refl _ _) (.inl ?_) _; rfl
          have hh9 : (w8.setCell ⟨gp, q, none⟩ (.slice ao8 (sOf (Q ++ [(q, rowL l[k].fill 32)]) q).length cap8)).heap[gp]? = some (.cells (xs.set q (.slice ao8 (sOf (Q ++ [(q, rowL l[k].fill 32)]) q).length cap8)).toArray 34 (0, 0)) := by rw [heap_setCell6 hh8]; simp
          obtain ⟨w9, hw9⟩ : ∃ w9, w9 = w8.setCell ⟨gp, q, none⟩ (.slice ao8 (sOf (Q ++ [(q, rowL l[k].fill 32)]) q).length cap8) := ⟨_, rfl⟩
          rw [← hw9] at hk9 hh9 ⊢
          clear hw9
          have hgl := heap_lt S6.head
          have S9 := S6.set (Ls' := sOf (Q ++ [(q, rowL l[k].fill 32)])) hq8 hxq hk8 S8 (fun t ht => (hv8' t ht).imp id (fun e => by omega)) hk9 hh9 (fun j hj => by rw [sOf_snoc, if_neg (fun e => hj e.symm)])
          have hO9 : ∀ j, F5 j → ¬ j = gp := fun j hF e => S6.own (.inl (e ▸ hF))
          have O9 : Own w b F5 (sD2 fills (Q ++ [(q, rowL l[k].fill 32)])) w9 := ⟨O8.at_.keep hk9 hO9, O8.new, O8.keep.next hk9 (fun _ _ x => x) (fun j hj e => by omega)⟩
          have R9 := R6.keep (F' := fun j => F5 j ∨ j = gp ∨ allOwn (xs.set q (.slice ao8 (sOf (Q ++ [(q, rowL l[k].fill 32)]) q).length cap8)) j) (hk8.trans hk9) (fun j e => e.elim (fun e => .inr (.inr ⟨q, vq, hxq, e⟩)) (fun e => .inr (.inl e))) (fun j x => by
            rcases x with x | x | ⟨t, u, h1, h2⟩
            · exact .inl (.inl x)
            · exact .inl (.inr (.inl x))
            · by_cases htq : t = q
              · subst htq
                rw [List.getElem?_set_self (by rw [S6.len]; exact hq8)] at h1
                cases h1
                rcases hv8' _ h2 with y | y
                · exact .inl (.inr (.inr ⟨_, _, hxq, y⟩))
                · exact .inr (Nat.le_of_eq y.symm)
              · exact .inl (.inr (.inr ⟨t, u, by rwa [List.getElem?_set_ne (Ne.symm htq)] at h1, h2⟩)))
          have HR9 : Hid (SuRel2 w b g gp fills ((l.take (k + 1)).map sPut) w9) := hid ⟨F5, _, _, by rw [Hput.out]; exact O9, R9, by rw [Hput.out]; exact S9, hwg, hwp⟩
          clear O O8 O9 R R6 R9 S S6 S8 S9 hk8 hk9 hxq hv8' hh8 hh9 hq hQl
          go_roundw
          case rel => exact ⟨k + 1, by omega, by omega, by go_num, HR9⟩
          case measure => simp [intOf]; omega
        · have hsplit : (¬ (k : Int) < m) ∨ ((k : Int) < m ∧ ¬ (k : Int) < 60) := by omega
          obtain ⟨Q, hQ⟩ : ∃ Q, Q = (l.take k).map sPut := ⟨_, rfl⟩
          have hQl : Q.length ≤ 60 := by rw [hQ, List.length_map, List.length_take]; omega
          have hQa : ∀ p ∈ Q, p.1 < 8 ∧ p.2.length = 32 := by
            intro p hp
            rw [hQ] at hp
            simp only [List.mem_map] at hp
            obtain ⟨x, _, rfl⟩ := hp
            exact ⟨by simp only [sPut]; omega, rowL_length _ _⟩
          rw [← hQ] at O S
          clear hgo hQ HR
          have HQ := hid hQa
          have HRS := hid (And.intro R (And.intro S (And.intro hwg hwp)))
          clear hQa R S hwg hwp
          rcases hsplit with c1 | ⟨c0, c1⟩
          all_goals
            go_wp2_with (at_builtin; refine stopAt ?_; intro q hq)
            refine (crash_any wr b F (sD2 fills Q) aok _ ck lk O.at_ (HK.out.2.1.keep O.keep (fun _ _ x => x)) (HK.out.2.2.2 F O.new) HK.out.1 HK.out.2.2.1 (by show Q.length ≤ _; omega)).mono ?_
            rintro e w4 ⟨rfl, ht4⟩
            obtain ⟨R, S, hwg, hwp⟩ := HRS.out
            obtain ⟨F4, O4, hk4, hF4⟩ := O.toS ht4
            have R4 := R.keep (F' := fun k => F4 k ∨ k = gp ∨ allOwn xs k) hk4 (fun _ x => .inl x) (fun j x => x.elim (fun y => (hF4 j y).imp .inl id) (fun e => .inl (.inr e)))
            have S4 := S.keep (F' := fun k => F4 k ∨ k = g) hk4 (fun _ x => .inl x) (fun j x => x.elim (fun y => (hF4 j y).imp .inl id) (fun e => .inl (.inr e)))
            have HR4 : Hid (SuRel3 w b g gp fills Q lk w4) := hid ⟨F4, _, _, O4, R4, S4⟩
            clear R S O ht4 hk4 hF4 O4 R4 S4 HRS hwg hwp
            go_wp2_with (at_builtin; refine stopAt ?_; intro q hq)
            go_loopw [16] (fun iv wr => ∃ i : Nat, i ≤ 8 ∧ iv = .int .i64 i ∧ Hid (SuRel3 w b g gp fills Q lk wr)) (fun iv _ => 8 - (intOf iv).toNat)
            case atStart => exact ⟨0, Nat.zero_le _, rfl, HR4⟩
            case round =>
              clear HR4
              obtain ⟨i, hi, rfl, HRi⟩ := hrel
              by_cases hi8 : i < 8
              · have h3 : (i : Int) < 8 := by omega
                obtain ⟨F, vs, xs, O, R, S⟩ := HRi.out.ex
                have HO := hid O
                have HRS := hid (And.intro R S)
                clear O R S
                go_wp2_with (at_builtin; refine stopAt ?_; intro q hq)
                refine (read_any wr b F _ i HO.out.at_ (by omega)).mono ?_
                rintro e w5 ⟨v5, rfl, hr5, hk5, -⟩
                have HR5 := hid (HRi.out.keep hk5)
                obtain ⟨R, S⟩ := HRS.out
                have hsl := sEnd_len fills Q HQ.out lk i hi8
                rw [sEnd_read fills Q lk i hi8] at hr5 ⊢
                simp only at hr5
                rw [hsl] at hr5
                obtain ⟨aoS, cS, rfl, -⟩ := hr5.form
                have hfs := Cells.of_row hr5
                obtain ⟨Sc, hSc⟩ : ∃ x, x = sEnd fills Q lk i := ⟨_, rfl⟩
                rw [← hSc] at hfs hsl
                have R5 := R.keep (F' := fun k => F k ∨ k = gp ∨ allOwn xs k) hk5 (fun _ x => x.elim) (fun _ x => .inl x)
                have S5 := S.keep (F' := fun k => F k ∨ k = g) hk5 (fun _ x => x.elim) (fun _ x => .inl x)
                obtain ⟨aoW, cW, hw1, hw2, -⟩ := R5.each i (by simpa using hi8)
                have hwl : ((List.range 8).map (sRow fills))[i]'(by simpa using hi8) = sRow fills i := by simp
                rw [hwl] at hw1 hw2
                have hwl2 : (sRow fills i).length = 32 := rowL_length _ _
                rw [hwl2] at hw1 hw2
                obtain ⟨vq, ys, hq1, Sq⟩ := S5.each i hi8
                have hfw := (cells_at R5.head).1 i _ hw1
                have hfp := (cells_at S5.head).1 i _ hq1
                obtain ⟨aoQ, cQ, hvq, -⟩ := Sq.row.form
                subst hvq
                obtain ⟨nQ, hnQ⟩ : ∃ n, n = (sOf Q i).length := ⟨_, rfl⟩
                have X : SuRead w5 Sc aoS g i aoW cW (sRow fills i) gp (.slice aoQ nQ cQ) (sOf Q i) :=
                  ⟨hfs, hfw, hw2, by rw [hnQ]; exact hfp, fun j hj => by
                    obtain ⟨g', cap, ao', c', h1, h2, h3, _⟩ := Sq.get j hj
                    exact ⟨g', cap, ao', c', by rw [hnQ]; exact h1, h2, h3⟩, hsl, rowL_length _ _, sOf_len (fun p hp => (HQ.out p hp).2) i⟩
                have HX := hid X
                have HSc := hid hSc
                have hnb : nQ ≤ 60 := by rw [hnQ]; exact Nat.le_trans (sOf_le Q i) hQl
                have HnQ := hid hnQ
                clear R S R5 S5 HRS HO hfs hw1 hw2 hwl hwl2 hq1 Sq hfw hfp X hr5 hk5 hsl hSc hnQ HRi
                go_wp2_with (at_builtin; refine stopAt ?_; intro q hq)
                go_loopw [19] (fun kv wr => ∃ k : Nat, k ≤ 32 ∧ kv = .int .i64 k ∧ Hid (Keep (fun _ => False) w5 wr)) (fun kv _ => 32 - (intOf kv).toNat)
                case atStart => exact ⟨0, Nat.zero_le _, rfl, hid (Keep.refl _ _)⟩
                case round =>
                  obtain ⟨kk, hkk, rfl, HK5⟩ := hrel
                  by_cases hk32 : kk < 32
                  · have h4 : (kk : Int) < 32 := by omega
                    have Y := HX.out.keep HK5.out
                    obtain ⟨adS, hadS, a0⟩ := Y.fs.byte kk (by rw [Y.ls]; exact hk32)
                    obtain ⟨adW, hadW, a2⟩ := Y.fw2.byte kk (by rw [Y.lw]; exact hk32)
                    have a1 := Y.fw
                    subst hadS hadW
                    obtain ⟨xx, hxx⟩ : ∃ x, x = Sc.getD kk 0 := ⟨_, rfl⟩
                    obtain ⟨yy, hyy⟩ : ∃ x, x = (sRow fills i).getD kk 0 := ⟨_, rfl⟩
                    rw [← hxx] at a0
                    rw [← hyy] at a2
                    have Hxx := hid hxx
                    have Hyy := hid hyy
                    clear Y hxx hyy
                    go_wp2_with (at_builtin; refine stopAt ?_; intro q hq)
                    refine wp_region_canon [] (by kernel_rfl) (by kernel_rfl) ?_
                    repeat (first | (apply wpC_pure (by rfl); (intro K w'; go_simp; exact id)) | (apply wpC_load (by rfl); (intro K; go_simp; exact id)))
                    refine wpC_nil ?_
                    have HK6 := hid HK5.out.drew
                    clear a0 a1 a2
                    have ht0 : (((xx.toNat : Int) == (yy.toNat : Int)) = true) ↔ Told Sc (sRow fills i) (sOf Q i) kk 0 := by
                      rw [byte_beq]
                      simp only [decide_eq_true_eq, Told, ← Hxx.out, ← Hyy.out]
                      exact ⟨.inl, fun h => h.elim id fun ⟨t, ht, _⟩ => by omega⟩
                    obtain ⟨ok0, hok0⟩ : ∃ o, o = ((xx.toNat : Int) == (yy.toNat : Int)) := ⟨_, rfl⟩
                    rw [← hok0] at ht0 ⊢
                    have HT0 := hid ht0
                    clear hok0 ht0
                    go_wp2_with (at_builtin; refine stopAt ?_; intro q hq)
                    go_loopw [20, 21] (fun ov jv wr => ∃ (j : Nat) (ok : Bool), j ≤ nQ ∧ ov = .bool ok ∧ jv = .int .i64 j ∧ Hid (ok = true ↔ Told Sc (sRow fills i) (sOf Q i) kk j) ∧ Hid (Keep (fun _ => False) w5 wr)) (fun _ jv _ => nQ - (intOf jv).toNat)
                    case atStart => exact ⟨0, ok0, Nat.zero_le _, rfl, rfl, HT0, HK6⟩
                    case round =>
                      clear HT0 HK6 HK5
                      obtain ⟨j, ok, hj, rfl, rfl, HT, HK7⟩ := hrel
                      have Y := HX.out.keep HK7.out
                      have a3 := Y.fp
                      by_cases hjn : j < nQ
                      · have h5 : (j : Int) < nQ := by omega
                        have hjl : j < (sOf Q i).length := by rw [← HnQ.out]; exact hjn
                        cases ok with
                        | true =>
                          have ht1 : Told Sc (sRow fills i) (sOf Q i) kk (j + 1) := Told.succ.2 (.inl (HT.out.1 rfl))
                          have HT1 := hid ht1
                          clear ht1 Y
                          go_wp2_with (at_builtin; refine stopAt ?_; intro q hq)
                          go_quiet (fail)
                          go_wp2_with (at_builtin; refine stopAt ?_; intro q hq)
                          go_roundw
                          case rel => exact ⟨j + 1, true, by omega, rfl, by go_num, hid ⟨fun _ => HT1.out, fun _ => rfl⟩, hid (HK7.out.drewN _)⟩
                          case measure => simp [intOf]; omega
                        | false =>
                          obtain ⟨g', cap', ao', c', b1, b2, b3⟩ := Y.fp2 j hjl
                          have hl3 : (sOf Q i)[j].length = 32 := Y.ll _ (List.getElem_mem hjl)
                          obtain ⟨adS, hadS, a0⟩ := Y.fs.byte kk (by rw [Y.ls]; exact hk32)
                          obtain ⟨adP, hadP, b4⟩ := b3.byte kk (by rw [hl3]; exact hk32)
                          rw [hl3] at b2
                          cases hadS
                          subst hadP
                          rw [← HnQ.out] at b1
                          cases b1
                          have hgj : (sOf Q i)[j] = (sOf Q i).getD j [] := by simp [List.getD, hjl]
                          rw [hgj] at b4
                          obtain ⟨zz, hzz⟩ : ∃ x, x = ((sOf Q i).getD j []).getD kk 0 := ⟨_, rfl⟩
                          rw [← hzz] at b4
                          rw [← Hxx.out] at a0
                          have ht1 : (((xx.toNat : Int) == (zz.toNat : Int)) = true) ↔ Told Sc (sRow fills i) (sOf Q i) kk (j + 1) := by
                            rw [byte_beq, Told.succ, ← HT.out, ← hzz, ← Hxx.out]
                            simp
                          have HT1 := hid ht1
                          clear ht1 Y b3 hl3 hgj hzz
                          go_wp2_with (at_builtin; refine stopAt ?_; intro q hq)
                          go_quiet (fail)
                          go_wp2_with (at_builtin; refine stopAt ?_; intro q hq)
                          go_roundw
                          case rel => exact ⟨j + 1, _, by omega, rfl, by go_num, HT1, hid (HK7.out.drewN _)⟩
                          case measure => simp [intOf]; omega
                      · have h5 : ¬ (j : Int) < nQ := by omega
                        have hok : ok = true := by
                          rw [HT.out]
                          rcases sure_get fills Q HQ.out lk i kk hi8 hk32 with h | ⟨t, ht, h⟩
                          · exact .inl (by rw [HSc.out]; exact h)
                          · exact .inr ⟨t, by rw [HnQ.out] at hjn; omega, by rw [HSc.out]; exact h⟩
                        subst hok
                        clear Y
                        go_wp2_with (at_builtin; refine stopAt ?_; intro q hq)
                        go_roundw
                        case rel => exact ⟨kk + 1, by omega, by go_num, HK7⟩
                        case measure => simp [intOf]; omega
                  · have h4 : ¬ (kk : Int) < 32 := by omega
                    have HR6 := hid (HR5.out.keep HK5.out)
                    go_wp2_with (at_builtin; refine stopAt ?_; intro q hq)
                    go_roundw
                    case rel => exact ⟨i + 1, by omega, by go_num, HR6⟩
                    case measure => simp [intOf]; omega
              · have h3 : ¬ (i : Int) < 8 := by omega
                obtain ⟨F, vs, xs, O, R, S⟩ := HRi.out.ex
                clear R S
                go_wp2_with (at_builtin; refine stopAt ?_; intro q hq)
                refine (known_any wr).mono ?_
                rintro e w12 ⟨rfl, hk12⟩
                have O12 := O.step hk12
                go_wp2_with (at_builtin; refine stopAt ?_; intro q hq)
                go_ret
                exact ⟨rfl, O12.keep⟩
end Go.Proofs.Ytenijbngmdaakaa
