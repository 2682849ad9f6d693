/- The document's log: contracts for Next, Top, Apply. Conditions: as the contracts name them. -/
import Derived.Test.YtnignhfallhblaaRlb
namespace Go.Proofs.Ytnignhfallhblaa
open Go.RowKit
open RM

theorem RM.run_le : ∀ (l : List Ent) (s : Nat), run l s ≤ s + l.length
  | [], _ => Nat.le_refl _
  | e :: l, s => by
    unfold run
    split
    · have := RM.run_le l (s + 1)
      simp only [List.length_cons]
      omega
    · exact Nat.le_add_right _ _
theorem RM.next_le (g : Lg) : RM.next g ≤ g.ap + 1 + g.l.length := by
  have := RM.run_le (g.l.drop (below g.l (g.ap + 1))) (g.ap + 1)
  rw [List.length_drop] at this
  unfold RM.next
  omega

set_option maxRecDepth 20000 in
set_option maxHeartbeats 1000000 in
theorem rnext_any (w : World) (b : Nat) (F : Nat → Prop) (g : Lg) (hL : RefAt w b F g) :
    Calls Try.prog 25 #[.pointer (some ⟨b, 0, none⟩)] w fun e w' => e = .returned (.int .u64 (RM.next g : Nat)) ∧ Keep (fun _ => False) w w' := by
  obtain ⟨v, us, rl, hI, hp, hok⟩ := hL
  obtain ⟨ao, c, rfl, -⟩ := hI.row.form
  have hap := hok.ap
  have hfew := hok.few
  have hrl : rl.length = g.l.length := hp.length_eq
  have hnl := RM.next_le g
  have hnx := next_is hok
  obtain ⟨len, hlen⟩ : ∃ n, n = rl.length := ⟨_, rfl⟩
  obtain ⟨a0, a1, -⟩ := cells2 hI.head
  rw [← hlen] at a1
  have HI := hid (And.intro hI (And.intro hp (And.intro hok hnx)))
  have Hlen := hid hlen
  have hlen4 : len ≤ 4096 := by omega
  have Hnl := hid (show RM.next g ≤ g.ap + 1 + len by omega)
  clear hI hp hok hnx hlen hnl hrl hfew
  go_enter Try.func25, Try.ntmps25
  go_wp2_with (at_builtin; refine stopAt ?_; intro q hq)
  clear a0 a1
  go_loopw [3, 4, 5] (fun sv kv _ wr => ∃ k s : Nat, s = g.ap + 1 + k ∧ s ≤ 18446744073709551615 ∧ k ≤ len + 1 ∧ sv = .int .u64 s ∧ kv = .int .i64 k ∧ Hid (Keep (fun _ => False) w wr ∧ ∀ t, g.ap < t → t < s → Has g.l t)) (fun _ kv _ _ => len + 1 - (intOf kv).toNat)
  case atStart => exact ⟨0, g.ap + 1, rfl, by omega, Nat.zero_le _, by go_num, rfl, hid ⟨Keep.refl _ _, fun t h1 h2 => by omega⟩⟩
  case round =>
    obtain ⟨k, s, hs, hs6, hk, rfl, rfl, HK⟩ := hrel
    have hIr := HI.out.1.keep HK.out.1 fun _ _ x => x
    obtain ⟨a0, a1, -⟩ := cells2 hIr.head
    rw [← Hlen.out] at a1
    by_cases hkl : k ≤ len
    · have q1 : (k : Int) ≤ len := by omega
      have HIr := hid hIr
      have Hs := hid hs
      clear hIr hs
      go_wp2_with (at_builtin; refine stopAt ?_; intro q hq)
      refine (rat_any wr b g.ap F rl _ us s HIr.out (by rw [← Hlen.out]; omega)).mono ?_
      rintro e w2 ⟨z, rfl, hz, hk2⟩
      have HK2 := hid (HK.out.1.next hk2 (fun _ _ x => x) (fun _ _ x => x))
      clear hk2 a0 a1
      rcases hz with ⟨rfl, hz⟩ | ⟨j, hj, rfl, hz⟩
      · have hnx : IsNext g s := ⟨by have := Hs.out; omega, HK.out.2, fun h => hz ((perm_has HI.out.2.1 s).2 h)⟩
        have Hn := hid (HI.out.2.2.2.unique hnx)
        clear hz hnx
        go_wp2_with (at_builtin; refine stopAt ?_; intro q hq)
        go_ret
        exact ⟨by rw [Hn.out]; rfl, HK2.out⟩
      · have hh : Has g.l s := (perm_has HI.out.2.1 s).1 ⟨rl[j].2, by rw [← hz]; exact List.getElem_mem hj⟩
        have hs7 : s < 18446744073709551615 := by obtain ⟨v, hv⟩ := hh; exact (HI.out.2.2.1.slots _ hv).2
        have HK3 := hid (show ∀ t, g.ap < t → t < s + 1 → Has g.l t from fun t h1 h2 => by
          rcases Nat.lt_or_eq_of_le (Nat.le_of_lt_succ h2) with x | x
          · exact HK.out.2 t h1 x
          · subst x; exact hh)
        have q2 : decide ((j : Int) < 0) = false := by simp
        have q3 : (s : Int) + 1 ≤ 18446744073709551615 := by omega
        clear hz hh hj
        go_wp2_with (at_builtin; refine stopAt ?_; intro q hq)
        go_roundw
        case rel => exact ⟨k + 1, s + 1, by have := Hs.out; omega, by omega, by omega, by go_num, by go_num, hid ⟨HK2.out, HK3.out⟩⟩
        case measure => simp [intOf]; omega
    · exfalso
      obtain ⟨n1, n2, n3⟩ := HI.out.2.2.2
      have := Hnl.out
      exact n3 (HK.out.2 _ n1 (by omega))

theorem RM.top_unique {g : Lg} (h : Rising g.l) {t : Nat} (h1 : ∀ e ∈ g.l, e.1 ≤ t) (h2 : g.ap ≤ t) (h3 : t = g.ap ∨ ∃ e ∈ g.l, e.1 = t) : t = RM.top g := by
  obtain ⟨t1, t2, t3⟩ := top_spec h
  apply Nat.le_antisymm
  · rcases h3 with h3 | ⟨e, he, h3⟩
    · omega
    · rw [← h3]; exact t1 e he
  · rcases t3 with t3 | ⟨e, he, t3⟩
    · omega
    · rw [← t3]; exact h1 e he

set_option maxRecDepth 20000 in
set_option maxHeartbeats 1000000 in
theorem rtop_any (w : World) (b : Nat) (F : Nat → Prop) (g : Lg) (hL : RefAt w b F g) :
    Calls Try.prog 26 #[.pointer (some ⟨b, 0, none⟩)] w fun e w' => e = .returned (.int .u64 (RM.top g : Nat)) ∧ Keep (fun _ => False) w w' := by
  obtain ⟨v, us, rl, hI, hp, hok⟩ := hL
  obtain ⟨ao, c, rfl, -⟩ := hI.row.form
  have hfew := hok.few
  have hrl : rl.length = g.l.length := hp.length_eq
  obtain ⟨len, hlen⟩ : ∃ n, n = rl.length := ⟨_, rfl⟩
  obtain ⟨a0, a1, -⟩ := cells2 hI.head
  rw [← hlen] at a1
  have HI := hid (And.intro hI (And.intro hp hok))
  have Hlen := hid hlen
  have hlen4 : len ≤ 4096 := by omega
  clear hI hp hok hlen hrl hfew
  go_enter Try.func26, Try.ntmps26
  go_wp2_with (at_builtin; refine stopAt ?_; intro q hq)
  go_loopw [3, 4] (fun tv iv wr => ∃ i t : Nat, i ≤ len ∧ tv = .int .u64 t ∧ iv = .int .i64 i ∧ Hid (wr = w ∧ g.ap ≤ t ∧ (∀ j (hj : j < rl.length), j < i → rl[j].1 ≤ t) ∧ (t = g.ap ∨ ∃ e ∈ g.l, e.1 = t))) (fun _ iv _ => len - (intOf iv).toNat)
  case atStart => exact ⟨0, g.ap, Nat.zero_le _, rfl, rfl, hid ⟨by first | rfl | trivial, Nat.le_refl _, fun j hj h => by omega, .inl rfl⟩⟩
  case round =>
    obtain ⟨i, t, hi, rfl, rfl, HK⟩ := hrel
    have hw := HK.out.1.symm
    subst hw
    by_cases hil : i < len
    · have q1 : (i : Int) < len := by omega
      have hir : i < rl.length := by rw [← Hlen.out]; exact hil
      obtain ⟨gr, cap', ao', c', hv, c0, -⟩ := HI.out.1.ent i hir
      obtain ⟨rfl, rfl⟩ : ao = some ⟨gr, 0, none⟩ ∧ c = cap' := by simpa using hv
      obtain ⟨x, hx⟩ : ∃ x, x = rl[i].1 := ⟨_, rfl⟩
      rw [← hx] at c0
      have Hx := hid hx
      clear hv hx
      by_cases hxt : t < x
      · have q2 : decide (t < x) = true := by simpa using hxt
        have HK2 := hid (show g.ap ≤ x ∧ (∀ j (hj : j < rl.length), j < i + 1 → rl[j].1 ≤ x) ∧ (x = g.ap ∨ ∃ e ∈ g.l, e.1 = x) from ⟨by have := HK.out.2.1; omega, fun j hj h => by
          rcases Nat.lt_or_eq_of_le (Nat.le_of_lt_succ h) with y | y
          · have := HK.out.2.2.1 j hj y; omega
          · subst y; rw [← Hx.out]; exact Nat.le_refl _, .inr ⟨_, HI.out.2.1.mem_iff.1 (List.getElem_mem hir), Hx.out.symm⟩⟩)
        go_wp2_with (at_builtin; refine stopAt ?_; intro q hq)
        exact ⟨⟨i + 1, x, by omega, by go_num, by go_num, hid ⟨by first | rfl | trivial, HK2.out⟩⟩, by simp [intOf]; omega⟩
      · have q2 : decide (t < x) = false := by simpa using hxt
        have HK2 := hid (show g.ap ≤ t ∧ (∀ j (hj : j < rl.length), j < i + 1 → rl[j].1 ≤ t) ∧ (t = g.ap ∨ ∃ e ∈ g.l, e.1 = t) from ⟨HK.out.2.1, fun j hj h => by
          rcases Nat.lt_or_eq_of_le (Nat.le_of_lt_succ h) with y | y
          · exact HK.out.2.2.1 j hj y
          · subst y; rw [← Hx.out]; omega, HK.out.2.2.2⟩)
        go_wp2_with (at_builtin; refine stopAt ?_; intro q hq)
        exact ⟨⟨i + 1, t, by omega, by go_num, by go_num, hid ⟨by first | rfl | trivial, HK2.out⟩⟩, by simp [intOf]; omega⟩
    · have q1 : decide ((i : Int) < (len : Int)) = false := by simp; omega
      obtain rfl : i = len := by omega
      have Ht := hid (RM.top_unique HI.out.2.2.rising (t := t) (fun e he => by
        obtain ⟨j, hj, rfl⟩ := List.getElem_of_mem (HI.out.2.1.mem_iff.2 he)
        exact HK.out.2.2.1 j hj (by rw [Hlen.out]; exact hj)) HK.out.2.1 HK.out.2.2.2)
      go_wp2_with (at_builtin; refine stopAt ?_; intro q hq)
      go_ret
      exact ⟨by rw [← Ht.out]; rfl, Keep.refl _ _⟩

def RApplies (w' : World) (o : Option Ent) (e : Ending) : Prop :=
  match o with
  | none => e = .returned (.tuple #[.agg #[.int .u64 0, .slice none 0 0], .bool false])
  | some x => ∃ ao c, e = .returned (.tuple #[.agg #[.int .u64 (x.1 : Nat), .slice ao x.2.length c], .bool true]) ∧ Cells w' ao x.2.length 1 (bytesV x.2)

theorem RIs.step {w : World} {b ap : Nat} {F : Nat → Prop} {rl : List Ent} {v : Value} {us : List (Nat × Value)} (h : RIs w b F ap rl v us) (t : Nat) :
    RIs (w.setCell ⟨b, 0, none⟩ (.int .u64 (t : Nat))) b F t rl v us := by
  have hB4 := heap_setCell_same w b 0 _ _ (.int .u64 (t : Nat)) h.head
  have k3 : Keep (fun k => k = b) w (w.setCell ⟨b, 0, none⟩ (.int .u64 (t : Nat))) := by refine Keep.setCell (Keep.refl _ _) (.inl ?_) _; rfl
  obtain ⟨w3, hw3⟩ : ∃ w3, w3 = w.setCell ⟨b, 0, none⟩ (.int .u64 (t : Nat)) := ⟨_, rfl⟩
  rw [← hw3] at hB4 k3 ⊢
  refine ⟨hB4, h.row.keep k3 fun k e x => (h.own k e).2 x, h.keys, fun i hi => ?_, h.self, h.own, fun k hF => Nat.lt_of_lt_of_le (h.lt k hF) k3.size⟩
  obtain ⟨ao, c, h1, h2, h3⟩ := h.each i hi
  exact ⟨ao, c, h1, h2.keep0 k3 fun hp x hx y => (h3 (by omega) x hx).2.1 y, h3⟩

theorem RM.apply_is {g : Lg} (hok : RM.Ok g) : (¬ Has g.l (g.ap + 1) → RM.apply g = (none, g)) ∧ ∀ v, (g.ap + 1, v) ∈ g.l → RM.apply g = (some (g.ap + 1, v), { g with ap := g.ap + 1 }) := by
  constructor
  · intro h
    unfold RM.apply
    rw [kept_none.2 h]
  · intro v hv
    unfold RM.apply
    rw [kept_of hok.rising hv]

set_option maxRecDepth 20000 in
set_option maxHeartbeats 1000000 in
theorem rapply_any (w : World) (b : Nat) (F : Nat → Prop) (g : Lg) (hL : RefAt w b F g) :
    Calls Try.prog 39 #[.pointer (some ⟨b, 0, none⟩)] w fun e w' => RApplies w' (RM.apply g).1 e ∧ RefAt w' b F (RM.apply g).2 ∧ Keep F w w' := by
  have hA := heap_alloc_new w (.cells #[.int .u64 0, .slice none 0 0] 32)
  have kA : Keep (fun _ => False) w (w.alloc (.cells #[.int .u64 0, .slice none 0 0] 32)) := (Keep.refl _ _).alloc _
  obtain ⟨v, us, rl, hI, hp, hok⟩ := hL
  obtain ⟨ao, cp, rfl, -⟩ := hI.row.form
  have hok2 := hok.apply
  have hap := hok.ap
  have hrl : rl.length = g.l.length := hp.length_eq
  have hlt := hI.lt
  obtain ⟨a0, a1, af, -⟩ := cells2 (kA.get hI.head id)
  obtain ⟨len, hlen⟩ : ∃ n, n = rl.length := ⟨_, rfl⟩
  have hlen4 : len ≤ 4096 := by have := hok.few; omega
  rw [← hlen] at a1
  have HI := hid (And.intro hI (And.intro hp (And.intro hok (And.intro hok2 hlt))))
  have Hlen := hid hlen
  obtain ⟨t, ht⟩ : ∃ t, t = g.ap + 1 := ⟨_, rfl⟩
  have ht' : (g.ap : Int) + 1 = (t : Int) := by omega
  have Ht := hid ht
  clear hI hp hok hok2 hlen hrl hlt ht
  go_enter Try.func39, Try.ntmps39
  go_wp2_with (at_builtin; refine stopAt ?_; intro q hq)
  obtain ⟨wA, hwA⟩ : ∃ wA, wA = w.alloc (.cells #[.int .u64 0, .slice none 0 0] 32) := ⟨_, rfl⟩
  rw [← hwA] at hA kA a0 a1 af ⊢
  clear hwA
  first | rw [ht'] | skip
  refine (rat_any wA b g.ap F rl _ us t (HI.out.1.keep kA fun _ _ x => x) (by rw [← Hlen.out]; omega)).mono ?_
  rintro e w2 ⟨z, rfl, hz, hk2⟩
  have hA2 := hk2.get hA id
  have hI2 := (HI.out.1.keep kA fun _ _ x => x).keep hk2 fun _ _ x => x
  have k02 : Keep (fun _ => False) w w2 := kA.next hk2 (fun _ _ x => x) (fun _ _ x => x)
  clear a0 a1 af ht'
  obtain ⟨c0, c1, cf, -⟩ := cells2 hA2
  rcases hz with ⟨rfl, hz⟩ | ⟨k, hkl, rfl, hz⟩
  · have hG := (RM.apply_is HI.out.2.2.1).1 (fun h => hz (by rw [Ht.out]; exact (perm_has HI.out.2.1 _).2 h))
    have HG := hid hG
    have HX := hid (And.intro hA2 (And.intro hI2 k02))
    clear hA2 hI2 k02 hk2 kA hA hz hG
    go_wp2_with (at_builtin; refine stopAt ?_; intro q hq)
    obtain ⟨hA2, hI2, k02⟩ := HX.out
    have hB4 := heap_setCell_same w2 w.heap.size 0 _ _ (.int .u64 0) hA2
    have hB5 := heap_setCell_same (w2.setCell ⟨w.heap.size, 0, none⟩ (.int .u64 0)) w.heap.size 1 _ _ (.slice none 0 0) hB4
    have k5 : Keep (fun k => k = w.heap.size) w2 ((w2.setCell ⟨w.heap.size, 0, none⟩ (.int .u64 0)).setCell ⟨w.heap.size, 1, none⟩ (.slice none 0 0)) := by
      refine Keep.setCell (Keep.setCell (Keep.refl _ _) (.inl ?_) _) (.inl ?_) _ <;> rfl
    obtain ⟨w5, hw5⟩ : ∃ w5, w5 = (w2.setCell ⟨w.heap.size, 0, none⟩ (.int .u64 0)).setCell ⟨w.heap.size, 1, none⟩ (.slice none 0 0) := ⟨_, rfl⟩
    rw [← hw5] at hB5 k5 ⊢
    refine bodyPost_ret (results_agg2 rfl _ _ w.heap.size rfl [.int .u64 0, .slice none 0 0] ?_ _ Try.underlying32 rfl (by kernel_rfl)) rfl ?_
    · intro j u hu
      rw [cell_of_row _ _ _ _ _ _ hB5]
      simpa using hu
    · rw [HG.out]
      exact ⟨by rfl, ⟨_, _, _, hI2.keep k5 (fun k e x => by have := HI.out.2.2.2.2 k e; omega), HI.out.2.1, HI.out.2.2.1⟩, (k02.mono (fun _ _ x => x.elim)).next k5 (fun _ _ x => x) (fun i hi x => by omega)⟩
  · have hmem := HI.out.2.1.mem_iff.1 (List.getElem_mem hkl)
    have hG := (RM.apply_is HI.out.2.2.1).2 rl[k].2 (by rw [← Ht.out, ← hz]; exact hmem)
    have HG := hid hG
    have HX := hid (And.intro hA2 (And.intro hI2 k02))
    obtain ⟨a0, a1, af, -⟩ := cells2 hI2.head
    rw [← Hlen.out] at a1
    clear hA2 hI2 k02 hk2 kA hA hG hmem
    have q2 : decide ((k : Int) < 0) = false := by simp
    go_wp2_with (first | (at_builtin; refine stopAt ?_; intro q hq) | (refine stopOp (.load 35 _) rfl ?_; intro q hq))
    (refine hq.out ?_; clear hq q)
    obtain ⟨hA2, hI2, k02⟩ := HX.out
    have hI3 := hI2.step t
    have k3 : Keep (fun k => k = b) w2 (w2.setCell ⟨b, 0, none⟩ (.int .u64 (t : Nat))) := by refine Keep.setCell (Keep.refl _ _) (.inl ?_) _; rfl
    have ht' : (g.ap : Int) + 1 = (t : Int) := by have := Ht.out; omega
    simp only [ht']
    have hA3 := k3.get hA2 (fun e => by have := HI.out.2.2.2.2 b HI.out.1.self; omega)
    obtain ⟨w3, hw3⟩ : ∃ w3, w3 = w2.setCell ⟨b, 0, none⟩ (.int .u64 (t : Nat)) := ⟨_, rfl⟩
    rw [← hw3] at hI3 k3 hA3 ⊢
    clear hw3 a0 a1 af c0 c1 cf
    obtain ⟨a0, a1, af, -⟩ := cells2 hI3.head
    obtain ⟨c0, c1, cf, -⟩ := cells2 hA3
    obtain ⟨gr, cap', ao2, c2, hv, e0, e1, e2, -, e3⟩ := hI3.ent k hkl
    rw [hz] at e0
    have hv' := hv
    rw [← Hlen.out] at hv' a1
    obtain ⟨rfl, rfl⟩ : ao = some ⟨gr, 0, none⟩ ∧ cp = cap' := by simpa using hv'
    have hil' : (k : Int) < (len : Int) := by have := Hlen.out; omega
    obtain ⟨n, hn⟩ : ∃ n, n = rl[k].2.length := ⟨_, rfl⟩
    rw [← hn] at e1
    have Hn := hid hn
    have HY := hid (And.intro hA3 (And.intro hI3 (And.intro k3 (And.intro k02 (And.intro e2 (And.intro hz e3))))))
    clear hv hv' hn hA3 hI3 k3 k02 e2 hA2 hI2 ht' hz e3
    go_wp2_with (at_builtin; refine stopAt ?_; intro q hq)
    obtain ⟨hA3, hI3, k3, k02, e2, hz, e3⟩ := HY.out
    have hB4 := heap_setCell_same w3 w.heap.size 0 _ _ (.int .u64 (t : Nat)) hA3
    have hB5 := heap_setCell_same (w3.setCell ⟨w.heap.size, 0, none⟩ (.int .u64 (t : Nat))) w.heap.size 1 _ _ (.slice ao2 n c2) hB4
    have k5 : Keep (fun k => k = w.heap.size) w3 ((w3.setCell ⟨w.heap.size, 0, none⟩ (.int .u64 (t : Nat))).setCell ⟨w.heap.size, 1, none⟩ (.slice ao2 n c2)) := by
      refine Keep.setCell (Keep.setCell (Keep.refl _ _) (.inl ?_) _) (.inl ?_) _ <;> rfl
    obtain ⟨w5, hw5⟩ : ∃ w5, w5 = (w3.setCell ⟨w.heap.size, 0, none⟩ (.int .u64 (t : Nat))).setCell ⟨w.heap.size, 1, none⟩ (.slice ao2 n c2) := ⟨_, rfl⟩
    rw [← hw5] at hB5 k5 ⊢
    have k05 : Keep F w w5 := ((k02.mono (fun _ _ x => x.elim : ∀ i, i < w.heap.size → False → F i)).next k3 (fun _ _ x => x) (fun i _ x => by rw [x]; exact HI.out.1.self)).next k5 (fun _ _ x => x) (fun i hi x => by omega)
    refine bodyPost_ret (results_agg2 rfl _ _ w.heap.size rfl [.int .u64 (t : Nat), .slice ao2 n c2] ?_ _ Try.underlying32 rfl (by kernel_rfl)) rfl ?_
    · intro j u hu
      rw [cell_of_row _ _ _ _ _ _ hB5]
      simpa using hu
    · have hok2 := HI.out.2.2.2.1
      rw [HG.out] at hok2 ⊢
      have hI5 := hI3.keep k5 (fun k e x => by have := HI.out.2.2.2.2 k e; omega)
      have ht := Ht.out
      subst ht
      have hn := Hn.out
      subst hn
      exact ⟨⟨ao2, c2, by rfl, e2.keep0 k5 fun hp x hx y => by have := HI.out.2.2.2.2 _ (e3 (by omega) x hx); omega⟩, ⟨_, _, _, hI5, HI.out.2.1, hok2⟩, k05⟩
end Go.Proofs.Ytnignhfallhblaa
