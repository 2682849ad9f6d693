/- The document's log: contracts for Catch, Same; the statements' helpers Lent, Whole. Conditions: as the contracts name them. -/
import Derived.Test.YtnignhfallhblaaRle
import Derived.Test.YtnignhfallhblaaRlogV
import Derived.Test.YtnignhfallhblaaSpl
namespace Go.Proofs.Ytnignhfallhblaa
open Go.RowKit
open RM

theorem Firsts.base {w w2 wr : World} {v : Value} {fs : List Ent} {us : List (Nat × Value)} (h : Firsts w wr v fs us) (hk : Keep (fun _ => False) w w2) : Firsts w2 wr v fs us :=
  ⟨h.row, h.len, fun i hi => let ⟨ao, c, h1, h2⟩ := h.each i hi; ⟨ao, c, h1, h2.keep hk fun _ _ x => x⟩⟩

theorem RM.catch_cons {g : Lg} (h : Rising g.l) {s : Nat} {v : List UInt8} (hm : (s, v) ∈ g.l) {m : Int} (h0 : 0 < m) : RM.catch_ g s m = (s, v) :: RM.catch_ g (s + 1) (m - 1) := by
  have hk := RM.kept_get h (kept_of h hm)
  obtain ⟨hi, he⟩ := List.getElem?_eq_some_iff.1 hk
  obtain ⟨g1, g2⟩ := below_split h s
  have hb : below g.l s + 1 = below g.l (s + 1) := below_unique h (s + 1) (below g.l s + 1) (by omega) (fun j hj hji => by
    rcases Nat.lt_or_eq_of_le (Nat.le_of_lt_succ hji) with x | x
    · have := g1 j hj x; omega
    · subst x; rw [he]; exact Nat.lt_succ_self _) (fun j hj hji => by
    have := rising_get h (show below g.l s < j by omega) hj
    rw [he] at this
    exact this)
  unfold RM.catch_
  rw [List.drop_eq_getElem_cons hi, he, hb]
  obtain ⟨k, hk⟩ : ∃ k, m.toNat = k + 1 := ⟨m.toNat - 1, by omega⟩
  rw [hk, show (m - 1).toNat = k by omega]
  simp [train]
theorem RM.catch_zero (g : Lg) (s : Nat) {m : Int} (h : m ≤ 0) : RM.catch_ g s m = [] := by
  unfold RM.catch_
  rw [show m.toNat = 0 by omega]
  exact RM.train_zero _ _
theorem RM.train_le : ∀ (l : List Ent) (s k : Nat), (train l s k).length ≤ l.length
  | [], _, _ => Nat.zero_le _
  | _ :: _, _, 0 => Nat.zero_le _
  | e :: l, s, k + 1 => by
    unfold train
    split
    · simp only [List.length_cons]
      have := RM.train_le l (s + 1) k
      omega
    · exact Nat.zero_le _

def ROut (w : World) (es : List Ent) (e : Ending) (w' : World) : Prop := ∃ v us, e = .returned v ∧ Firsts w' w' v es us ∧ Keep (fun _ => False) w w'

structure RCRel (w : World) (g : Lg) (rl : List Ent) (most : Int) (all : List Ent) (t n : Nat) (z : Int) (v : Value) (wr : World) : Prop where
  ex : ∃ es us, Firsts w wr v es us ∧ us.length = n ∧ es ++ RM.catch_ g t (most - (n : Int)) = all
  find : RFind rl t z
  own : ∀ k, v.ownBlock = some k → w.heap.size ≤ k
  keep : Keep (fun _ => False) w wr

set_option maxRecDepth 20000 in
set_option maxHeartbeats 1000000 in
theorem rcatch_any (w : World) (b : Nat) (F : Nat → Prop) (g : Lg) (from_ : Nat) (most : Int) (hL : RefAt w b F g) (_hm1 : -9223372036854775808 ≤ most) (_hm2 : most ≤ 9223372036854775807) (hfr : from_ ≤ 18446744073709551615) :
    Calls Try.prog 28 #[.pointer (some ⟨b, 0, none⟩), .int .u64 from_, .int .i64 most] w fun e w' => ROut w (RM.catch_ g from_ most) e w' := by
  obtain ⟨v, us0, rl, hI, hp, hok⟩ := hL
  obtain ⟨ao, cp, rfl, -⟩ := hI.row.form
  obtain ⟨all, hall⟩ : ∃ z, z = RM.catch_ g from_ most := ⟨_, rfl⟩
  rw [← hall]
  have hal : all.length ≤ 4096 := by
    rw [hall]
    have := RM.train_le (g.l.drop (below g.l from_)) from_ most.toNat
    rw [List.length_drop] at this
    have := hok.few
    unfold RM.catch_
    omega
  have hrl := hp.length_eq
  obtain ⟨len, hlen⟩ : ∃ n, n = rl.length := ⟨_, rfl⟩
  have hlen4 : len ≤ 4096 := by have := hok.few; omega
  have HI := hid (And.intro hI (And.intro hp (And.intro hok (And.intro hall hal))))
  have Hlen := hid hlen
  clear hI hp hok hall hal hrl hlen
  go_enter Try.func28, Try.ntmps28
  go_wp2_with (at_builtin; refine stopAt ?_; intro q hq)
  refine (rat_any w b g.ap F rl _ us0 from_ HI.out.1 (by rw [← Hlen.out]; omega)).mono ?_
  rintro e w2 ⟨z, rfl, hz, hk2⟩
  have HR0 := hid (show RCRel w g rl most all from_ 0 z (.slice none 0 0) w2 from ⟨⟨[], [], ⟨Row.nil _ _ _, rfl, fun i hi => by simp at hi⟩, rfl, by rw [HI.out.2.2.2.1]; simp⟩, hz, fun k e => by simp [Value.ownBlock] at e, hk2⟩)
  clear hz hk2
  go_wp2_with (at_builtin; refine stopAt ?_; intro q hq)
  go_loopw [1, 7, 8] (fun sv ov zv wr => ∃ (t n : Nat) (z : Int), t ≤ 18446744073709551615 ∧ n ≤ 4096 ∧ sv = .int .u64 t ∧ zv = .int .i64 z ∧ Hid (RCRel w g rl most all t n z ov wr)) (fun sv _ _ _ => 18446744073709551616 - (intOf sv).toNat)
  case atStart => exact ⟨from_, 0, z, hfr, Nat.zero_le _, rfl, rfl, HR0⟩
  case round =>
    clear HR0
    obtain ⟨t, n, z, ht, hn, rfl, rfl, HR⟩ := hrel
    obtain ⟨es, us, hF, hun, hsum⟩ := HR.out.ex
    obtain ⟨ao2, c2, hv2, -⟩ := hF.row.form
    rw [hun] at hv2
    subst hv2
    have HE := hid (And.intro hF (And.intro hun hsum))
    clear hF hun hsum
    rcases HR.out.find with ⟨rfl, hz⟩ | ⟨k, hkl, rfl, hz⟩
    · have HO := hid (show Firsts wr wr (.slice ao2 n c2) all us from by
        obtain ⟨hF, hun, hsum⟩ := HE.out
        rw [RM.catch_none HI.out.2.2.1 (kept_none.2 fun h => hz ((perm_has HI.out.2.1 t).2 h)), List.append_nil] at hsum
        rw [← hsum]
        exact hF.base HR.out.keep)
      clear hz
      go_wp2_with (at_builtin; refine stopAt ?_; intro q hq)
      go_ret
      exact ⟨_, us, by rfl, HO.out, HR.out.keep⟩
    · have q1 : (0 : Int) ≤ (k : Int) := by omega
      by_cases hnm : (n : Int) < most
      · have q2 : decide ((n : Int) < most) = true := by simpa using hnm
        have hmem := HI.out.2.1.mem_iff.1 (List.getElem_mem hkl)
        have ht7 : t < 18446744073709551615 := by have := (HI.out.2.2.1.slots _ hmem).2; omega
        obtain ⟨a0, a1, af, -⟩ := cells2 (HI.out.1.keep HR.out.keep fun _ _ x => x).head
        rw [← Hlen.out] at a1
        obtain ⟨gr, cap', ao3, c3, hv, d0, d1, e2, -⟩ := HI.out.1.ent k hkl
        have c0 := cells_old HR.out.keep d0
        have c1 := cells_old HR.out.keep d1
        obtain ⟨rfl, rfl⟩ : ao = some ⟨gr, 0, none⟩ ∧ cp = cap' := by simpa using hv
        rw [hz] at c0
        obtain ⟨m, hm⟩ : ∃ m, m = rl[k].2.length := ⟨_, rfl⟩
        rw [← hm] at c1 e2
        have HM := hid (And.intro hm (And.intro e2 (And.intro hmem hz)))
        have hkl' : (k : Int) < (len : Int) := by have := Hlen.out; omega
        clear hv d0 d1 hm e2 hmem hz
        go_wp2_with (at_builtin; refine stopAt ?_; intro q hq)
        (refine hq.out ?_; clear hq q)
        obtain ⟨hF, hun, hsum⟩ := HE.out
        obtain ⟨hm, e2, hmem, hz⟩ := HM.out
        have hB := heap_alloc_new wr (.cells #[.int .u64 (t : Nat), .slice ao3 m c3] 32)
        have kB : Keep (fun _ => False) wr (wr.alloc (.cells #[.int .u64 (t : Nat), .slice ao3 m c3] 32)) := (Keep.refl _ _).alloc _
        obtain ⟨wB, hwB⟩ : ∃ wB, wB = wr.alloc (.cells #[.int .u64 (t : Nat), .slice ao3 m c3] 32) := ⟨_, rfl⟩
        rw [← hwB] at hB kB ⊢
        have hev : Cells wB (some ⟨wr.heap.size, 0, none⟩) 1 2 (entV (t, .slice ao3 m c3)) := ⟨rfl, fun _ => ⟨_, rfl, fun j u hu => by rw [addr_add, Nat.zero_add, cell_of_row _ _ _ _ _ _ hB]; simpa [entV] using hu⟩⟩
        have hrw := (hF.keep kB fun _ _ x => x).row
        rw [hun] at hrw
        refine wpList_plain rfl (fun K hK => ?_)
        refine wp_append ty_ents (.tmp 20) (.tmp 28) rfl rfl hrw (some ⟨wr.heap.size, 0, none⟩) 1 1 (entV (t, .slice ao3 m c3)) rfl hev (one_ents (us := [(t, .slice ao3 m c3)]) (fun e he => by rw [List.mem_singleton] at he; subst he; exact ⟨_, _, _, rfl⟩)) (by unfold maxLen; omega) (by omega) ?_
        intro v6 w6 hr6 hk6 hv6
        refine hK _ _ ?_
        clear hK K
        have hown6 : ∀ k, v6.ownBlock = some k → w.heap.size ≤ k := fun k e => by
          rcases hv6 with ⟨_, z⟩ | ⟨k', y, z⟩
          · exact absurd z (by omega)
          · rw [e] at y
            cases y
            rcases z with z | z
            · exact HR.out.own k z
            · have := kB.size; have := HR.out.keep.size; omega
        have hK6 : Keep (fun _ => False) w w6 := (HR.out.keep.next kB (fun _ _ x => x) (fun _ _ x => x)).next hk6 (fun _ _ x => x) (fun j hj x => by have := HR.out.own j x; omega)
        have hF6 : Firsts w w6 v6 (es ++ [rl[k]]) (us ++ [(t, .slice ao3 m c3)]) := by
          have := hF.snoc (w' := w6) (v' := v6) t rl[k].2 (c := c3) (by rw [← hm]; exact e2) (by rw [← hm, hun]; exact hr6)
          rw [← hm] at this
          rw [show rl[k] = (t, rl[k].2) from Prod.ext hz rfl]
          exact this
        have hsum6 : (es ++ [rl[k]]) ++ RM.catch_ g (t + 1) (most - ((n + 1 : Nat) : Int)) = all := by
          rw [← hsum, RM.catch_cons HI.out.2.2.1.rising (s := t) (v := rl[k].2) (by rw [← hz]; exact hmem) (by omega), show most - ((n + 1 : Nat) : Int) = most - (n : Int) - 1 by omega, List.append_assoc]
          rw [show rl[k] = (t, rl[k].2) from Prod.ext hz rfl]
          rfl
        have hn6 : n + 1 ≤ 4096 := by
          have h1 := congrArg List.length hsum6
          have h2 := HI.out.2.2.2.2
          have h3 := hF.len
          simp only [List.length_append, List.length_singleton] at h1
          omega
        obtain ⟨ao6, c6, rfl, -⟩ := hr6.form
        have HZ := hid (And.intro hF6 (And.intro hsum6 (And.intro hown6 (And.intro hK6 hun))))
        have q4 : (t : Int) + 1 ≤ 18446744073709551615 := by omega
        clear hr6 hk6 hv6 hev hB kB hwB hF hun hsum hm e2 hmem hz hrw hown6 hK6 hF6 hsum6 a0 a1 af c0 c1
        go_wp2_with (at_builtin; refine stopAt ?_; intro q hq)
        rw [show (t : Int) + 1 = ((t + 1 : Nat) : Int) by omega]
        refine (rat_any w6 b g.ap F rl _ us0 (t + 1) (HI.out.1.keep HZ.out.2.2.2.1 fun _ _ x => x) (by rw [← Hlen.out]; omega)).mono ?_
        rintro e w7 ⟨z7, rfl, hz7, hk7⟩
        have HZ2 := hid (show RCRel w g rl most all (t + 1) (n + 1) z7 (.slice ao6 (n + 1) c6) w7 from by
          obtain ⟨h1, h2, h3, h4, h5⟩ := HZ.out
          exact ⟨⟨_, _, h1.keep hk7 fun _ _ x => x, by simp [h5], h2⟩, hz7, h3, h4.next hk7 (fun _ _ x => x) (fun _ _ x => x)⟩)
        clear hz7 hk7 HZ
        go_wp2_with (at_builtin; refine stopAt ?_; intro q hq)
        exact ⟨⟨t + 1, n + 1, z7, by omega, hn6, rfl, rfl, HZ2⟩, by simp [intOf]; omega⟩
      · have q2 : decide ((n : Int) < most) = false := by simpa using hnm
        have HO := hid (show Firsts wr wr (.slice ao2 n c2) all us from by
          obtain ⟨hF, hun, hsum⟩ := HE.out
          rw [RM.catch_zero _ _ (by omega), List.append_nil] at hsum
          rw [← hsum]
          exact hF.base HR.out.keep)
        clear hz
        go_wp2_with (at_builtin; refine stopAt ?_; intro q hq)
        go_ret
        exact ⟨_, us, by rfl, HO.out, HR.out.keep⟩
end Go.Proofs.Ytnignhfallhblaa
