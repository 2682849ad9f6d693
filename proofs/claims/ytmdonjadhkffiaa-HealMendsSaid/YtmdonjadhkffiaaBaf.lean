/- Texts HeaA, HeaB, HeaC, HeaD, HeaE, HeaF, HeaG, HeaH, HeaI, HeaJ, HeaK, DelZ, HeaL, HeaN, HeaO, HeaP, HeaQ, HeaR, HeaS, HeaW in one. Conditions: as each law names them. -/
import Derived.WalkKit
import Derived.WalkLawsBesides
import Derived.WalkSpells
import Derived.Deep.CutBlock
import Derived.Deep.DeepCutAuto
import Derived.Shelf.Abstract
import Derived.Laws.BitsAllLaws
import Derived.Test.YtmdonjadhkffiaaBaa
import Derived.Test.YtmdonjadhkffiaaBab
import Derived.Test.YtmdonjadhkffiaaBac
import Derived.Test.YtmdonjadhkffiaaBad
import Derived.Test.YtmdonjadhkffiaaBae
/- Heal: lists of numbers and of places that may be read; who is up. Conditions: as each law names them. -/
namespace Go.Proofs.Ytmdonjadhkffiaa
open Go.RowKit
open HE

def I64 (z : Int) : Prop := -9223372036854775808 ≤ z ∧ z ≤ 9223372036854775807
/-- A list of numbers that may be read. -/
def IntsV (w : World) (v : Value) (l : List Int) : Prop :=
  ∃ ao c, v = .slice ao l.length c ∧ l.length ≤ maxLen ∧ (∀ z ∈ l, I64 z) ∧ (0 < l.length → ∃ ad, ao = some ad ∧ ∀ i (hi : i < l.length), w.cell? (ad.add i) = some (.int .i64 l[i]))
theorem IntsV.keep {w w' : World} {v : Value} {l : List Int} (h : IntsV w v l) (hk : Keep (fun _ => False) w w') : IntsV w' v l := by
  obtain ⟨ao, c, h1, h2, h3, h4⟩ := h
  refine ⟨ao, c, h1, h2, h3, fun h0 => ?_⟩
  obtain ⟨ad, h5, h6⟩ := h4 h0
  exact ⟨ad, h5, fun i hi => cell_old hk _ _ (h6 i hi)⟩
theorem IntsV.of_row {w : World} {v : Value} {l : List Int} (h : Row w 3 1 v l.length (numsV l)) (hz : ∀ z ∈ l, I64 z) : IntsV w v l := by
  obtain ⟨ao, c, rfl, h1, h2, -⟩ := h.form
  refine ⟨ao, c, rfl, Nat.le_trans h1 h2, hz, fun h0 => ?_⟩
  have hc := (Cells.of_row h).2 (by omega)
  obtain ⟨ad, hao, hcell⟩ := hc
  exact ⟨ad, hao, fun i hi => hcell i _ (by simp [numsV, hi])⟩
theorem IntsV.of_ints {w : World} {v : Value} {l : List Int} (h : Ints w v l) : IntsV w v l := by
  obtain ⟨ao, c, rfl, h1, h2, h3⟩ := h
  refine ⟨ao, c, rfl, Nat.le_trans h1 h2, fun z hz => ?_, fun h0 => ?_⟩
  · obtain ⟨j, hj, rfl⟩ := List.getElem_of_mem hz
    obtain ⟨ad, _, h4⟩ := h3 (by omega)
    obtain ⟨cs, _, ⟨_, h5⟩, _⟩ := h4 j hj
    exact h5
  · obtain ⟨ad, h5, h6⟩ := h3 h0
    refine ⟨ad, h5, fun i hi => ?_⟩
    obtain ⟨cs, _, ⟨rfl, _⟩, hc⟩ := h6 i hi
    have := hc 0 _ rfl
    rwa [Nat.mul_one, Nat.add_zero] at this

set_option maxRecDepth 20000 in
theorem has_any (w : World) (v : Value) (l : List Int) (n : Int) (h : IntsV w v l) :
    Calls Try.prog 27 #[v, .int .i64 n] w fun e w' => e = .returned (.bool (decide (n ∈ l))) ∧ Keep (fun _ => False) w w' := by
  obtain ⟨ao, c, rfl, hm, hz, hc⟩ := h
  obtain ⟨m, hmm⟩ : ∃ m, m = l.length := ⟨_, rfl⟩
  have HC := hid hc
  have HM := hid hmm
  rw [← hmm] at hm ⊢
  have hm63 : (m : Int) ≤ 9223372036854775807 := by unfold maxLen at hm; omega
  clear hc hmm hz
  go_enter Try.func27, Try.ntmps27
  go_wp2_with (at_builtin; refine stopAt ?_; intro q hq)
  go_loopw [5] (fun iv wr => ∃ i : Nat, i ≤ m ∧ iv = .int .i64 i ∧ Hid (Keep (fun _ => False) w wr ∧ ∀ j (h : j < l.length), j < i → l[j] ≠ n)) (fun iv _ => m - (intOf iv).toNat)
  case atStart => exact ⟨0, Nat.zero_le _, rfl, hid ⟨Keep.refl _ _, fun j _ h => by omega⟩⟩
  case round =>
    obtain ⟨i, hi, rfl, HK⟩ := hrel
    by_cases hin : i < m
    · have h4 : (i : Int) < m := by omega
      have hil : i < l.length := by rw [← HM.out]; exact hin
      obtain ⟨ad, rfl, hcell⟩ := HC.out (by omega)
      have a0 := cell_old HK.out.1 _ _ (hcell i hil)
      obtain ⟨q, hq⟩ : ∃ q, q = l[i] := ⟨_, rfl⟩
      rw [← hq] at a0
      have HQ := hid hq
      clear hq hcell
      by_cases he : q = n
      · subst he
        go_wp2_with (at_builtin; refine stopAt ?_; intro q hq)
        go_ret
        refine ⟨?_, HK.out.1⟩
        have : q ∈ l := by rw [HQ.out]; exact List.getElem_mem hil
        simp [this]
      · have t1 : decide (q = n) = false := by simpa using he
        have t2 : (q == n) = false := by simpa using he
        go_wp2_with (at_builtin; refine stopAt ?_; intro q hq)
        refine ⟨⟨i + 1, by omega, by go_num, hid ⟨HK.out.1, fun j hj hji => ?_⟩⟩, by simp [intOf]; omega⟩
        rcases Nat.lt_or_eq_of_le (Nat.le_of_lt_succ hji) with h | h
        · exact HK.out.2 j hj h
        · subst h
          rw [← HQ.out]
          exact he
    · have h4 : decide ((i : Int) < m) = false := by simp; omega
      go_wp2_with (at_builtin; refine stopAt ?_; intro q hq)
      go_ret
      refine ⟨?_, HK.out.1⟩
      have : n ∉ l := fun h => by
        obtain ⟨j, hj, he⟩ := List.getElem_of_mem h
        exact HK.out.2 j hj (by have := HM.out; omega) he
      simp [this]

theorem isUp_int (up : Nat) (n : Int) : ((((up : Int) / 2 ^ n.toNat).tmod 2) == 1) = isUp up n := by
  obtain ⟨x, hx⟩ : ∃ x, x = up / 2 ^ n.toNat := ⟨_, rfl⟩
  have e1 : ((up : Int) / 2 ^ n.toNat) = (x : Int) := by
    rw [hx, Int.natCast_ediv, Int.natCast_pow]
    rfl
  rw [e1, Int.tmod_eq_emod_of_nonneg (Int.natCast_nonneg _)]
  unfold isUp
  rw [← hx]
  apply Bool.eq_iff_iff.2
  rw [beq_iff_eq, beq_iff_eq]
  omega
set_option maxRecDepth 20000 in
theorem up_any (w : World) (up : Nat) (n : Int) (_hu : up < 4294967296) (h0 : 0 ≤ n) (h1 : n < 12) :
    Calls Try.prog 24 #[.int .u32 (up : Int), .int .i64 n] w fun e w' => e = .returned (.bool (isUp up n)) ∧ w = w' := by
  go_enter Try.func24, Try.ntmps24
  go_wp2_with (at_builtin; refine stopAt ?_; intro q hq)
  go_ret
  rw [← isUp_int]
  exact ⟨rfl, rfl⟩

set_option maxRecDepth 20000 in
theorem live_any (w : World) (up : Nat) (v : Value) (l : List Int) (hu : up < 4294967296) (h : IntsV w v l) (hr : ∀ x ∈ l, 0 ≤ x ∧ x < 12) :
    Calls Try.prog 25 #[.int .u32 (up : Int), v] w fun e w' => e = .returned (.int .i64 ((live up l).length : Int)) ∧ Keep (fun _ => False) w w' := by
  obtain ⟨ao, c, rfl, hm, hz, hc⟩ := h
  obtain ⟨m, hmm⟩ : ∃ m, m = l.length := ⟨_, rfl⟩
  have HC := hid hc
  have HM := hid hmm
  rw [← hmm] at hm ⊢
  have hm63 : (m : Int) ≤ 9223372036854775807 := by unfold maxLen at hm; omega
  clear hc hmm hz
  have hup := fun n h0 h1 w => up_any w up n hu h0 h1
  have HU := hid hup
  have HR := hid hr
  clear hup hr
  go_enter Try.func25, Try.ntmps25
  go_wp2_with (at_builtin; refine stopAt ?_; intro q hq)
  go_loopw [5, 6] (fun kv iv wr => ∃ i k : Nat, i ≤ m ∧ k ≤ i ∧ kv = .int .i64 k ∧ iv = .int .i64 i ∧ Hid (Keep (fun _ => False) w wr ∧ k = (live up (l.take i)).length)) (fun _ iv _ => m - (intOf iv).toNat)
  case atStart => exact ⟨0, 0, Nat.zero_le _, Nat.le_refl _, rfl, rfl, hid ⟨Keep.refl _ _, rfl⟩⟩
  case round =>
    obtain ⟨i, k, hi, hki, rfl, rfl, HK⟩ := hrel
    by_cases hin : i < m
    · have h4 : (i : Int) < m := by omega
      have hil : i < l.length := by rw [← HM.out]; exact hin
      obtain ⟨ad, rfl, hcell⟩ := HC.out (by omega)
      have a0 := cell_old HK.out.1 _ _ (hcell i hil)
      have hb := HR.out _ (List.getElem_mem hil)
      have hst : live up (l.take (i + 1)) = live up (l.take i) ++ (if isUp up l[i] then [l[i]] else []) := by
        rw [List.take_add_one, List.getElem?_eq_getElem hil, Option.toList_some]
        unfold live
        rw [List.filter_append]
        by_cases hx : isUp up l[i] = true <;> simp [hx]
      obtain ⟨q, hq⟩ : ∃ q, q = l[i] := ⟨_, rfl⟩
      rw [← hq] at a0 hb hst
      have HS := hid hst
      clear hq hcell hst
      go_wp2_with (at_builtin; refine stopAt ?_; intro q hq)
      refine (HU.out q hb.1 hb.2 wr).mono ?_
      rintro e w5 ⟨rfl, rfl⟩
      obtain ⟨u, hu'⟩ : ∃ u, u = isUp up q := ⟨_, rfl⟩
      rw [← hu'] at HS ⊢
      clear hu'
      cases u with
      | true =>
        go_wp2_with (at_builtin; refine stopAt ?_; intro q hq)
        exact ⟨⟨i + 1, k + 1, by omega, by omega, by go_num, by go_num, hid ⟨HK.out.1, by rw [HS.out, HK.out.2]; simp⟩⟩, by simp [intOf]; omega⟩
      | false =>
        go_wp2_with (at_builtin; refine stopAt ?_; intro q hq)
        exact ⟨⟨i + 1, k, by omega, by omega, by go_num, by go_num, hid ⟨HK.out.1, by rw [HS.out, HK.out.2]; simp⟩⟩, by simp [intOf]; omega⟩
    · have h4 : decide ((i : Int) < m) = false := by simp; omega
      go_wp2_with (at_builtin; refine stopAt ?_; intro q hq)
      go_ret
      rw [HK.out.2, List.take_of_length_le (by have := HM.out; omega)]
      exact ⟨rfl, HK.out.1⟩

theorem site_cell {w w' : World} {ad : Addr} {s : List Int} (hk : Keep (fun _ => False) w w') (hc : ∀ i (hi : i < s.length), w.cell? (ad.add i) = some (.int .i64 s[i])) (n : Int) (h0 : 0 ≤ n) (h1 : n < s.length) : w'.cell? (ad.add n.toNat) = some (.int .i64 (site s n)) := by
  have := cell_old hk _ _ (hc n.toNat (by omega))
  rw [this]
  unfold site
  have h2 : n.toNat < s.length := by omega
  simp [h2]

set_option maxRecDepth 20000 in
theorem on_any (w : World) (up : Nat) (vs v : Value) (s l : List Int) (n : Int) (hu : up < 4294967296) (hs : IntsV w vs s) (h : IntsV w v l) (hs12 : s.length ≤ 12) (hr : ∀ x ∈ l, 0 ≤ x ∧ x < s.length) (hn : 0 ≤ n ∧ n < s.length) :
    Calls Try.prog 28 #[vs, .int .u32 (up : Int), v, .int .i64 n] w fun e w' => e = .returned (.int .i64 (on s (live up l) n : Int)) ∧ Keep (fun _ => False) w w' := by
  obtain ⟨ao, c, rfl, hm, hz, hc⟩ := h
  obtain ⟨aS, cS, rfl, hms, hzs, hcs⟩ := hs
  obtain ⟨ads, rfl, hcells⟩ := hcs (by omega)
  obtain ⟨m, hmm⟩ : ∃ m, m = l.length := ⟨_, rfl⟩
  obtain ⟨N, hN⟩ : ∃ N, N = s.length := ⟨_, rfl⟩
  have HC := hid hc
  have HCs := hid hcells
  have HM := hid (And.intro hmm hN)
  rw [← hmm] at hm ⊢
  rw [← hN] at hs12 ⊢
  have hm63 : (m : Int) ≤ 9223372036854775807 := by unfold maxLen at hm; omega
  have hup := fun n h0 h1 w => up_any w up n hu h0 h1
  have HU := hid hup
  have HR := hid hr
  have hn' := hn
  rw [← hN] at hn'
  obtain ⟨nt, hnt⟩ : ∃ nt : Nat, nt = n.toNat := ⟨_, rfl⟩
  have hnI : n = (nt : Int) := by omega
  have Hn := hid (And.intro hn hnt)
  subst hnI
  have hntN : nt < N := by omega
  clear hc hmm hz hcs hup hr hzs hms hN hcells hn hn' hnt
  go_enter Try.func28, Try.ntmps28
  go_wp2_with (at_builtin; refine stopAt ?_; intro q hq)
  go_loopw [9, 10] (fun kv iv wr => ∃ i k : Nat, i ≤ m ∧ k ≤ i ∧ kv = .int .i64 k ∧ iv = .int .i64 i ∧ Hid (Keep (fun _ => False) w wr ∧ k = on s (live up (l.take i)) (nt : Int))) (fun _ iv _ => m - (intOf iv).toNat)
  case atStart => exact ⟨0, 0, Nat.zero_le _, Nat.le_refl _, rfl, rfl, hid ⟨Keep.refl _ _, rfl⟩⟩
  case round =>
    obtain ⟨i, k, hi, hki, rfl, rfl, HK⟩ := hrel
    by_cases hin : i < m
    · have h4 : (i : Int) < m := by omega
      have hil : i < l.length := by rw [← HM.out.1]; exact hin
      obtain ⟨ad, rfl, hcell⟩ := HC.out (by omega)
      have a0 := cell_old HK.out.1 _ _ (hcell i hil)
      have hb := HR.out _ (List.getElem_mem hil)
      have hst : on s (live up (l.take (i + 1))) (nt : Int) = on s (live up (l.take i)) (nt : Int) + (if isUp up l[i] && decide (site s l[i] = site s (nt : Int)) then 1 else 0) := by
        rw [List.take_add_one, List.getElem?_eq_getElem hil, Option.toList_some]
        unfold live on
        rw [List.filter_append, List.countP_append]
        by_cases hx : isUp up l[i] = true
        · by_cases hy : site s l[i] = site s (nt : Int) <;> simp [hx, hy]
        · simp [hx]
      obtain ⟨q, hq⟩ : ∃ q, q = l[i] := ⟨_, rfl⟩
      rw [← hq] at a0 hb hst
      rw [← HM.out.2] at hb
      obtain ⟨qt, hqt⟩ : ∃ qt : Nat, (qt : Int) = q := ⟨q.toNat, by omega⟩
      subst hqt
      have b0 := site_cell HK.out.1 HCs.out (qt : Int) (by omega) (by have := HM.out.2; omega)
      have b1 := site_cell HK.out.1 HCs.out (nt : Int) (by omega) (by have := HM.out.2; omega)
      rw [Int.toNat_natCast] at b0 b1
      have hqN : (qt : Int) < N := by omega
      have hnN : (nt : Int) < N := by omega
      obtain ⟨sq', hsq⟩ : ∃ z, z = site s (qt : Int) := ⟨_, rfl⟩
      obtain ⟨sn, hsn⟩ : ∃ z, z = site s (nt : Int) := ⟨_, rfl⟩
      rw [← hsq] at b0 hst
      rw [← hsn] at b1
      have hst2 : on s (live up (l.take (i + 1))) (nt : Int) = on s (live up (l.take i)) (nt : Int) + (if isUp up (qt : Int) && decide (sq' = sn) then 1 else 0) := by rw [hst, ← hsn]
      have HS := hid hst2
      have j0 := fun x : Later wr => x.cell a0
      have j1 := fun x : Later wr => x.cell b0
      have j2 := fun x : Later wr => x.cell b1
      have huq : ∀ x : Later wr, Calls Try.prog 24 #[.int .u32 (up : Int), .int .i64 (qt : Int)] x.val fun e w' => e = .returned (.bool (isUp up (qt : Int))) ∧ Keep (fun _ => False) x.val w' := fun x =>
        (HU.out (qt : Int) (by omega) (by omega) x.val).mono (by rintro e w' ⟨rfl, rfl⟩; exact ⟨rfl, Keep.refl _ _⟩)
      have HUq := hid huq
      clear huq
      clear hq hcell hst hst2 a0 b0 b1 hsq hsn
      obtain ⟨u, hu'⟩ : ∃ u, u = isUp up (qt : Int) := ⟨_, rfl⟩
      rw [← hu'] at HS HUq
      clear hu'
      go_wp2_with (at_builtin; refine stopAt ?_; intro q hq)
      cases u with
      | true =>
        by_cases hss : sq' = sn
        · have t1 : decide (sq' = sn) = true := by simpa using hss
          have t2 : (sq' == sn) = true := by simpa using hss
          have Hss := hid hss
          clear hss
          (refine wp_region_later (by kernel_rfl) (by kernel_rfl) ?_; (repeat (go_big_quiet_step ((go_at_call 24; exact Later.call (HUq.out _))))); refine wpQuiet_nil ?_; rintro _ ⟨sq, rfl⟩)
          go_wp2_with (at_builtin; refine stopAt ?_; intro q hq)
          exact ⟨⟨i + 1, k + 1, by omega, by omega, by go_num, by go_num, hid ⟨HK.out.1.next sq.keep (fun _ _ x => x) (fun _ _ x => x), by rw [HS.out, HK.out.2, t1]; simp⟩⟩, by simp [intOf]; omega⟩
        · have t1 : decide (sq' = sn) = false := by simpa using hss
          have t2 : (sq' == sn) = false := by simpa using hss
          (refine wp_region_later (by kernel_rfl) (by kernel_rfl) ?_; (repeat (go_big_quiet_step ((go_at_call 24; exact Later.call (HUq.out _))))); refine wpQuiet_nil ?_; rintro _ ⟨sq, rfl⟩)
          go_wp2_with (at_builtin; refine stopAt ?_; intro q hq)
          exact ⟨⟨i + 1, k, by omega, by omega, by go_num, by go_num, hid ⟨HK.out.1.next sq.keep (fun _ _ x => x) (fun _ _ x => x), by rw [HS.out, HK.out.2, t1]; simp⟩⟩, by simp [intOf]; omega⟩
      | false =>
        (refine wp_region_later (by kernel_rfl) (by kernel_rfl) ?_; (repeat (go_big_quiet_step ((go_at_call 24; exact Later.call (HUq.out _))))); refine wpQuiet_nil ?_; rintro _ ⟨sq, rfl⟩)
        go_wp2_with (at_builtin; refine stopAt ?_; intro q hq)
        exact ⟨⟨i + 1, k, by omega, by omega, by go_num, by go_num, hid ⟨HK.out.1.next sq.keep (fun _ _ x => x) (fun _ _ x => x), by rw [HS.out, HK.out.2]; simp⟩⟩, by simp [intOf]; omega⟩
    · have h4 : decide ((i : Int) < m) = false := by simp; omega
      go_wp2_with (at_builtin; refine stopAt ?_; intro q hq)
      go_ret
      rw [HK.out.2, List.take_of_length_le (by have := HM.out.1; omega)]
      exact ⟨rfl, HK.out.1⟩
end Go.Proofs.Ytmdonjadhkffiaa
/- Heal: places that may be read; Load; formed. Conditions: as each law names them. -/
namespace Go.Proofs.Ytmdonjadhkffiaa
open Go.RowKit
open HE

/-- Places that may be read. -/
def PlsV (w : World) (v : Value) (ps : List Pl) : Prop :=
  ∃ ao c, v = .slice ao ps.length c ∧ ps.length ≤ maxLen ∧ (0 < ps.length → ∃ ad, ao = some ad ∧ ∀ i (hi : i < ps.length), ∃ nv, w.cell? (ad.add (i * 2)) = some (.int .i64 ps[i].chunk) ∧
    w.cell? { block := (ad.add (i * 2)).block, off := (ad.add (i * 2)).off + 1 } = some nv ∧ IntsV w nv ps[i].nodes ∧ I64 ps[i].chunk)
theorem PlsV.keep {w w' : World} {v : Value} {ps : List Pl} (h : PlsV w v ps) (hk : Keep (fun _ => False) w w') : PlsV w' v ps := by
  obtain ⟨ao, c, h1, h2, h4⟩ := h
  refine ⟨ao, c, h1, h2, fun h0 => ?_⟩
  obtain ⟨ad, h5, h6⟩ := h4 h0
  refine ⟨ad, h5, fun i hi => ?_⟩
  obtain ⟨nv, g1, g2, g3, g4⟩ := h6 i hi
  exact ⟨nv, cell_old hk _ _ g1, cell_old hk _ _ g2, g3.keep hk, g4⟩

def PlR (w : World) (cs : List Value) (p : Pl) : Prop := ∃ nv, cs = [.int .i64 p.chunk, nv] ∧ I64 p.chunk ∧ Ints w nv p.nodes
abbrev Pls (w : World) (v : Value) (ps : List Pl) : Prop := SliceOf w 2 (PlR w) v ps
theorem PlsV.of_pls {w : World} {v : Value} {ps : List Pl} (h : Pls w v ps) : PlsV w v ps := by
  obtain ⟨ao, c, rfl, hc1, hc2⟩ := h.form
  refine ⟨ao, c, rfl, Nat.le_trans hc1 hc2, fun h0 => ?_⟩
  obtain ⟨ad, _, rfl, _⟩ := h.at (Keep.refl _ _) 0 h0
  refine ⟨ad, rfl, fun i hi => ?_⟩
  obtain ⟨ad', cs, he, -, ⟨nv, rfl, hz, hi'⟩, e0, ej⟩ := h.at (Keep.refl _ _) i hi
  cases he
  exact ⟨nv, e0 _ rfl, ej 1 _ (by decide) rfl, IntsV.of_ints hi', hz⟩

set_option maxRecDepth 20000 in
theorem load_any (w : World) (v : Value) (ps : List Pl) (n : Int) (h : PlsV w v ps) :
    Calls Try.prog 30 #[v, .int .i64 n] w fun e w' => e = .returned (.int .i64 (loadOf ps n : Int)) ∧ Keep (fun _ => False) w w' := by
  obtain ⟨ao, c, rfl, hm, hc⟩ := h
  obtain ⟨m, hmm⟩ : ∃ m, m = ps.length := ⟨_, rfl⟩
  have HC := hid hc
  have HM := hid hmm
  rw [← hmm] at hm ⊢
  have hm63 : (m : Int) ≤ 9223372036854775807 := by unfold maxLen at hm; omega
  clear hc hmm
  go_enter Try.func30, Try.ntmps30
  go_wp2_with (at_builtin; refine stopAt ?_; intro q hq)
  go_loopw [5, 6] (fun kv iv wr => ∃ i k : Nat, i ≤ m ∧ k ≤ i ∧ kv = .int .i64 k ∧ iv = .int .i64 i ∧ Hid (Keep (fun _ => False) w wr ∧ k = loadOf (ps.take i) n)) (fun _ iv _ => m - (intOf iv).toNat)
  case atStart => exact ⟨0, 0, Nat.zero_le _, Nat.le_refl _, rfl, rfl, hid ⟨Keep.refl _ _, rfl⟩⟩
  case round =>
    obtain ⟨i, k, hi, hki, rfl, rfl, HK⟩ := hrel
    by_cases hin : i < m
    · have h4 : (i : Int) < m := by omega
      have hil : i < ps.length := by rw [← HM.out]; exact hin
      obtain ⟨ad, rfl, hcell⟩ := HC.out (by omega)
      obtain ⟨nv, g1, g2, g3, g4⟩ := hcell i hil
      have a1 := cell_old HK.out.1 _ _ g2
      have hst : loadOf (ps.take (i + 1)) n = loadOf (ps.take i) n + (if n ∈ ps[i].nodes then 1 else 0) := by
        rw [List.take_add_one, List.getElem?_eq_getElem hil, Option.toList_some]
        unfold loadOf
        rw [List.countP_append]
        by_cases hx : n ∈ ps[i].nodes <;> simp [hx]
      have HG := hid (g3.keep HK.out.1)
      obtain ⟨nl, hnl⟩ : ∃ nl, nl = ps[i].nodes := ⟨_, rfl⟩
      rw [← hnl] at HG hst
      have HS := hid hst
      obtain ⟨an, cn, hnv, -⟩ := HG.out
      subst hnv
      clear hcell g1 g2 g3 g4 hst hnl
      go_wp2_with (at_builtin; refine stopAt ?_; intro q hq)
      refine (has_any wr _ nl n HG.out).mono ?_
      rintro e w5 ⟨rfl, hk5⟩
      have HK5 := hid (HK.out.1.next hk5 (fun _ _ x => x) (fun _ _ x => x))
      clear hk5 a1
      by_cases hu : n ∈ nl
      · have e1 : decide (n ∈ nl) = true := by simpa using hu
        rw [e1]
        have Hu := hid hu
        clear hu e1
        go_wp2_with (at_builtin; refine stopAt ?_; intro q hq)
        exact ⟨⟨i + 1, k + 1, by omega, by omega, by go_num, by go_num, hid ⟨HK5.out, by rw [HS.out, HK.out.2, if_pos Hu.out]⟩⟩, by simp [intOf]; omega⟩
      · have e1 : decide (n ∈ nl) = false := by simpa using hu
        rw [e1]
        have Hu := hid hu
        clear hu e1
        go_wp2_with (at_builtin; refine stopAt ?_; intro q hq)
        exact ⟨⟨i + 1, k, by omega, by omega, by go_num, by go_num, hid ⟨HK5.out, by rw [HS.out, HK.out.2, if_neg Hu.out]; rfl⟩⟩, by simp [intOf]; omega⟩
    · have h4 : decide ((i : Int) < m) = false := by simp; omega
      go_wp2_with (at_builtin; refine stopAt ?_; intro q hq)
      go_ret
      rw [HK.out.2, List.take_of_length_le (by have := HM.out; omega)]
      exact ⟨rfl, HK.out.1⟩

theorem cells2' {w : World} {b : Nat} {T : TypeId} {a0 a1 : Value} (H : w.heap[b]? = some (.cells #[a0, a1] T (0, 0))) :
    w.cell? ⟨b, 0, none⟩ = some a0 ∧ w.cell? ⟨b, 1, none⟩ = some a1 ∧ (∀ o, w.frozen? ⟨b, o, none⟩ = false) ∧ b < w.heap.size := by
  refine ⟨?_, ?_, ?_, heap_lt H⟩ <;> simp [World.cell?, World.frozen?, H]

/-- Rising, as far as was looked. -/
def lastN (l : List Int) (k : Nat) : Int := if k = 0 then -1 else l.getD (k - 1) 0
theorem rising_drop {l : List Int} {hi : Int} {k : Nat} (hk : k < l.length) : rising (lastN l k) hi (l.drop k) = (decide (lastN l k < l[k]) && decide (l[k] < hi) && rising (lastN l (k + 1)) hi (l.drop (k + 1))) := by
  rw [List.drop_eq_getElem_cons hk]
  show (decide (lastN l k < l[k]) && decide (l[k] < hi) && rising l[k] hi (l.drop (k + 1))) = _
  have : lastN l (k + 1) = l[k] := by unfold lastN; simp [hk]
  rw [this]
def lastC (ps : List Pl) (k : Nat) : Int := if k = 0 then -1 else chunkAt ps (k - 1)
theorem formed_drop {ps : List Pl} {hi : Int} {k : Nat} (hk : k < ps.length) : formedFrom (lastC ps k) hi (ps.drop k) = (decide (lastC ps k < ps[k].chunk) && rising (-1) hi ps[k].nodes && formedFrom (lastC ps (k + 1)) hi (ps.drop (k + 1))) := by
  rw [List.drop_eq_getElem_cons hk]
  show (decide (lastC ps k < ps[k].chunk) && rising (-1) hi ps[k].nodes && formedFrom ps[k].chunk hi (ps.drop (k + 1))) = _
  have : lastC ps (k + 1) = ps[k].chunk := by unfold lastC; simp [chunkAt, hk]
  rw [this]

set_option maxRecDepth 20000 in
set_option maxHeartbeats 2000000 in
theorem rformed_any (w : World) (v : Value) (ps : List Pl) (hi : Int) (h : PlsV w v ps) (_hhi : I64 hi) :
    Calls Try.prog 54 #[v, .int .i64 hi] w fun e w' => e = .returned (.int .i64 (if formed ps hi then 0 else 160)) ∧ Keep (fun _ => False) w w' := by
  obtain ⟨ao, c, rfl, hm, hc⟩ := h
  obtain ⟨m, hmm⟩ : ∃ m, m = ps.length := ⟨_, rfl⟩
  have HC := hid hc
  have HM := hid hmm
  obtain ⟨E, hE⟩ : ∃ E : Int, E = if formed ps hi then 0 else 160 := ⟨_, rfl⟩
  rw [← hE]
  have HE := hid hE
  rw [← hmm] at hm ⊢
  have hm63 : (m : Int) ≤ 9223372036854775807 := by unfold maxLen at hm; omega
  unfold I64 at _hhi
  clear hc hmm hE
  go_enter Try.func54, Try.ntmps54
  by_cases h256 : m ≤ 256
  · have t0 : decide ((256 : Int) < (m : Int)) = false := by simp; omega
    have hff : formed ps hi = formedFrom (-1) hi ps := by unfold formed; rw [← HM.out]; simp [h256]
    have Hff := hid hff
    clear hff
    go_wp2_with (at_builtin; refine stopAt ?_; intro q hq)
    go_loopw [5] (fun iv wr => ∃ i : Nat, i ≤ m ∧ iv = .int .i64 i ∧ Hid (Keep (fun _ => False) w wr ∧ formedFrom (-1) hi ps = formedFrom (lastC ps i) hi (ps.drop i) ∧ (0 < i → 0 ≤ lastC ps i))) (fun iv _ => m - (intOf iv).toNat)
    case atStart => exact ⟨0, Nat.zero_le _, rfl, hid ⟨Keep.refl _ _, rfl, fun h => by omega⟩⟩
    case round =>
      obtain ⟨i, hi', rfl, HK⟩ := hrel
      by_cases hin : i < m
      · have h4 : (i : Int) < m := by omega
        have hil : i < ps.length := by rw [← HM.out]; exact hin
        obtain ⟨ad, rfl, hcell⟩ := HC.out (by omega)
        obtain ⟨nv, g1, g2, g3, g4⟩ := hcell i hil
        have a0 := cell_old HK.out.1 _ _ g1
        have a1 := cell_old HK.out.1 _ _ g2
        have hst := formed_drop (hi := hi) hil
        have HG := hid (g3.keep HK.out.1)
        obtain ⟨nl, hnl⟩ : ∃ nl, nl = ps[i].nodes := ⟨_, rfl⟩
        obtain ⟨ch, hch⟩ : ∃ ch, ch = ps[i].chunk := ⟨_, rfl⟩
        obtain ⟨lc, hlc⟩ : ∃ lc, lc = lastC ps i := ⟨_, rfl⟩
        rw [← hnl] at HG hst
        rw [← hch] at a0 hst
        rw [← hlc] at hst
        have HS := hid (And.intro hst (And.intro hlc (show lastC ps (i + 1) = ch by unfold lastC; simp [chunkAt, hil, hch])))
        obtain ⟨an, cn, hnv, hnm, hnz, hnc⟩ := HG.out
        subst hnv
        have hnn63 : (nl.length : Int) ≤ 9223372036854775807 := by unfold maxLen at hnm; omega
        have HNc := hid hnc
        have HPrev : Hid (∀ e, i = e + 1 → wr.cell? (ad.add (e * 2)) = some (.int .i64 lc)) := hid fun e he => by
          obtain ⟨nv', f1, -⟩ := hcell e (by omega)
          have := cell_old HK.out.1 _ _ f1
          rw [this]
          have h5 : lc = ps[e].chunk := by
            subst he
            rw [hlc]
            unfold lastC
            simp [chunkAt, show e < ps.length by omega]
          rw [h5]
        clear hcell g1 g2 g3 g4 hst hnl hch hlc hnz hnc
        go_upto_region 7 with fail
        have hk2 : Keep (fun _ => False) wr (wr.alloc (.cells #[.int .i64 ch, .slice an nl.length cn] 44)) := (Keep.refl _ _).alloc _
        have hn2 := heap_alloc_new wr (.cells #[.int .i64 ch, .slice an nl.length cn] 44)
        obtain ⟨gp, hgp⟩ : ∃ gp, gp = wr.heap.size := ⟨_, rfl⟩
        obtain ⟨w2, hw2⟩ : ∃ w2, w2 = wr.alloc (.cells #[.int .i64 ch, .slice an nl.length cn] 44) := ⟨_, rfl⟩
        rw [← hw2] at hk2
        rw [← hw2, ← hgp] at hn2
        rw [← hw2, ← hgp]
        have H2 := hid (And.intro hn2 hk2)
        clear hw2 hgp a0 a1
        obtain ⟨k0, k1, kf, kb⟩ := cells2' hn2
        clear hn2
        go_cut [38] (fun tv wx => tv = .bool (!decide (lc < ch)) ∧ Hid (Keep (fun _ => False) w2 wx))
        case first =>
          have hlc1 : -1 ≤ lc := by
            have h1 := HS.out.2.1
            by_cases h0 : i = 0
            · rw [h1, h0]; simp [lastC]
            · have := HK.out.2.2 (by omega); omega
          by_cases hc0 : ch < 0
          · have t1 : decide (ch < 0) = true := by simpa using hc0
            have e1 : (!decide (lc < ch)) = true := by simp; omega
            have He1 := hid e1
            clear e1
            go_wp2_with (at_builtin; refine stopAt ?_; intro q hq)
            go_quiet (fail)
            go_wp2_with (at_builtin; refine stopAt ?_; intro q hq)
            go_meet
            exact ⟨by rw [He1.out], hid ((Keep.refl _ _).drewN _)⟩
          · have t1 : decide (ch < 0) = false := by simpa using hc0
            by_cases hi0 : i = 0
            · have hl : lc = -1 := by rw [HS.out.2.1, hi0]; rfl
              have t2 : decide (0 < i) = false := by simp; omega
              have t3 : decide ((0 : Int) < (i : Int)) = false := by simp; omega
              have e1 : (!decide (lc < ch)) = false := by simp; omega
              have He1 := hid e1
              clear e1
              clear hi0
              go_wp2_with (at_builtin; refine stopAt ?_; intro q hq)
              go_quiet (fail)
              go_wp2_with (at_builtin; refine stopAt ?_; intro q hq)
              go_meet
              exact ⟨by rw [He1.out], hid ((Keep.refl _ _).drewN _)⟩
            · have t2 : decide (0 < i) = true := by simp; omega
              have t3 : (0 : Int) < (i : Int) := by omega
              obtain ⟨e, he⟩ : ∃ e, e = i - 1 := ⟨_, rfl⟩
              have wq : IntKind.i64.wrap ((i : Int) - 1) = (e : Int) := by rw [show ((i : Int) - 1) = (e : Int) by omega]; simp [IntKind.wrap, IntKind.signed, IntKind.bits]; omega
              have q7 : (e : Int) < m := by omega
              have b0 := cell_old hk2 _ _ (HPrev.out e (by omega))
              have He := hid he
              clear he hi0
              by_cases hcl : ch ≤ lc
              · have t4 : decide (ch ≤ lc) = true := by simpa using hcl
                have e1 : (!decide (lc < ch)) = true := by simp; omega
                have He1 := hid e1
                clear e1
                go_wp2_with (at_builtin; refine stopAt ?_; intro q hq)
                go_quiet (fail)
                go_wp2_with (at_builtin; refine stopAt ?_; intro q hq)
                go_meet
                exact ⟨by rw [He1.out], hid ((Keep.refl _ _).drewN _)⟩
              · have t4 : decide (ch ≤ lc) = false := by simpa using hcl
                have e1 : (!decide (lc < ch)) = false := by simp; omega
                have He1 := hid e1
                clear e1
                go_wp2_with (at_builtin; refine stopAt ?_; intro q hq)
                go_quiet (fail)
                go_wp2_with (at_builtin; refine stopAt ?_; intro q hq)
                go_meet
                exact ⟨by rw [He1.out], hid ((Keep.refl _ _).drewN _)⟩
        case rest =>
          obtain ⟨rfl, HX⟩ := hcut
          by_cases hlt : lc < ch
          · have t5 : (!decide (lc < ch)) = false := by simpa using hlt
            rw [t5]
            have Hlt := hid hlt
            have hch0 : 0 ≤ ch := by
              have h1 := HS.out.2.1
              by_cases h0 : i = 0
              · rw [h0] at h1; simp [lastC] at h1; omega
              · have := HK.out.2.2 (by omega); omega
            have Hch0 := hid hch0
            clear hlt t5 hch0
            have hwr : Hid (Keep (fun _ => False) wr wc) := hid ((H2.out.2).next HX.out (fun _ _ x => x) (fun _ _ x => x))
            go_wp2_with (at_builtin; refine stopAt ?_; intro q hq)
            go_loopw [7] (fun iv wy => ∃ k : Nat, k ≤ nl.length ∧ iv = .int .i64 k ∧ Hid (Keep (fun _ => False) w2 wy ∧ rising (-1) hi nl = rising (lastN nl k) hi (nl.drop k) ∧ -1 ≤ lastN nl k ∧ (0 < k → 0 ≤ lastN nl k))) (fun iv _ => nl.length - (intOf iv).toNat)
            case atStart => exact ⟨0, Nat.zero_le _, rfl, hid ⟨HX.out, rfl, by simp [lastN], fun h => by omega⟩⟩
            case round =>
              obtain ⟨k, hk, rfl, HI⟩ := hrel
              have q1 := cell_old HI.out.1 _ _ k1
              by_cases hkn : k < nl.length
              · have h5 : (k : Int) < nl.length := by omega
                obtain ⟨adn, rfl, hcell⟩ := HNc.out (by omega)
                obtain ⟨x, hx⟩ : ∃ x, x = nl[k] := ⟨_, rfl⟩
                obtain ⟨y, hy⟩ : ∃ y, y = lastN nl k := ⟨_, rfl⟩
                have hwy := (H2.out.2).next HI.out.1 (fun _ _ x => x) (fun _ _ x => x)
                have p1 := cell_old hwy _ _ (hcell k hkn)
                rw [← hx] at p1
                have hst := rising_drop (hi := hi) hkn
                rw [← hx, ← hy] at hst
                have hy0 := HI.out.2.2.1
                have hy1 := HI.out.2.2.2
                rw [← hy] at hy0 hy1
                have hnext : lastN nl (k + 1) = x := by rw [hx]; unfold lastN; simp [hkn]
                have HQ := hid (And.intro hst (And.intro hy (And.intro hy0 (And.intro hy1 hnext))))
                have HPv : Hid (∀ e, k = e + 1 → wr.cell? (adn.add e) = some (.int .i64 y)) := hid fun e he => by
                  rw [cell_old hwy _ _ (hcell e (by omega))]
                  have : y = nl[e] := by
                    subst he
                    rw [hy]
                    unfold lastN
                    simp [show e < nl.length by omega]
                  rw [this]
                clear hcell hst hx hy hy0 hy1 hnext hwy
                go_upto_region 12 with fail
                go_cut [78] (fun tv wx => tv = .bool (!(decide (y < x) && decide (x < hi))) ∧ Hid (Keep (fun _ => False) wr wx))
                case first =>
                  have hy0 := HQ.out.2.2.1
                  by_cases hc0 : x < 0
                  · have t1 : decide (x < 0) = true := by simpa using hc0
                    have e1 : (!(decide (y < x) && decide (x < hi))) = true := by
                      have : 0 ≤ y ∨ y = -1 := by omega
                      have : ¬ y < x := by omega
                      simp [this]
                    have He1 := hid e1
                    clear e1
                    go_wp2_with (at_builtin; refine stopAt ?_; intro q hq)
                    go_quiet (fail)
                    go_wp2_with (at_builtin; refine stopAt ?_; intro q hq)
                    go_meet
                    exact ⟨by rw [He1.out], hid ((Keep.refl _ _).drewN _)⟩
                  · have t1 : decide (x < 0) = false := by simpa using hc0
                    by_cases hh : hi ≤ x
                    · have t2 : decide (hi ≤ x) = true := by simpa using hh
                      have e1 : (!(decide (y < x) && decide (x < hi))) = true := by
                        have : ¬ x < hi := by omega
                        simp [this]
                      have He1 := hid e1
                      clear e1
                      go_wp2_with (at_builtin; refine stopAt ?_; intro q hq)
                      go_quiet (fail)
                      go_wp2_with (at_builtin; refine stopAt ?_; intro q hq)
                      go_meet
                      exact ⟨by rw [He1.out], hid ((Keep.refl _ _).drewN _)⟩
                    · have t2 : decide (hi ≤ x) = false := by simpa using hh
                      by_cases hi0 : k = 0
                      · have hl : y = -1 := by rw [HQ.out.2.1, hi0]; rfl
                        have t3 : decide (0 < k) = false := by simp; omega
                        have t4 : decide ((0 : Int) < (k : Int)) = false := by simp; omega
                        have e1 : (!(decide (y < x) && decide (x < hi))) = false := by simp; omega
                        have He1 := hid e1
                        clear e1
                        clear hi0
                        go_wp2_with (at_builtin; refine stopAt ?_; intro q hq)
                        go_quiet (fail)
                        go_wp2_with (at_builtin; refine stopAt ?_; intro q hq)
                        go_meet
                        exact ⟨by rw [He1.out], hid ((Keep.refl _ _).drewN _)⟩
                      · have t3 : decide (0 < k) = true := by simp; omega
                        have t4 : (0 : Int) < (k : Int) := by omega
                        obtain ⟨e, he⟩ : ∃ e, e = k - 1 := ⟨_, rfl⟩
                        have wq : IntKind.i64.wrap ((k : Int) - 1) = (e : Int) := by rw [show ((k : Int) - 1) = (e : Int) by omega]; simp [IntKind.wrap, IntKind.signed, IntKind.bits]; omega
                        have q7 : (e : Int) < nl.length := by omega
                        have b0 := HPv.out e (by omega)
                        have He := hid he
                        clear he hi0
                        by_cases hcl : x ≤ y
                        · have t6 : decide (x ≤ y) = true := by simpa using hcl
                          have e1 : (!(decide (y < x) && decide (x < hi))) = true := by
                            have : ¬ y < x := by omega
                            simp [this]
                          have He1 := hid e1
                          clear e1
                          go_wp2_with (at_builtin; refine stopAt ?_; intro q hq)
                          go_quiet (fail)
                          go_wp2_with (at_builtin; refine stopAt ?_; intro q hq)
                          go_meet
                          exact ⟨by rw [He1.out], hid ((Keep.refl _ _).drewN _)⟩
                        · have t6 : decide (x ≤ y) = false := by simpa using hcl
                          have e1 : (!(decide (y < x) && decide (x < hi))) = false := by simp; omega
                          have He1 := hid e1
                          clear e1
                          go_wp2_with (at_builtin; refine stopAt ?_; intro q hq)
                          go_quiet (fail)
                          go_wp2_with (at_builtin; refine stopAt ?_; intro q hq)
                          go_meet
                          exact ⟨by rw [He1.out], hid ((Keep.refl _ _).drewN _)⟩
                case rest =>
                  obtain ⟨rfl, HY⟩ := hcut
                  obtain ⟨B, hB⟩ : ∃ B, B = (decide (y < x) && decide (x < hi)) := ⟨_, rfl⟩
                  rw [← hB]
                  have HB := hid hB
                  clear hB
                  cases B with
                  | true =>
                    go_wp2_with (at_builtin; refine stopAt ?_; intro q hq)
                    exact ⟨⟨k + 1, by omega, by go_num, hid ⟨HI.out.1.next HY.out (fun _ _ x => x) (fun _ _ x => x), by rw [HI.out.2.1, ← HQ.out.2.1, HQ.out.1, ← HB.out]; rfl, by have := HB.out; have := HQ.out.2.2.1; rw [HQ.out.2.2.2.2]; simp at *; omega, fun _ => by have h1 := HB.out; have h2 := HQ.out.2.2.1; rw [HQ.out.2.2.2.2]; simp at h1; omega⟩⟩, by simp [intOf]; omega⟩
                  | false =>
                    go_wp2_with (at_builtin; refine stopAt ?_; intro q hq)
                    go_ret
                    refine ⟨?_, ?_⟩
                    · rw [HE.out, Hff.out, HK.out.2.1, ← HS.out.2.1, HS.out.1, HI.out.2.1, ← HQ.out.2.1, HQ.out.1, ← HB.out]
                      simp
                    · exact HK.out.1.next ((H2.out.2).next (HI.out.1.next HY.out (fun _ _ x => x) (fun _ _ x => x)) (fun _ _ x => x) (fun _ _ x => x)) (fun _ _ x => x) (fun _ _ x => x)
              · have h5 : decide ((k : Int) < nl.length) = false := by simp; omega
                go_wp2_with (at_builtin; refine stopAt ?_; intro q hq)
                exact ⟨⟨i + 1, by omega, by go_num, hid ⟨HK.out.1.next ((H2.out.2).next HI.out.1 (fun _ _ x => x) (fun _ _ x => x)) (fun _ _ x => x) (fun _ _ x => x), by rw [HK.out.2.1, ← HS.out.2.1, HS.out.1, HI.out.2.1, List.drop_eq_nil_of_le (by omega)]; have := Hlt.out; simp [rising, this], fun _ => by rw [HS.out.2.2]; exact Hch0.out⟩⟩, by simp [intOf]; omega⟩
          · have t5 : (!decide (lc < ch)) = true := by simpa using hlt
            rw [t5]
            have Hlt := hid hlt
            clear hlt t5
            go_wp2_with (at_builtin; refine stopAt ?_; intro q hq)
            go_ret
            refine ⟨?_, ?_⟩
            · rw [HE.out, Hff.out, HK.out.2.1, ← HS.out.2.1, HS.out.1]
              rw [show decide (lc < ch) = false by simpa using Hlt.out]
              rfl
            · exact HK.out.1.next ((H2.out.2).next HX.out (fun _ _ x => x) (fun _ _ x => x)) (fun _ _ x => x) (fun _ _ x => x)
      · have h4 : decide ((i : Int) < m) = false := by simp; omega
        go_wp2_with (at_builtin; refine stopAt ?_; intro q hq)
        go_ret
        refine ⟨?_, HK.out.1⟩
        rw [HE.out, Hff.out, HK.out.2.1, List.drop_eq_nil_of_le (by have := HM.out; omega)]
        rfl
  · have t0 : (256 : Int) < (m : Int) := by omega
    go_wp2_with (at_builtin; refine stopAt ?_; intro q hq)
    go_ret
    refine ⟨?_, Keep.refl _ _⟩
    rw [HE.out, show formed ps hi = false by unfold formed; rw [← HM.out]; simp [h256]]
    rfl
end Go.Proofs.Ytmdonjadhkffiaa
/- Heal: the program's formed and Check. Conditions: as each law names them. -/
namespace Go.Proofs.Ytmdonjadhkffiaa
open Go.RowKit
open HE

set_option maxRecDepth 20000 in
set_option maxHeartbeats 2000000 in
theorem formed_any (w : World) (v : Value) (ps : List Pl) (hi : Int) (h : PlsV w v ps) (_hhi : I64 hi) :
    Calls Try.prog 35 #[v, .int .i64 hi] w fun e w' => e = .returned (.bool (formed ps hi)) ∧ Keep (fun _ => False) w w' := by
  obtain ⟨ao, c, rfl, hm, hc⟩ := h
  obtain ⟨m, hmm⟩ : ∃ m, m = ps.length := ⟨_, rfl⟩
  have HC := hid hc
  have HM := hid hmm
  obtain ⟨E, hE⟩ : ∃ E, E = formed ps hi := ⟨_, rfl⟩
  rw [← hE]
  have HE : Hid (E = (decide (m ≤ 256) && formedFrom (-1) hi ps)) := hid (by rw [hE, hmm]; rfl)
  rw [← hmm] at hm ⊢
  have hm63 : (m : Int) ≤ 9223372036854775807 := by unfold maxLen at hm; omega
  unfold I64 at _hhi
  clear hc hmm hE
  go_enter Try.func35, Try.ntmps35
  go_wp2_with (at_builtin; refine stopAt ?_; intro q hq)
  go_loopw [13, 5] (fun iv cv wr => ∃ i : Nat, i ≤ m ∧ iv = .int .i64 i ∧ cv = .int .i64 (lastC ps i) ∧ Hid (Keep (fun _ => False) w wr ∧ formedFrom (-1) hi ps = formedFrom (lastC ps i) hi (ps.drop i))) (fun iv _ _ => m - (intOf iv).toNat)
  case atStart => exact ⟨0, Nat.zero_le _, rfl, rfl, hid ⟨Keep.refl _ _, rfl⟩⟩
  case round =>
    obtain ⟨i, hi', rfl, rfl, HK⟩ := hrel
    by_cases hin : i < m
    · have h4 : (i : Int) < m := by omega
      have hil : i < ps.length := by rw [← HM.out]; exact hin
      obtain ⟨ad, rfl, hcell⟩ := HC.out (by omega)
      obtain ⟨nv, g1, g2, g3, g4⟩ := hcell i hil
      have a0 := cell_old HK.out.1 _ _ g1
      have a1 := cell_old HK.out.1 _ _ g2
      have hst := formed_drop (hi := hi) hil
      have HG := hid (g3.keep HK.out.1)
      obtain ⟨nl, hnl⟩ : ∃ nl, nl = ps[i].nodes := ⟨_, rfl⟩
      obtain ⟨ch, hch⟩ : ∃ ch, ch = ps[i].chunk := ⟨_, rfl⟩
      obtain ⟨lc, hlc⟩ : ∃ lc, lc = lastC ps i := ⟨_, rfl⟩
      rw [← hnl] at HG hst
      rw [← hch] at a0 hst
      rw [← hlc] at hst ⊢
      have HS := hid (And.intro hst (And.intro hlc (show lastC ps (i + 1) = ch by unfold lastC; simp [chunkAt, hil, hch])))
      obtain ⟨an, cn, hnv, hnm, hnz, hnc⟩ := HG.out
      subst hnv
      have hnn63 : (nl.length : Int) ≤ 9223372036854775807 := by unfold maxLen at hnm; omega
      have HNc := hid hnc
      clear hcell g1 g2 g3 g4 hst hnl hch hlc hnz hnc
      have hk2 : Keep (fun _ => False) wr (wr.alloc (.cells #[.int .i64 ch, .slice an nl.length cn] 44)) := (Keep.refl _ _).alloc _
      have hn2 := heap_alloc_new wr (.cells #[.int .i64 ch, .slice an nl.length cn] 44)
      go_upto_region 6 with fail
      obtain ⟨gp, hgp⟩ : ∃ gp, gp = wr.heap.size := ⟨_, rfl⟩
      obtain ⟨w2, hw2⟩ : ∃ w2, w2 = wr.alloc (.cells #[.int .i64 ch, .slice an nl.length cn] 44) := ⟨_, rfl⟩
      rw [← hw2] at hk2
      rw [← hw2, ← hgp] at hn2
      rw [← hw2, ← hgp]
      have H2 := hid (And.intro hn2 hk2)
      clear hw2 hgp a0 a1
      obtain ⟨k0, k1, kf, kb⟩ := cells2' hn2
      clear hn2 hk2
      go_wp2_with (at_builtin; refine stopAt ?_; intro q hq)
      go_loopw [20, 8] (fun jv lv wy => ∃ k : Nat, k ≤ nl.length ∧ jv = .int .i64 k ∧ lv = .int .i64 (lastN nl k) ∧ Hid (Keep (fun _ => False) w2 wy ∧ rising (-1) hi nl = rising (lastN nl k) hi (nl.drop k))) (fun jv _ _ => nl.length - (intOf jv).toNat)
      case atStart => exact ⟨0, Nat.zero_le _, rfl, rfl, hid ⟨Keep.refl _ _, rfl⟩⟩
      case round =>
        obtain ⟨k, hk, rfl, rfl, HI⟩ := hrel
        have q0 := cell_old HI.out.1 _ _ k0
        by_cases hkn : k < nl.length
        · have h5 : (k : Int) < nl.length := by omega
          obtain ⟨adn, rfl, hcell⟩ := HNc.out (by omega)
          obtain ⟨x, hx⟩ : ∃ x, x = nl[k] := ⟨_, rfl⟩
          obtain ⟨y, hy⟩ : ∃ y, y = lastN nl k := ⟨_, rfl⟩
          have hwy := (H2.out.2).next HI.out.1 (fun _ _ x => x) (fun _ _ x => x)
          have p1 := cell_old hwy _ _ (hcell k hkn)
          rw [← hx] at p1
          have hst := rising_drop (hi := hi) hkn
          rw [← hx, ← hy] at hst
          rw [← hy]
          have hnext : lastN nl (k + 1) = x := by rw [hx]; unfold lastN; simp [hkn]
          have HQ := hid (And.intro hst (And.intro hy hnext))
          clear hcell hst hx hy hnext hwy
          by_cases hcl : x ≤ y
          · have t6 : decide (x ≤ y) = true := by simpa using hcl
            have Ht := hid hcl
            clear hcl
            go_wp2_with (at_builtin; refine stopAt ?_; intro q hq)
            go_ret
            refine ⟨?_, HK.out.1.next ((H2.out.2).next HI.out.1 (fun _ _ x => x) (fun _ _ x => x)) (fun _ _ x => x) (fun _ _ x => x)⟩
            rw [HE.out, HK.out.2, ← HS.out.2.1, HS.out.1, HI.out.2, ← HQ.out.2.1, HQ.out.1, show decide (y < x) = false by have := Ht.out; simp; omega]
            simp
          · have t6 : decide (x ≤ y) = false := by simpa using hcl
            by_cases hh : hi ≤ x
            · have t7 : decide (hi ≤ x) = true := by simpa using hh
              have Ht := hid hh
              clear hh hcl
              go_wp2_with (at_builtin; refine stopAt ?_; intro q hq)
              go_ret
              refine ⟨?_, HK.out.1.next ((H2.out.2).next HI.out.1 (fun _ _ x => x) (fun _ _ x => x)) (fun _ _ x => x) (fun _ _ x => x)⟩
              rw [HE.out, HK.out.2, ← HS.out.2.1, HS.out.1, HI.out.2, ← HQ.out.2.1, HQ.out.1, show decide (x < hi) = false by have := Ht.out; simp; omega]
              simp
            · have t7 : decide (hi ≤ x) = false := by simpa using hh
              have Ht := hid (And.intro hcl hh)
              clear hh hcl
              go_wp2_with (at_builtin; refine stopAt ?_; intro q hq)
              exact ⟨⟨k + 1, by omega, by go_num, by rw [HQ.out.2.2], hid ⟨HI.out.1, by rw [HI.out.2, ← HQ.out.2.1, HQ.out.1, show decide (y < x) = true by have := Ht.out.1; simp; omega, show decide (x < hi) = true by have := Ht.out.2; simp; omega]; rfl⟩⟩, by simp [intOf]; omega⟩
        · have h5 : decide ((k : Int) < nl.length) = false := by simp; omega
          have hr : rising (-1) hi nl = true := by rw [HI.out.2, List.drop_eq_nil_of_le (by omega)]; rfl
          have HR := hid hr
          clear hr
          by_cases hcl : ch ≤ lc
          · have t6 : decide (ch ≤ lc) = true := by simpa using hcl
            have Ht := hid hcl
            clear hcl
            go_wp2_with (at_builtin; refine stopAt ?_; intro q hq)
            go_ret
            refine ⟨?_, HK.out.1.next ((H2.out.2).next HI.out.1 (fun _ _ x => x) (fun _ _ x => x)) (fun _ _ x => x) (fun _ _ x => x)⟩
            rw [HE.out, HK.out.2, ← HS.out.2.1, HS.out.1, show decide (lc < ch) = false by have := Ht.out; simp; omega]
            simp
          · have t6 : decide (ch ≤ lc) = false := by simpa using hcl
            have Ht := hid hcl
            clear hcl
            go_wp2_with (at_builtin; refine stopAt ?_; intro q hq)
            exact ⟨⟨i + 1, by omega, by go_num, by rw [HS.out.2.2], hid ⟨HK.out.1.next ((H2.out.2).next HI.out.1 (fun _ _ x => x) (fun _ _ x => x)) (fun _ _ x => x) (fun _ _ x => x), by rw [HK.out.2, ← HS.out.2.1, HS.out.1, HR.out, show decide (lc < ch) = true by have := Ht.out; simp; omega]; rfl⟩⟩, by simp [intOf]; omega⟩
    · have h4 : decide ((i : Int) < m) = false := by simp; omega
      obtain ⟨B, hB⟩ : ∃ B, B = decide (m ≤ 256) := ⟨_, rfl⟩
      have t8 : decide ((m : Int) ≤ 256) = B := by rw [hB]; simp; omega
      have HB := hid hB
      clear hB
      go_wp2_with (at_builtin; refine stopAt ?_; intro q hq)
      go_ret
      refine ⟨?_, HK.out.1⟩
      rw [HE.out, HK.out.2, List.drop_eq_nil_of_le (by have := HM.out; omega), ← HB.out]
      simp [formedFrom]
end Go.Proofs.Ytmdonjadhkffiaa
/- Heal: slices.IndexFunc, ContainsFunc at numbers; Check. Conditions: as each law names them. -/
namespace Go.Proofs.Ytmdonjadhkffiaa
open Go.RowKit
open HE

/-- Where the first one is that is so; -1: none is. -/
def idx (p : Int → Bool) (l : List Int) : Int := if l.any p then l.findIdx p else -1

theorem idx_hit {p : Int → Bool} {l : List Int} {k : Nat} (hk : k < l.length) (hp : p l[k] = true) (hn : ∀ j (h : j < l.length), j < k → p l[j] = false) : idx p l = k := by
  unfold idx
  rw [if_pos (List.any_eq_true.2 ⟨l[k], List.getElem_mem hk, hp⟩)]
  congr 1
  apply (List.findIdx_eq hk).2
  exact ⟨hp, fun j hj => hn j (by omega) hj⟩
theorem idx_miss {p : Int → Bool} {l : List Int} (hn : ∀ j (h : j < l.length), p l[j] = false) : idx p l = -1 := by
  unfold idx
  rw [if_neg]
  rw [List.any_eq_true]
  rintro ⟨x, hx, hpx⟩
  obtain ⟨j, hj, rfl⟩ := List.getElem_of_mem hx
  rw [hn j hj] at hpx
  cases hpx
theorem idx_ge {p : Int → Bool} {l : List Int} : decide (0 ≤ idx p l) = l.any p := by
  unfold idx
  cases l.any p
  · simp
  · simp
theorem idx_spec {p : Int → Bool} {l : List Int} (h : l.any p = true) : ∃ k, ∃ hk : k < l.length, idx p l = k ∧ p l[k] = true ∧ l.find? p = some l[k] := by
  unfold idx
  rw [if_pos h]
  have hlt : l.findIdx p < l.length := List.findIdx_lt_length.2 (List.any_eq_true.1 h)
  refine ⟨l.findIdx p, hlt, rfl, List.findIdx_getElem, ?_⟩
  rw [List.find?_eq_getElem?_findIdx]
  simp [hlt]

set_option maxHeartbeats 1000000 in
set_option maxRecDepth 20000 in
/-- slices.IndexFunc at numbers: whatever is asked. -/
theorem indexFunc_any (w : World) (v : Value) (l : List Int) (h : IntsV w v l) (fn : Nat) (caps : Array Value) (p : Int → Bool)
    (hent : ∀ args w, (callFunc fn args).run Try.prog w = .ok (.enter fn args) w)
    (hcall : ∀ z ∈ l, ∀ wr, Keep (fun _ => False) w wr → Calls Try.prog fn (#[.int .i64 z] ++ caps) wr fun e w' => e = .returned (.bool (p z)) ∧ Keep (fun _ => False) wr w') :
    Calls Try.prog 60 #[v, .func (.func fn) #[] caps] w fun e w' => e = .returned (.int .i64 (idx p l)) ∧ Keep (fun _ => False) w w' := by
  obtain ⟨ao, c, rfl, hm, hz, hc⟩ := h
  obtain ⟨m, hmm⟩ : ∃ m, m = l.length := ⟨_, rfl⟩
  have HC := hid hc
  have HM := hid hmm
  have HCALL := hid hcall
  rw [← hmm] at hm ⊢
  have hm63 : (m : Int) ≤ 9223372036854775807 := by unfold maxLen at hm; omega
  clear hc hmm hz hcall
  go_enter Try.func60, Try.ntmps60
  go_wp2_with (at_builtin; refine stopAt ?_; intro q hq)
  go_loopw [8] (fun iv wr => ∃ i : Nat, i ≤ m ∧ iv = .int .i64 i ∧ Hid (Keep (fun _ => False) w wr ∧ ∀ j (h : j < l.length), j < i → p l[j] = false)) (fun iv _ => m - (intOf iv).toNat)
  case atStart => exact ⟨0, Nat.zero_le _, rfl, hid ⟨Keep.refl _ _, fun j _ h => by omega⟩⟩
  case round =>
    obtain ⟨i, hi, rfl, HK⟩ := hrel
    by_cases hin : i < m
    · have h4 : (i : Int) < m := by omega
      have hil : i < l.length := by rw [← HM.out]; exact hin
      obtain ⟨ad, rfl, hcell⟩ := HC.out (by omega)
      have a0 := cell_old HK.out.1 _ _ (hcell i hil)
      have hcl := HCALL.out l[i] (List.getElem_mem hil) wr HK.out.1
      obtain ⟨x, hx⟩ : ∃ x, x = l[i] := ⟨_, rfl⟩
      rw [← hx] at a0 hcl
      have HX := hid hx
      have HCL := hid hcl
      clear hcell hx hcl
      go_wp2_with (at_builtin; refine stopAt ?_; intro q hq)
      refine HCL.out.mono ?_
      rintro e w1 ⟨rfl, hk1⟩
      have HK1 := hid (HK.out.1.next hk1 (fun _ _ x => x) (fun _ _ x => x))
      obtain ⟨B, hB⟩ : ∃ B, B = p x := ⟨_, rfl⟩
      rw [← hB]
      have HB := hid hB
      clear hk1 hB a0
      cases B with
      | true =>
        go_wp2_with (at_builtin; refine stopAt ?_; intro q hq)
        go_ret
        refine ⟨?_, HK1.out⟩
        rw [idx_hit hil (by rw [← HX.out, ← HB.out]) HK.out.2]; rfl
      | false =>
        go_wp2_with (at_builtin; refine stopAt ?_; intro q hq)
        exact ⟨⟨i + 1, by omega, by go_num, hid ⟨HK1.out, fun j hj hji => by
          by_cases e : j = i
          · subst e
            rw [← HX.out, ← HB.out]
          · exact HK.out.2 j hj (by omega)⟩⟩, by simp [intOf]; omega⟩
    · have h4 : decide ((i : Int) < m) = false := by simp; omega
      go_wp2_with (at_builtin; refine stopAt ?_; intro q hq)
      go_ret
      exact ⟨by rw [idx_miss (fun j hj => HK.out.2 j hj (by have := HM.out; omega))]; rfl, HK.out.1⟩

set_option maxRecDepth 20000 in
/-- slices.ContainsFunc at numbers. -/
theorem containsFunc_any (w : World) (v : Value) (l : List Int) (h : IntsV w v l) (fn : Nat) (caps : Array Value) (p : Int → Bool)
    (hent : ∀ args w, (callFunc fn args).run Try.prog w = .ok (.enter fn args) w)
    (hcall : ∀ z ∈ l, ∀ wr, Keep (fun _ => False) w wr → Calls Try.prog fn (#[.int .i64 z] ++ caps) wr fun e w' => e = .returned (.bool (p z)) ∧ Keep (fun _ => False) wr w') :
    Calls Try.prog 33 #[v, .func (.func fn) #[] caps] w fun e w' => e = .returned (.bool (l.any p)) ∧ Keep (fun _ => False) w w' := by
  have hq := indexFunc_any w v l h fn caps p hent hcall
  have HQ := hid hq
  obtain ⟨r, hr⟩ : ∃ r, r = idx p l := ⟨_, rfl⟩
  rw [← hr] at HQ
  have hB : decide (0 ≤ r) = l.any p := by rw [hr]; exact idx_ge
  obtain ⟨ao, c, rfl, -⟩ := h
  clear hq hr hcall
  go_enter Try.func33, Try.ntmps33
  go_wp2_with (at_builtin; refine stopAt ?_; intro q hq)
  refine HQ.out.mono ?_
  rintro e w1 ⟨rfl, hk1⟩
  have HK := hid hk1
  clear hk1
  go_wp2_with (at_builtin; refine stopAt ?_; intro q hq)
  go_ret
  exact ⟨rfl, HK.out⟩

set_option maxRecDepth 20000 in
theorem check1_any (w : World) (z : Int) (_hz : I64 z) :
    Calls Try.prog 34 #[.int .i64 z] w fun e w' => e = .returned (.bool (!(decide (0 ≤ z ∧ z < 12)))) ∧ Keep (fun _ => False) w w' := by
  obtain ⟨E, hE⟩ : ∃ E, E = !(decide (0 ≤ z ∧ z < 12)) := ⟨_, rfl⟩
  rw [← hE]
  have HE := hid hE
  clear hE
  go_enter Try.func34, Try.ntmps34
  by_cases h1 : z < 0
  · have t1 : decide (z < 0) = true := by simpa using h1
    have H1 := hid h1
    clear h1
    go_wp2_with (at_builtin; refine stopAt ?_; intro q hq)
    go_ret
    exact ⟨by rw [HE.out]; have := H1.out; simp; omega, Keep.refl _ _⟩
  · have t1 : decide (z < 0) = false := by simpa using h1
    have H1 := hid h1
    clear h1
    by_cases h2 : 12 ≤ z
    · have t2 : decide (12 ≤ z) = true := by simpa using h2
      have H2 := hid h2
      clear h2
      go_wp2_with (at_builtin; refine stopAt ?_; intro q hq)
      go_ret
      exact ⟨by rw [HE.out]; have := H2.out; simp; omega, Keep.refl _ _⟩
    · have t2 : decide (12 ≤ z) = false := by simpa using h2
      have H2 := hid h2
      clear h2
      go_wp2_with (at_builtin; refine stopAt ?_; intro q hq)
      go_ret
      exact ⟨by rw [HE.out]; have := H1.out; have := H2.out; simp; omega, Keep.refl _ _⟩

set_option maxRecDepth 20000 in
set_option maxHeartbeats 1000000 in
theorem check_any (w : World) (v u : Value) (s : List Int) (ps : List Pl) (h : IntsV w v s) (hp : PlsV w u ps) :
    Calls Try.prog 13 #[v, u] w fun e w' => e = .returned (.int .i64 (check s ps : Nat)) ∧ Keep (fun _ => False) w w' := by
  have hq := containsFunc_any w v s h 34 #[] (fun z => !(decide (0 ≤ z ∧ z < 12)))
    (enters_of Try.func34 (by kernel_rfl) rfl) (fun z hz wr _ => check1_any wr z (by obtain ⟨_, _, _, _, h1, _⟩ := h; exact h1 z hz))
  have HQ := hid hq
  have HP := hid hp
  obtain ⟨B, hB⟩ : ∃ B, B = s.any (fun z => !(decide (0 ≤ z ∧ z < 12))) := ⟨_, rfl⟩
  rw [← hB] at HQ
  have hall : (s.all fun x => decide (0 ≤ x ∧ x < 12)) = !B := by
    rw [hB, List.any_eq_not_all_not]
    simp
  obtain ⟨E, hE⟩ : ∃ E, E = check s ps := ⟨_, rfl⟩
  rw [← hE]
  obtain ⟨ao, c, rfl, hm, hz, -⟩ := h
  obtain ⟨au, cu, hu, hmu, -⟩ := id hp
  subst hu
  obtain ⟨m, hmm⟩ : ∃ m, m = s.length := ⟨_, rfl⟩
  rw [← hmm] at HQ hm ⊢
  have hm63 : (m : Int) ≤ 9223372036854775807 := by unfold maxLen at hm; omega
  have hE2 : E = if (decide (1 ≤ m ∧ m ≤ 12) && !B) then (if formed ps m then 0 else 160) else 2 := by
    rw [hE, hmm, ← hall]; rfl
  have HE := hid hE2
  clear hq hE hE2 hall hz hB hp hmm
  go_enter Try.func13, Try.ntmps13
  go_wp2_with (at_builtin; refine stopAt ?_; intro q hq)
  refine HQ.out.mono ?_
  rintro e w1 ⟨rfl, hk1⟩
  have HK := hid hk1
  have HF := hid (formed_any w1 _ ps m (HP.out.keep hk1) (by unfold I64; omega))
  clear hk1
  cases B with
  | true =>
    go_wp2_with (at_builtin; refine stopAt ?_; intro q hq)
    go_ret
    exact ⟨by rw [HE.out]; simp, HK.out⟩
  | false =>
    by_cases h1 : m < 1
    · have t1 : (m : Int) < 1 := by omega
      have H1 := hid h1
      clear h1
      go_wp2_with (at_builtin; refine stopAt ?_; intro q hq)
      go_ret
      exact ⟨by rw [HE.out, if_neg (by have := H1.out; simp; omega)]; rfl, HK.out⟩
    · have t1 : decide ((m : Int) < 1) = false := by simp; omega
      have H1 := hid h1
      by_cases h2 : 12 < m
      · have t2 : (12 : Int) < (m : Int) := by omega
        have H2 := hid h2
        clear h2 h1
        go_wp2_with (at_builtin; refine stopAt ?_; intro q hq)
        go_ret
        exact ⟨by rw [HE.out, if_neg (by have := H2.out; simp; omega)]; rfl, HK.out⟩
      · have t2 : decide ((12 : Int) < (m : Int)) = false := by simp; omega
        have H2 := hid h2
        clear h2 h1
        go_wp2_with (at_builtin; refine stopAt ?_; intro q hq)
        refine HF.out.mono ?_
        rintro e w2 ⟨rfl, hk2⟩
        have HK2 := hid (HK.out.next hk2 (fun _ _ x => x) (fun _ _ x => x))
        have hif : (decide (1 ≤ m ∧ m ≤ 12) && !false) = true := by have := H1.out; have := H2.out; simp; omega
        have HI := hid hif
        obtain ⟨F, hF⟩ : ∃ F, F = formed ps m := ⟨_, rfl⟩
        rw [← hF] at HE ⊢
        clear hk2 hif hF
        cases F with
        | true =>
          go_wp2_with (at_builtin; refine stopAt ?_; intro q hq)
          go_ret
          exact ⟨by rw [HE.out, if_pos HI.out]; rfl, HK2.out⟩
        | false =>
          go_wp2_with (at_builtin; refine stopAt ?_; intro q hq)
          go_ret
          exact ⟨by rw [HE.out, if_pos HI.out]; rfl, HK2.out⟩
end Go.Proofs.Ytmdonjadhkffiaa
/- Heal: the program's work, read: is, on, source. Conditions: as each law names them. -/
namespace Go.Proofs.Ytmdonjadhkffiaa
open Go.RowKit
open HE

/-- What a plan looks at, as it may be read. -/
structure WorkV (w : World) (b : Nat) (s : List Int) (up : Nat) (ld : List Int) : Prop where
  ex : ∃ sv lv, w.cell? ⟨b, 0, none⟩ = some sv ∧ w.cell? ⟨b, 1, none⟩ = some (.int .u32 (up : Int)) ∧ w.cell? ⟨b, 2, none⟩ = some lv ∧ IntsV w sv s ∧ IntsV w lv ld
  up32 : up < 4294967296
  len : s.length ≤ 12
  lens : ld.length = s.length
theorem WorkV.keep {w w' : World} {b : Nat} {s ld : List Int} {up : Nat} (h : WorkV w b s up ld) (hk : Keep (fun _ => False) w w') : WorkV w' b s up ld := by
  obtain ⟨sv, lv, h1, h2, h3, h4, h5⟩ := h.ex
  exact ⟨⟨sv, lv, cell_old hk _ _ h1, cell_old hk _ _ h2, cell_old hk _ _ h3, h4.keep hk, h5.keep hk⟩, h.up32, h.len, h.lens⟩

theorem isUp_and (up : Nat) (n : Int) (hu : up < 4294967296) : (bits .and .u32 ((up : Int) / 2 ^ n.toNat) 1 == 1) = isUp up n := by
  obtain ⟨x, hx⟩ : ∃ x, x = up / 2 ^ n.toNat := ⟨_, rfl⟩
  have hxu : x < 4294967296 := Nat.lt_of_le_of_lt (by rw [hx]; exact Nat.div_le_self _ _) hu
  have e1 : ((up : Int) / 2 ^ n.toNat) = (x : Int) := by
    rw [hx, Int.natCast_ediv, Int.natCast_pow]
    rfl
  have e2 := u32_and_nat x 1 hxu (by decide)
  rw [Nat.and_one_is_mod] at e2
  rw [e1, show (1 : Int) = ((1 : Nat) : Int) from rfl, e2]
  unfold isUp
  rw [← hx]
  apply Bool.eq_iff_iff.2
  rw [beq_iff_eq, beq_iff_eq]
  omega

set_option maxRecDepth 20000 in
theorem is_any (w : World) (b : Nat) (s ld : List Int) (up : Nat) (n : Int) (h : WorkV w b s up ld) (h0 : 0 ≤ n) (h1 : n < 12) :
    Calls Try.prog 62 #[.pointer (some ⟨b, 0, none⟩), .int .i64 n] w fun e w' => e = .returned (.bool (isUp up n)) ∧ Keep (fun _ => False) w w' := by
  obtain ⟨sv, lv, c0, c1, c2, -, -⟩ := h.ex
  have hu := h.up32
  clear h
  go_enter Try.func62, Try.ntmps62
  go_wp2_with (at_builtin; refine stopAt ?_; intro q hq)
  go_ret
  rw [← isUp_and up n hu]
  exact ⟨rfl, Keep.refl _ _⟩

theorem on_snoc (s lv : List Int) (n : Int) (i : Nat) (h : i < lv.length) : on s (lv.take (i + 1)) n = on s (lv.take i) n + (if decide (site s lv[i] = site s n) then 1 else 0) := by
  rw [List.take_add_one, List.getElem?_eq_getElem h, Option.toList_some]
  unfold on
  rw [List.countP_append]
  by_cases hy : site s lv[i] = site s n <;> simp [hy]

set_option maxHeartbeats 1000000 in
set_option maxRecDepth 20000 in
theorem won_any (w : World) (b : Nat) (v : Value) (s l ld : List Int) (up : Nat) (n : Int) (h : WorkV w b s up ld) (hv : IntsV w v l) (hr : ∀ x ∈ l, 0 ≤ x ∧ x < s.length) (hn : 0 ≤ n ∧ n < s.length) :
    Calls Try.prog 46 #[.pointer (some ⟨b, 0, none⟩), v, .int .i64 n] w fun e w' => e = .returned (.int .i64 (on s l n : Int)) ∧ Keep (fun _ => False) w w' := by
  obtain ⟨ao, c, rfl, hm, hz, hc⟩ := hv
  obtain ⟨sv, lv, c0, c1, c2, hs, -⟩ := h.ex
  obtain ⟨aS, cS, rfl, hms, hzs, hcs⟩ := hs
  have hs12 := h.len
  obtain ⟨ads, rfl, hcells⟩ := hcs (by omega)
  obtain ⟨m, hmm⟩ : ∃ m, m = l.length := ⟨_, rfl⟩
  obtain ⟨N, hN⟩ : ∃ N, N = s.length := ⟨_, rfl⟩
  have HC := hid hc
  have HCs := hid hcells
  have HM := hid (And.intro hmm hN)
  rw [← hmm] at hm ⊢
  rw [← hN] at hs12 c0
  have hm63 : (m : Int) ≤ 9223372036854775807 := by unfold maxLen at hm; omega
  have HR := hid hr
  have hn' := hn
  rw [← hN] at hn'
  obtain ⟨nt, hnt⟩ : ∃ nt : Nat, nt = n.toNat := ⟨_, rfl⟩
  have hnI : n = (nt : Int) := by omega
  have Hn := hid (And.intro hn hnt)
  subst hnI
  have hntN : nt < N := by omega
  clear hc hmm hz hcs hr hzs hms hN hcells hn hn' hnt h c1 c2
  go_enter Try.func46, Try.ntmps46
  go_wp2_with (at_builtin; refine stopAt ?_; intro q hq)
  go_loopw [7, 12] (fun kv iv wr => ∃ i k : Nat, i ≤ m ∧ k ≤ i ∧ kv = .int .i64 k ∧ iv = .int .i64 i ∧ Hid (Keep (fun _ => False) w wr ∧ k = on s (l.take i) (nt : Int))) (fun _ iv _ => m - (intOf iv).toNat)
  case atStart => exact ⟨0, 0, Nat.zero_le _, Nat.le_refl _, rfl, rfl, hid ⟨Keep.refl _ _, rfl⟩⟩
  case round =>
    obtain ⟨i, k, hi, hki, rfl, rfl, HK⟩ := hrel
    by_cases hin : i < m
    · have h4 : (i : Int) < m := by omega
      have hil : i < l.length := by rw [← HM.out.1]; exact hin
      obtain ⟨ad, rfl, hcell⟩ := HC.out (by omega)
      have d0 := cell_old HK.out.1 _ _ c0
      have a0 := cell_old HK.out.1 _ _ (hcell i hil)
      have hb := HR.out _ (List.getElem_mem hil)
      have hst := on_snoc s l (nt : Int) i hil
      obtain ⟨q, hq⟩ : ∃ q, q = l[i] := ⟨_, rfl⟩
      rw [← hq] at a0 hb hst
      rw [← HM.out.2] at hb
      obtain ⟨qt, hqt⟩ : ∃ qt : Nat, (qt : Int) = q := ⟨q.toNat, by omega⟩
      subst hqt
      have b0 := site_cell HK.out.1 HCs.out (qt : Int) (by omega) (by have := HM.out.2; omega)
      have b1 := site_cell HK.out.1 HCs.out (nt : Int) (by omega) (by have := HM.out.2; omega)
      rw [Int.toNat_natCast] at b0 b1
      have hqN : (qt : Int) < N := by omega
      have hnN : (nt : Int) < N := by omega
      obtain ⟨sq', hsq⟩ : ∃ z, z = site s (qt : Int) := ⟨_, rfl⟩
      obtain ⟨sn, hsn⟩ : ∃ z, z = site s (nt : Int) := ⟨_, rfl⟩
      rw [← hsq] at b0 hst
      rw [← hsn] at b1
      have hst2 : on s (l.take (i + 1)) (nt : Int) = on s (l.take i) (nt : Int) + (if decide (sq' = sn) then 1 else 0) := by rw [hst, ← hsn]
      have HS := hid hst2
      clear hq hcell hst hst2 hsq hsn
      by_cases hss : sq' = sn
      · have t1 : decide (sq' = sn) = true := by simpa using hss
        have t2 : (sq' == sn) = true := by simpa using hss
        have Hss := hid hss
        clear hss
        go_wp2_with (at_builtin; refine stopAt ?_; intro q hq)
        go_quiet (fail)
        go_wp2_with (at_builtin; refine stopAt ?_; intro q hq)
        exact ⟨⟨i + 1, k + 1, by omega, by omega, by go_num, by go_num, hid ⟨HK.out.1.drewN _, by rw [HS.out, HK.out.2, t1]; simp⟩⟩, by simp [intOf]; omega⟩
      · have t1 : decide (sq' = sn) = false := by simpa using hss
        have t2 : (sq' == sn) = false := by simpa using hss
        have Hss := hid hss
        clear hss
        go_wp2_with (at_builtin; refine stopAt ?_; intro q hq)
        go_quiet (fail)
        go_wp2_with (at_builtin; refine stopAt ?_; intro q hq)
        exact ⟨⟨i + 1, k, by omega, by omega, by go_num, by go_num, hid ⟨HK.out.1.drewN _, by rw [HS.out, HK.out.2, t1]; simp⟩⟩, by simp [intOf]; omega⟩
    · have h4 : decide ((i : Int) < m) = false := by simp; omega
      go_wp2_with (at_builtin; refine stopAt ?_; intro q hq)
      go_ret
      rw [HK.out.2, List.take_of_length_le (by have := HM.out.1; omega)]
      exact ⟨rfl, HK.out.1⟩
end Go.Proofs.Ytmdonjadhkffiaa
/- Heal: from where a copy is made. Conditions: as each law names them. -/
namespace Go.Proofs.Ytmdonjadhkffiaa
open Go.RowKit
open HE

theorem site_cell' {w w' : World} {v : Value} {s : List Int} (h : IntsV w v s) (hk : Keep (fun _ => False) w w') (n : Nat) (h1 : n < s.length) : ∃ ad c, v = .slice (some ad) s.length c ∧ w'.cell? (ad.add n) = some (.int .i64 (site s (n : Int))) := by
  obtain ⟨ao, c, rfl, _, _, hc⟩ := h
  obtain ⟨ad, rfl, hcell⟩ := hc (by omega)
  refine ⟨ad, c, rfl, ?_⟩
  rw [cell_old hk _ _ (hcell n h1)]
  unfold site
  simp [h1]

set_option maxHeartbeats 1000000 in
set_option maxRecDepth 20000 in
theorem source1_any (w : World) (b c1 c2 : Nat) (s ld : List Int) (up : Nat) (z t : Int) (h : WorkV w b s up ld) (hz : 0 ≤ z ∧ z < s.length) (ht : 0 ≤ t ∧ t < s.length)
    (h1 : w.cell? ⟨c1, 0, none⟩ = some (.pointer (some ⟨b, 0, none⟩))) (h2 : w.cell? ⟨c2, 0, none⟩ = some (.int .i64 t)) :
    Calls Try.prog 65 #[.int .i64 z, .pointer (some ⟨c1, 0, none⟩), .pointer (some ⟨c2, 0, none⟩)] w fun e w' => e = .returned (.bool (decide (site s z = site s t))) ∧ Keep (fun _ => False) w w' := by
  obtain ⟨sv, lv, d0, -, -, hs, -⟩ := h.ex
  have hs12 := h.len
  obtain ⟨zn, hzn⟩ : ∃ k : Nat, (k : Int) = z := ⟨z.toNat, by omega⟩
  obtain ⟨tn, htn⟩ : ∃ k : Nat, (k : Int) = t := ⟨t.toNat, by omega⟩
  subst hzn
  subst htn
  obtain ⟨ads, cS, rfl, b0⟩ := site_cell' hs (Keep.refl _ _) zn (by omega)
  obtain ⟨_, _, he, b1⟩ := site_cell' hs (Keep.refl _ _) tn (by omega)
  cases he
  obtain ⟨N, hN⟩ : ∃ N, N = s.length := ⟨_, rfl⟩
  rw [← hN] at d0 hs12
  have q1 : (zn : Int) < N := by omega
  have q2 : (tn : Int) < N := by omega
  obtain ⟨x, hx⟩ : ∃ x, x = site s (zn : Int) := ⟨_, rfl⟩
  obtain ⟨y, hy⟩ : ∃ y, y = site s (tn : Int) := ⟨_, rfl⟩
  rw [← hx] at b0 ⊢
  rw [← hy] at b1 ⊢
  clear hz ht hs h hN hx hy
  by_cases hss : x = y
  · have t1 : decide (x = y) = true := by simpa using hss
    have t2 : (x == y) = true := by simpa using hss
    rw [t1]
    clear hss t1
    go_enter Try.func65, Try.ntmps65
    go_wp2_with (at_builtin; refine stopAt ?_; intro q hq)
    go_quiet (fail)
    go_wp2_with (at_builtin; refine stopAt ?_; intro q hq)
    go_ret
    exact ⟨rfl, (Keep.refl _ _).drewN _⟩
  · have t1 : decide (x = y) = false := by simpa using hss
    have t2 : (x == y) = false := by simpa using hss
    rw [t1]
    clear hss t1
    go_enter Try.func65, Try.ntmps65
    go_wp2_with (at_builtin; refine stopAt ?_; intro q hq)
    go_quiet (fail)
    go_wp2_with (at_builtin; refine stopAt ?_; intro q hq)
    go_ret
    exact ⟨rfl, (Keep.refl _ _).drewN _⟩

set_option maxHeartbeats 1000000 in
set_option maxRecDepth 20000 in
theorem source_any (w : World) (b : Nat) (v : Value) (s l ld : List Int) (up : Nat) (t : Int) (h : WorkV w b s up ld) (hv : IntsV w v l) (hr : ∀ x ∈ l, 0 ≤ x ∧ x < s.length) (ht : 0 ≤ t ∧ t < s.length) (hl : 0 < l.length) :
    Calls Try.prog 40 #[.pointer (some ⟨b, 0, none⟩), v, .int .i64 t] w fun e w' => e = .returned (.int .i64 (source s l t)) ∧ Keep (fun _ => False) w w' := by
  obtain ⟨P, hP⟩ : ∃ P : Int → Bool, P = fun n => decide (site s n = site s t) := ⟨_, rfl⟩
  have hsrc : source s l t = (l.find? P).getD (l.headD 0) := by rw [hP]; rfl
  obtain ⟨E, hE⟩ : ∃ E, E = source s l t := ⟨_, rfl⟩
  rw [← hE]
  rw [← hE] at hsrc
  have hent := enters_of Try.func65 (by kernel_rfl) rfl
  have hfun := fun (w2 : World) (c1 c2 : Nat) (hk : Keep (fun _ => False) w w2) (h1 : w2.cell? ⟨c1, 0, none⟩ = some (.pointer (some ⟨b, 0, none⟩))) (h2 : w2.cell? ⟨c2, 0, none⟩ = some (.int .i64 t)) =>
    indexFunc_any w2 v l (hv.keep hk) 65 #[.pointer (some ⟨c1, 0, none⟩), .pointer (some ⟨c2, 0, none⟩)] P hent (fun z hz wr hkr => by
      rw [hP]
      exact source1_any wr b c1 c2 s ld up z t ((h.keep hk).keep hkr) (hr z hz) ht (cell_old hkr _ _ h1) (cell_old hkr _ _ h2))
  obtain ⟨ao, c, rfl, hm, hz, hc⟩ := hv
  obtain ⟨ad, rfl, hcell⟩ := hc hl
  have HC := hid hcell
  have HF := hid hfun
  have HS := hid hsrc
  obtain ⟨m, hmm⟩ : ∃ m, m = l.length := ⟨_, rfl⟩
  rw [← hmm] at HF hm ⊢
  have HM := hid hmm
  have hm63 : (m : Int) ≤ 9223372036854775807 := by unfold maxLen at hm; omega
  have hm0 : (0 : Int) < (m : Int) := by omega
  obtain ⟨w1, hw1⟩ : ∃ w1, w1 = w.alloc (.cells #[.pointer (some ⟨b, 0, none⟩)] 64) := ⟨_, rfl⟩
  clear hc hfun hcell hE hent hz hmm hr ht h hsrc
  go_enter Try.func40, Try.ntmps40
  go_upto_region 1 with fail
  have hk1 : Keep (fun _ => False) w w1 := by rw [hw1]; exact (Keep.refl _ _).alloc _
  have hn1 := heap_alloc_new w (.cells #[.pointer (some ⟨b, 0, none⟩)] 64)
  rw [← hw1] at hn1 ⊢
  obtain ⟨w2, hw2⟩ : ∃ w2, w2 = w1.alloc (.cells #[.int .i64 t] 3) := ⟨_, rfl⟩
  have hk2 : Keep (fun _ => False) w1 w2 := by rw [hw2]; exact (Keep.refl _ _).alloc _
  have hn2 := heap_alloc_new w1 (.cells #[.int .i64 t] 3)
  rw [← hw2] at hn2 ⊢
  obtain ⟨c1, hc1⟩ : ∃ c1, c1 = w.heap.size := ⟨_, rfl⟩
  rw [← hc1] at hn1 ⊢
  have hsz : w1.heap.size = c1 + 1 := by rw [hw1, hc1]; simp
  obtain ⟨c2, hc2⟩ : ∃ c2, c2 = c1 + 1 := ⟨_, rfl⟩
  rw [hsz, ← hc2] at hn2
  rw [← hc2]
  have k1 : w1.cell? ⟨c1, 0, none⟩ = some (.pointer (some ⟨b, 0, none⟩)) := by simp [World.cell?, hn1]
  have k2 : w2.cell? ⟨c2, 0, none⟩ = some (.int .i64 t) := by simp [World.cell?, hn2]
  have hkk : Keep (fun _ => False) w w2 := hk1.next hk2 (fun _ _ x => x) (fun _ _ x => x)
  have hgo := HF.out w2 c1 c2 hkk (cell_old hk2 _ _ k1) k2
  have HG := hid hgo
  have HK := hid hkk
  clear hgo hkk k1 k2 hn1 hn2 hsz hc1 hc2 hk1 hk2 hw1 hw2 HF
  obtain ⟨r, hr⟩ : ∃ r, r = idx P l := ⟨_, rfl⟩
  rw [← hr] at HG
  have HR := hid hr
  clear hr
  go_wp2_with (at_builtin; refine stopAt ?_; intro q hq)
  refine HG.out.mono ?_
  rintro e w3 ⟨rfl, hk3⟩
  have HK3 := hid (HK.out.next hk3 (fun _ _ x => x) (fun _ _ x => x))
  clear hk3
  cases hA : l.any P with
  | true =>
    obtain ⟨k, hk, h1, h2, h3⟩ := idx_spec hA
    have hrk : r = (k : Int) := by rw [HR.out, h1]
    subst hrk
    have hkm : (k : Int) < m := by have := HM.out; omega
    have a0 := cell_old HK3.out _ _ (HC.out k hk)
    obtain ⟨x, hx⟩ : ∃ x, x = l[k] := ⟨_, rfl⟩
    rw [← hx] at a0 h3
    have HX := hid h3
    clear hA h1 h2 h3 hx
    go_wp2_with (at_builtin; refine stopAt ?_; intro q hq)
    go_ret
    exact ⟨by rw [HS.out, HX.out]; rfl, HK3.out⟩
  | false =>
    have hrk : r = -1 := by rw [HR.out]; unfold idx; simp [hA]
    subst hrk
    have a0 := cell_old HK3.out _ _ (HC.out 0 hl)
    obtain ⟨x, hx⟩ : ∃ x, x = l[0] := ⟨_, rfl⟩
    rw [← hx, show ad.add 0 = ad from rfl] at a0
    have hz : E = x := by
      rw [HS.out, show l.find? P = none by
        rw [List.find?_eq_none]
        intro y hy h
        have := List.any_eq_true.2 ⟨y, hy, h⟩
        rw [hA] at this
        cases this]
      rw [hx]
      cases l with
      | nil => simp at hl
      | cons y l => rfl
    have HZ := hid hz
    have t0 : decide ((0 : Int) ≤ -1) = false := by decide
    clear hA hx hz
    go_wp2_with (at_builtin; refine stopAt ?_; intro q hq)
    go_ret
    exact ⟨by rw [HZ.out]; rfl, HK3.out⟩
end Go.Proofs.Ytmdonjadhkffiaa
/- Heal: cmp.Compare, cmp.Or at numbers; the order of nodes. Conditions: as each law names them. -/
namespace Go.Proofs.Ytmdonjadhkffiaa
open Go.RowKit
open HE

def cmpI (a b : Int) : Int := if a < b then -1 else if b < a then 1 else 0
def orI : List Int → Int
  | [] => 0
  | x :: l => if x = 0 then orI l else x

set_option maxRecDepth 20000 in
theorem isnan_any (w : World) (a : Int) :
    Calls Try.prog 68 #[.int .i64 a] w fun e w' => e = .returned (.bool false) ∧ w' = w := by
  go_enter Try.func68, Try.ntmps68
  go_wp2_with (at_builtin; refine stopAt ?_; intro q hq)
  go_ret
  simp

set_option maxRecDepth 20000 in
theorem compare_any (w : World) (a b : Int) :
    Calls Try.prog 45 #[.int .i64 a, .int .i64 b] w fun e w' => e = .returned (.int .i64 (cmpI a b)) ∧ w' = w := by
  have h1 := fun a => isnan_any w a
  by_cases ha : a < b
  · have t1 : decide (a < b) = true := by simpa using ha
    have e : cmpI a b = -1 := by unfold cmpI; rw [if_pos ha]
    rw [e]
    clear ha e
    go_enter Try.func45, Try.ntmps45
    go_wp2_with (at_builtin; refine stopAt ?_; intro q hq)
    refine (h1 a).mono ?_
    rintro e w1 ⟨rfl, rfl⟩
    go_wp2_with (at_builtin; refine stopAt ?_; intro q hq)
    refine (h1 b).mono ?_
    rintro e w1 ⟨rfl, rfl⟩
    go_wp2_with (at_builtin; refine stopAt ?_; intro q hq)
    go_ret
    exact ⟨rfl, rfl⟩
  · have t1 : decide (a < b) = false := by simpa using ha
    by_cases hb : b < a
    · have t2 : decide (b < a) = true := by simpa using hb
      have e : cmpI a b = 1 := by unfold cmpI; rw [if_neg ha, if_pos hb]
      rw [e]
      clear ha hb e
      go_enter Try.func45, Try.ntmps45
      go_wp2_with (at_builtin; refine stopAt ?_; intro q hq)
      refine (h1 a).mono ?_
      rintro e w1 ⟨rfl, rfl⟩
      go_wp2_with (at_builtin; refine stopAt ?_; intro q hq)
      refine (h1 b).mono ?_
      rintro e w1 ⟨rfl, rfl⟩
      go_wp2_with (at_builtin; refine stopAt ?_; intro q hq)
      go_ret
      exact ⟨rfl, rfl⟩
    · have t2 : decide (b < a) = false := by simpa using hb
      have e : cmpI a b = 0 := by unfold cmpI; rw [if_neg ha, if_neg hb]
      rw [e]
      clear ha hb e
      go_enter Try.func45, Try.ntmps45
      go_wp2_with (at_builtin; refine stopAt ?_; intro q hq)
      refine (h1 a).mono ?_
      rintro e w1 ⟨rfl, rfl⟩
      go_wp2_with (at_builtin; refine stopAt ?_; intro q hq)
      refine (h1 b).mono ?_
      rintro e w1 ⟨rfl, rfl⟩
      go_wp2_with (at_builtin; refine stopAt ?_; intro q hq)
      go_ret
      exact ⟨rfl, rfl⟩

set_option maxRecDepth 20000 in
theorem or_any (w : World) (v : Value) (l : List Int) (h : IntsV w v l) :
    Calls Try.prog 44 #[v] w fun e w' => e = .returned (.int .i64 (orI l)) ∧ Keep (fun _ => False) w w' := by
  obtain ⟨ao, c, rfl, hm, hz, hc⟩ := h
  obtain ⟨m, hmm⟩ : ∃ m, m = l.length := ⟨_, rfl⟩
  have HC := hid hc
  have HM := hid hmm
  obtain ⟨E, hE⟩ : ∃ E, E = orI l := ⟨_, rfl⟩
  rw [← hE]
  have HE := hid hE
  rw [← hmm] at hm ⊢
  have hm63 : (m : Int) ≤ 9223372036854775807 := by unfold maxLen at hm; omega
  clear hc hmm hz hE
  go_enter Try.func44, Try.ntmps44
  go_wp2_with (at_builtin; refine stopAt ?_; intro q hq)
  go_loopw [8] (fun iv wr => ∃ i : Nat, i ≤ m ∧ iv = .int .i64 i ∧ Hid (Keep (fun _ => False) w wr ∧ orI l = orI (l.drop i))) (fun iv _ => m - (intOf iv).toNat)
  case atStart => exact ⟨0, Nat.zero_le _, rfl, hid ⟨Keep.refl _ _, rfl⟩⟩
  case round =>
    obtain ⟨i, hi, rfl, HK⟩ := hrel
    by_cases hin : i < m
    · have h4 : (i : Int) < m := by omega
      have hil : i < l.length := by rw [← HM.out]; exact hin
      obtain ⟨ad, rfl, hcell⟩ := HC.out (by omega)
      have a0 := cell_old HK.out.1 _ _ (hcell i hil)
      have hst : orI (l.drop i) = if l[i] = 0 then orI (l.drop (i + 1)) else l[i] := by
        rw [List.drop_eq_getElem_cons hil]; rfl
      obtain ⟨x, hx⟩ : ∃ x, x = l[i] := ⟨_, rfl⟩
      rw [← hx] at a0 hst
      have HS := hid hst
      clear hcell hst hx
      by_cases h0 : x = 0
      · have t1 : (x == 0) = true := by simpa using h0
        have t2 : decide (x = 0) = true := by simpa using h0
        have t3 : (x != 0) = false := by simpa using h0
        have H0 := hid h0
        clear h0
        go_wp2_with (at_builtin; refine stopAt ?_; intro q hq)
        exact ⟨⟨i + 1, by omega, by go_num, hid ⟨HK.out.1, by rw [HK.out.2, HS.out, if_pos H0.out]⟩⟩, by simp [intOf]; omega⟩
      · have t1 : (x == 0) = false := by simpa using h0
        have t2 : decide (x = 0) = false := by simpa using h0
        have t3 : (x != 0) = true := by simpa using h0
        have H0 := hid h0
        clear h0
        go_wp2_with (at_builtin; refine stopAt ?_; intro q hq)
        go_ret
        exact ⟨by rw [HE.out, HK.out.2, HS.out, if_neg H0.out]; rfl, HK.out.1⟩
    · have h4 : decide ((i : Int) < m) = false := by simp; omega
      go_wp2_with (at_builtin; refine stopAt ?_; intro q hq)
      go_ret
      exact ⟨by rw [HE.out, HK.out.2, List.drop_eq_nil_of_le (by have := HM.out; omega)]; rfl, HK.out.1⟩
end Go.Proofs.Ytmdonjadhkffiaa
/- Heal: the order of nodes, as both closures tell it (printed by wip/cmpheal.py). Conditions: as each law names them. -/
namespace Go.Proofs.Ytmdonjadhkffiaa
open Go.RowKit
open HE

def cmpW (s lv ld : List Int) (a b : Int) : Int := orI [cmpI (on s lv a : Int) (on s lv b : Int), cmpI (ld.getD a.toNat 0) (ld.getD b.toNat 0), cmpI a b]

theorem load_cell {w : World} {v : Value} {l : List Int} (h : IntsV w v l) (n : Nat) (h1 : n < l.length) : ∃ ad c, v = .slice (some ad) l.length c ∧ w.cell? (ad.add n) = some (.int .i64 (l.getD n 0)) := by
  obtain ⟨ao, c, rfl, _, _, hc⟩ := h
  obtain ⟨ad, rfl, hcell⟩ := hc (by omega)
  refine ⟨ad, c, rfl, ?_⟩
  rw [hcell n h1]
  simp [h1]

theorem intsV3 {w : World} {b : Nat} {T : TypeId} {x y z : Int} (H : w.heap[b]? = some (.cells #[.int .i64 x, .int .i64 y, .int .i64 z] T (0, 0))) (hx : I64 x) (hy : I64 y) (hz : I64 z) : IntsV w (.slice (some ⟨b, 0, none⟩) 3 3) [x, y, z] := by
  refine ⟨_, 3, rfl, by simp [maxLen], ?_, fun _ => ⟨_, rfl, fun i hi => ?_⟩⟩
  · intro u hu
    simp only [List.mem_cons, List.not_mem_nil, or_false] at hu
    rcases hu with rfl | rfl | rfl
    · exact hx
    · exact hy
    · exact hz
  · match i, hi with
    | 0, _ => simp [World.cell?, Addr.add, H]
    | 1, _ => simp [World.cell?, Addr.add, H]
    | 2, _ => simp [World.cell?, Addr.add, H]

theorem cmpI_i64 (a b : Int) : I64 (cmpI a b) := by
  unfold cmpI I64
  split
  · omega
  · split <;> omega

set_option maxHeartbeats 2000000 in
set_option maxRecDepth 20000 in
theorem order_any (w : World) (b c1 c2 : Nat) (v : Value) (s l ld : List Int) (up : Nat) (x y : Int) (h : WorkV w b s up ld) (hv : IntsV w v l) (hr : ∀ z ∈ l, 0 ≤ z ∧ z < s.length)
    (hx : 0 ≤ x ∧ x < s.length) (hy : 0 ≤ y ∧ y < s.length) (h1 : w.cell? ⟨c1, 0, none⟩ = some (.pointer (some ⟨b, 0, none⟩))) (h2 : w.cell? ⟨c2, 0, none⟩ = some v) :
    Calls Try.prog 64 #[.int .i64 x, .int .i64 y, .pointer (some ⟨c1, 0, none⟩), .pointer (some ⟨c2, 0, none⟩)] w fun e w' => e = .returned (.int .i64 (cmpW s l ld x y)) ∧ Keep (fun _ => False) w w' := by
  obtain ⟨sv, lv, d0, d1, d2, -, hl⟩ := h.ex
  have hs12 := h.len
  have hls := h.lens
  obtain ⟨xn, hxn⟩ : ∃ k : Nat, (k : Int) = x := ⟨x.toNat, by omega⟩
  obtain ⟨yn, hyn⟩ : ∃ k : Nat, (k : Int) = y := ⟨y.toNat, by omega⟩
  subst hxn
  subst hyn
  obtain ⟨adl, cl, rfl, b0⟩ := load_cell hl xn (by omega)
  obtain ⟨_, _, he, b1⟩ := load_cell hl yn (by omega)
  cases he
  obtain ⟨N, hN⟩ : ∃ N, N = s.length := ⟨_, rfl⟩
  rw [hls, ← hN] at d2
  rw [← hN] at hs12
  have q1 : (xn : Int) < N := by omega
  have q2 : (yn : Int) < N := by omega
  obtain ⟨lx, hlx⟩ : ∃ z, z = ld.getD xn 0 := ⟨_, rfl⟩
  obtain ⟨ly, hly⟩ : ∃ z, z = ld.getD yn 0 := ⟨_, rfl⟩
  rw [← hlx] at b0
  rw [← hly] at b1
  obtain ⟨ox, hox⟩ : ∃ z : Int, z = (on s l (xn : Int) : Int) := ⟨_, rfl⟩
  obtain ⟨oy, hoy⟩ : ∃ z : Int, z = (on s l (yn : Int) : Int) := ⟨_, rfl⟩
  obtain ⟨E, hE⟩ : ∃ E, E = cmpW s l ld (xn : Int) (yn : Int) := ⟨_, rfl⟩
  have hE2 : E = orI [cmpI ox oy, cmpI lx ly, cmpI (xn : Int) (yn : Int)] := by
    rw [hE, hox, hoy, hlx, hly]; rfl
  rw [← hE]
  have HE := hid hE2
  have HON : Hid (∀ s' : Later w, Calls Try.prog 46 #[.pointer (some ⟨b, 0, none⟩), v, .int .i64 (xn : Int)] s'.val fun e w' => e = .returned (.int .i64 ox) ∧ Keep (fun _ => False) s'.val w') :=
    hid fun s' => by rw [hox]; exact won_any s'.val b v s l ld up _ (h.keep s'.keep) (hv.keep s'.keep) hr hx
  have HOM : Hid (∀ s' : Later w, Calls Try.prog 46 #[.pointer (some ⟨b, 0, none⟩), v, .int .i64 (yn : Int)] s'.val fun e w' => e = .returned (.int .i64 oy) ∧ Keep (fun _ => False) s'.val w') :=
    hid fun s' => by rw [hoy]; exact won_any s'.val b v s l ld up _ (h.keep s'.keep) (hv.keep s'.keep) hr hy
  obtain ⟨ao, c, rfl, -, -, -⟩ := hv
  have j0 := fun s : Later w => s.cell h1
  have j1 := fun s : Later w => s.cell h2
  have j2 := fun s : Later w => s.cell d2
  have j3 := fun s : Later w => s.cell b0
  have j4 := fun s : Later w => s.cell b1
  clear hE hE2 hox hoy hlx hly hl hls hx hy hN h1 h2 d0 d1 d2 b0 b1 h hr
  go_enter Try.func64, Try.ntmps64
  go_wp2_with (at_builtin; refine stopAt ?_; intro q hq)
  refine wp_region_pool [(3, fun v _ => v = .int .i64 ox), (7, fun v _ => v = .int .i64 oy), (8, fun v _ => v = .int .i64 (cmpI ox oy)), (23, fun v _ => v = .int .i64 (cmpI lx ly)), (26, fun v _ => v = .int .i64 (cmpI (xn : Int) (yn : Int))),
    (27, fun v w' => IntsV w' v [cmpI ox oy, cmpI lx ly, cmpI (xn : Int) (yn : Int)]), (28, fun v _ => v = .int .i64 E)] (by kernel_rfl) (by kernel_rfl) ?_ ?_
  · intro q hq v w1 w3 hk hx
    simp only [List.mem_cons, List.not_mem_nil, or_false] at hq
    rcases hq with rfl | rfl | rfl | rfl | rfl | rfl | rfl
    · exact hx
    · exact hx
    · exact hx
    · exact hx
    · exact hx
    · exact IntsV.keep hx hk
    · exact hx
  repeat (apply wpT_pure (by rfl); (intro K s; go_simp; exact id))
  refine wpT_made (by rfl) (by kernel_rfl) (fun s hs => ?_) (fun v hv K hK => ?_)
  · go_simp
    refine (HON.out s).mono ?_
    rintro e w' ⟨rfl, hk⟩
    first | exact ⟨rfl, Keep.refl _ _⟩ | exact ⟨rfl, hk⟩ | exact ⟨_, rfl, hk, rfl⟩
  obtain ⟨s1, -, rfl⟩ := hv
  go_simp
  refine hK _ ?_
  clear hK K s1
  repeat (apply wpT_pure (by rfl); (intro K s; go_simp; exact id))
  refine wpT_made (by rfl) (by kernel_rfl) (fun s hs => ?_) (fun v hv K hK => ?_)
  · go_simp
    refine (HOM.out s).mono ?_
    rintro e w' ⟨rfl, hk⟩
    first | exact ⟨rfl, Keep.refl _ _⟩ | exact ⟨rfl, hk⟩ | exact ⟨_, rfl, hk, rfl⟩
  obtain ⟨s1, -, rfl⟩ := hv
  go_simp
  refine hK _ ?_
  clear hK K s1
  repeat (apply wpT_pure (by rfl); (intro K s; go_simp; exact id))
  refine wpT_made (by rfl) (by kernel_rfl) (fun s hs => ?_) (fun v hv K hK => ?_)
  · go_simp
    refine (compare_any s.val _ _).mono ?_
    rintro e w' ⟨rfl, rfl⟩
    first | exact ⟨rfl, Keep.refl _ _⟩ | exact ⟨rfl, hk⟩ | exact ⟨_, rfl, Keep.refl _ _, rfl⟩
  obtain ⟨s1, -, rfl⟩ := hv
  go_simp
  refine hK _ ?_
  clear hK K s1
  repeat (apply wpT_pure (by rfl); (intro K s; go_simp; exact id))
  refine wpT_made (by rfl) (by kernel_rfl) (fun s hs => ?_) (fun v hv K hK => ?_)
  · go_simp
    refine (compare_any s.val _ _).mono ?_
    rintro e w' ⟨rfl, rfl⟩
    first | exact ⟨rfl, Keep.refl _ _⟩ | exact ⟨rfl, hk⟩ | exact ⟨_, rfl, Keep.refl _ _, rfl⟩
  obtain ⟨s1, -, rfl⟩ := hv
  go_simp
  refine hK _ ?_
  clear hK K s1
  repeat (apply wpT_pure (by rfl); (intro K s; go_simp; exact id))
  refine wpT_made (by rfl) (by kernel_rfl) (fun s hs => ?_) (fun v hv K hK => ?_)
  · go_simp
    refine (compare_any s.val _ _).mono ?_
    rintro e w' ⟨rfl, rfl⟩
    first | exact ⟨rfl, Keep.refl _ _⟩ | exact ⟨rfl, hk⟩ | exact ⟨_, rfl, Keep.refl _ _, rfl⟩
  obtain ⟨s1, -, rfl⟩ := hv
  go_simp
  refine hK _ ?_
  clear hK K s1
  repeat (apply wpT_pure (by rfl); (intro K s; go_simp; exact id))
  refine wpT_made (by rfl) (by kernel_rfl) (fun s hs => ?_) (fun v hv K hK => ?_)
  · go_simp
    exact ⟨(Keep.refl _ _).alloc _, intsV3 (heap_alloc_new _ _) (cmpI_i64 _ _) (cmpI_i64 _ _) (cmpI_i64 _ _)⟩
  obtain ⟨s1, -, hr1⟩ := hv
  obtain ⟨ap, cp, rfl, -⟩ := hr1
  go_simp
  refine hK _ ?_
  clear hK K s1
  repeat (apply wpT_pure (by rfl); (intro K s; go_simp; exact id))
  refine wpT_made (by rfl) (by kernel_rfl) (fun s hs => ?_) (fun v hv K hK => ?_)
  · go_simp
    have r1 := hs (27, fun w' => IntsV w' (.slice ap 3 cp) [cmpI ox oy, cmpI lx ly, cmpI (xn : Int) (yn : Int)]) (by simp) (by kernel_rfl)
    refine (or_any s.val _ _ r1).mono ?_
    rintro e w' ⟨rfl, hk⟩
    exact ⟨by rw [HE.out], hk⟩
  obtain ⟨s1, -, rfl⟩ := hv
  go_simp
  refine hK _ ?_
  clear hK K s1
  repeat (apply wpT_pure (by rfl); (intro K s; go_simp; exact id))
  refine wpT_nil fun s _ => ?_
  have HK := hid s.keep
  go_wp2_with (at_builtin; refine stopAt ?_; intro q hq)
  go_ret
  exact ⟨rfl, HK.out⟩

set_option maxHeartbeats 2000000 in
set_option maxRecDepth 20000 in
theorem orderD_any (w : World) (b c1 c2 : Nat) (v : Value) (s l ld : List Int) (up : Nat) (x y : Int) (h : WorkV w b s up ld) (hv : IntsV w v l) (hr : ∀ z ∈ l, 0 ≤ z ∧ z < s.length)
    (hx : 0 ≤ x ∧ x < s.length) (hy : 0 ≤ y ∧ y < s.length) (h1 : w.cell? ⟨c1, 0, none⟩ = some (.pointer (some ⟨b, 0, none⟩))) (h2 : w.cell? ⟨c2, 0, none⟩ = some v) :
    Calls Try.prog 43 #[.int .i64 x, .int .i64 y, .pointer (some ⟨c1, 0, none⟩), .pointer (some ⟨c2, 0, none⟩)] w fun e w' => e = .returned (.int .i64 (cmpW s l ld x y)) ∧ Keep (fun _ => False) w w' := by
  obtain ⟨sv, lv, d0, d1, d2, -, hl⟩ := h.ex
  have hs12 := h.len
  have hls := h.lens
  obtain ⟨xn, hxn⟩ : ∃ k : Nat, (k : Int) = x := ⟨x.toNat, by omega⟩
  obtain ⟨yn, hyn⟩ : ∃ k : Nat, (k : Int) = y := ⟨y.toNat, by omega⟩
  subst hxn
  subst hyn
  obtain ⟨adl, cl, rfl, b0⟩ := load_cell hl xn (by omega)
  obtain ⟨_, _, he, b1⟩ := load_cell hl yn (by omega)
  cases he
  obtain ⟨N, hN⟩ : ∃ N, N = s.length := ⟨_, rfl⟩
  rw [hls, ← hN] at d2
  rw [← hN] at hs12
  have q1 : (xn : Int) < N := by omega
  have q2 : (yn : Int) < N := by omega
  obtain ⟨lx, hlx⟩ : ∃ z, z = ld.getD xn 0 := ⟨_, rfl⟩
  obtain ⟨ly, hly⟩ : ∃ z, z = ld.getD yn 0 := ⟨_, rfl⟩
  rw [← hlx] at b0
  rw [← hly] at b1
  obtain ⟨ox, hox⟩ : ∃ z : Int, z = (on s l (xn : Int) : Int) := ⟨_, rfl⟩
  obtain ⟨oy, hoy⟩ : ∃ z : Int, z = (on s l (yn : Int) : Int) := ⟨_, rfl⟩
  obtain ⟨E, hE⟩ : ∃ E, E = cmpW s l ld (xn : Int) (yn : Int) := ⟨_, rfl⟩
  have hE2 : E = orI [cmpI ox oy, cmpI lx ly, cmpI (xn : Int) (yn : Int)] := by
    rw [hE, hox, hoy, hlx, hly]; rfl
  rw [← hE]
  have HE := hid hE2
  have HON : Hid (∀ s' : Later w, Calls Try.prog 46 #[.pointer (some ⟨b, 0, none⟩), v, .int .i64 (xn : Int)] s'.val fun e w' => e = .returned (.int .i64 ox) ∧ Keep (fun _ => False) s'.val w') :=
    hid fun s' => by rw [hox]; exact won_any s'.val b v s l ld up _ (h.keep s'.keep) (hv.keep s'.keep) hr hx
  have HOM : Hid (∀ s' : Later w, Calls Try.prog 46 #[.pointer (some ⟨b, 0, none⟩), v, .int .i64 (yn : Int)] s'.val fun e w' => e = .returned (.int .i64 oy) ∧ Keep (fun _ => False) s'.val w') :=
    hid fun s' => by rw [hoy]; exact won_any s'.val b v s l ld up _ (h.keep s'.keep) (hv.keep s'.keep) hr hy
  obtain ⟨ao, c, rfl, -, -, -⟩ := hv
  have j0 := fun s : Later w => s.cell h1
  have j1 := fun s : Later w => s.cell h2
  have j2 := fun s : Later w => s.cell d2
  have j3 := fun s : Later w => s.cell b0
  have j4 := fun s : Later w => s.cell b1
  clear hE hE2 hox hoy hlx hly hl hls hx hy hN h1 h2 d0 d1 d2 b0 b1 h hr
  go_enter Try.func43, Try.ntmps43
  go_wp2_with (at_builtin; refine stopAt ?_; intro q hq)
  refine wp_region_pool [(3, fun v _ => v = .int .i64 ox), (7, fun v _ => v = .int .i64 oy), (8, fun v _ => v = .int .i64 (cmpI ox oy)), (23, fun v _ => v = .int .i64 (cmpI lx ly)), (26, fun v _ => v = .int .i64 (cmpI (xn : Int) (yn : Int))),
    (27, fun v w' => IntsV w' v [cmpI ox oy, cmpI lx ly, cmpI (xn : Int) (yn : Int)]), (28, fun v _ => v = .int .i64 E)] (by kernel_rfl) (by kernel_rfl) ?_ ?_
  · intro q hq v w1 w3 hk hx
    simp only [List.mem_cons, List.not_mem_nil, or_false] at hq
    rcases hq with rfl | rfl | rfl | rfl | rfl | rfl | rfl
    · exact hx
    · exact hx
    · exact hx
    · exact hx
    · exact hx
    · exact IntsV.keep hx hk
    · exact hx
  repeat (apply wpT_pure (by rfl); (intro K s; go_simp; exact id))
  refine wpT_made (by rfl) (by kernel_rfl) (fun s hs => ?_) (fun v hv K hK => ?_)
  · go_simp
    refine (HON.out s).mono ?_
    rintro e w' ⟨rfl, hk⟩
    first | exact ⟨rfl, Keep.refl _ _⟩ | exact ⟨rfl, hk⟩ | exact ⟨_, rfl, hk, rfl⟩
  obtain ⟨s1, -, rfl⟩ := hv
  go_simp
  refine hK _ ?_
  clear hK K s1
  repeat (apply wpT_pure (by rfl); (intro K s; go_simp; exact id))
  refine wpT_made (by rfl) (by kernel_rfl) (fun s hs => ?_) (fun v hv K hK => ?_)
  · go_simp
    refine (HOM.out s).mono ?_
    rintro e w' ⟨rfl, hk⟩
    first | exact ⟨rfl, Keep.refl _ _⟩ | exact ⟨rfl, hk⟩ | exact ⟨_, rfl, hk, rfl⟩
  obtain ⟨s1, -, rfl⟩ := hv
  go_simp
  refine hK _ ?_
  clear hK K s1
  repeat (apply wpT_pure (by rfl); (intro K s; go_simp; exact id))
  refine wpT_made (by rfl) (by kernel_rfl) (fun s hs => ?_) (fun v hv K hK => ?_)
  · go_simp
    refine (compare_any s.val _ _).mono ?_
    rintro e w' ⟨rfl, rfl⟩
    first | exact ⟨rfl, Keep.refl _ _⟩ | exact ⟨rfl, hk⟩ | exact ⟨_, rfl, Keep.refl _ _, rfl⟩
  obtain ⟨s1, -, rfl⟩ := hv
  go_simp
  refine hK _ ?_
  clear hK K s1
  repeat (apply wpT_pure (by rfl); (intro K s; go_simp; exact id))
  refine wpT_made (by rfl) (by kernel_rfl) (fun s hs => ?_) (fun v hv K hK => ?_)
  · go_simp
    refine (compare_any s.val _ _).mono ?_
    rintro e w' ⟨rfl, rfl⟩
    first | exact ⟨rfl, Keep.refl _ _⟩ | exact ⟨rfl, hk⟩ | exact ⟨_, rfl, Keep.refl _ _, rfl⟩
  obtain ⟨s1, -, rfl⟩ := hv
  go_simp
  refine hK _ ?_
  clear hK K s1
  repeat (apply wpT_pure (by rfl); (intro K s; go_simp; exact id))
  refine wpT_made (by rfl) (by kernel_rfl) (fun s hs => ?_) (fun v hv K hK => ?_)
  · go_simp
    refine (compare_any s.val _ _).mono ?_
    rintro e w' ⟨rfl, rfl⟩
    first | exact ⟨rfl, Keep.refl _ _⟩ | exact ⟨rfl, hk⟩ | exact ⟨_, rfl, Keep.refl _ _, rfl⟩
  obtain ⟨s1, -, rfl⟩ := hv
  go_simp
  refine hK _ ?_
  clear hK K s1
  repeat (apply wpT_pure (by rfl); (intro K s; go_simp; exact id))
  refine wpT_made (by rfl) (by kernel_rfl) (fun s hs => ?_) (fun v hv K hK => ?_)
  · go_simp
    exact ⟨(Keep.refl _ _).alloc _, intsV3 (heap_alloc_new _ _) (cmpI_i64 _ _) (cmpI_i64 _ _) (cmpI_i64 _ _)⟩
  obtain ⟨s1, -, hr1⟩ := hv
  obtain ⟨ap, cp, rfl, -⟩ := hr1
  go_simp
  refine hK _ ?_
  clear hK K s1
  repeat (apply wpT_pure (by rfl); (intro K s; go_simp; exact id))
  refine wpT_made (by rfl) (by kernel_rfl) (fun s hs => ?_) (fun v hv K hK => ?_)
  · go_simp
    have r1 := hs (27, fun w' => IntsV w' (.slice ap 3 cp) [cmpI ox oy, cmpI lx ly, cmpI (xn : Int) (yn : Int)]) (by simp) (by kernel_rfl)
    refine (or_any s.val _ _ r1).mono ?_
    rintro e w' ⟨rfl, hk⟩
    exact ⟨by rw [HE.out], hk⟩
  obtain ⟨s1, -, rfl⟩ := hv
  go_simp
  refine hK _ ?_
  clear hK K s1
  repeat (apply wpT_pure (by rfl); (intro K s; go_simp; exact id))
  refine wpT_nil fun s _ => ?_
  have HK := hid s.keep
  go_wp2_with (at_builtin; refine stopAt ?_; intro q hq)
  go_ret
  exact ⟨rfl, HK.out⟩

end Go.Proofs.Ytmdonjadhkffiaa
/- Heal: slices.MinFunc, MaxFunc, Index, Contains at numbers (printed by wip/minheal.py). Conditions: as each law names them. -/
namespace Go.Proofs.Ytmdonjadhkffiaa
open Go.RowKit
open HE

theorem pick_step (lt : Int → Int → Bool) (m : Int) (l : List Int) (i : Nat) (h : i < l.length) : pickFrom lt (some m) (l.drop i) = pickFrom lt (some (if lt l[i] m then l[i] else m)) (l.drop (i + 1)) := by
  rw [List.drop_eq_getElem_cons h]; rfl

set_option maxRecDepth 20000 in
set_option maxHeartbeats 1000000 in
theorem minFunc_any (w : World) (v : Value) (l : List Int) (h : IntsV w v l) (hl : 0 < l.length) (fn : Nat) (caps : Array Value) (cf : Int → Int → Int) (E : Int)
    (hE : pickFrom (fun x y => decide (cf x y < 0)) none l = some E)
    (hent : ∀ args w, (callFunc fn args).run Try.prog w = .ok (.enter fn args) w)
    (hcall : ∀ x ∈ l, ∀ y ∈ l, ∀ wr, Keep (fun _ => False) w wr → Calls Try.prog fn (#[.int .i64 x, .int .i64 y] ++ caps) wr fun e w' => e = .returned (.int .i64 (cf x y)) ∧ Keep (fun _ => False) wr w') :
    Calls Try.prog 63 #[v, .func (.func fn) #[] caps] w fun e w' => e = .returned (.int .i64 E) ∧ Keep (fun _ => False) w w' := by
  obtain ⟨ao, c, rfl, hm, hz, hc⟩ := h
  obtain ⟨lt, hlt⟩ : ∃ lt : Int → Int → Bool, lt = fun x y => decide (cf x y < 0) := ⟨_, rfl⟩
  rw [← hlt] at hE
  have HLT : Hid (∀ x y, lt x y = decide (cf x y < 0)) := hid fun x y => by rw [hlt]
  obtain ⟨ad, rfl, hcell⟩ := hc hl
  obtain ⟨m, hmm⟩ : ∃ m, m = l.length := ⟨_, rfl⟩
  have HC := hid hcell
  have HM := hid hmm
  have HCALL := hid hcall
  rw [← hmm] at hm ⊢
  have hm63 : (m : Int) ≤ 9223372036854775807 := by unfold maxLen at hm; omega
  have hm1 : decide ((m : Int) < 1) = false := by simp; omega
  have hm0 : (0 : Int) < (m : Int) := by omega
  obtain ⟨z, hz0⟩ : ∃ z, z = l[0] := ⟨_, rfl⟩
  have a0 : w.cell? ad = some (.int .i64 z) := by rw [hz0]; exact hcell 0 hl
  have hst : pickFrom lt (some z) (l.drop 1) = some E := by
    rw [← hE, hz0]
    cases l with
    | nil => simp at hl
    | cons x l => rfl
  have HS := hid (And.intro hst (show z ∈ l by rw [hz0]; exact List.getElem_mem hl))
  clear hc hmm hz hcall hE hlt hcell hst hz0
  go_enter Try.func63, Try.ntmps63
  go_wp2_with (at_builtin; refine stopAt ?_; intro q hq)
  go_loopw [5, 6] (fun zv iv wr => ∃ (i : Nat) (x : Int), 1 ≤ i ∧ i ≤ m ∧ zv = .int .i64 x ∧ iv = .int .i64 i ∧ Hid (Keep (fun _ => False) w wr ∧ x ∈ l ∧ pickFrom lt (some x) (l.drop i) = some E)) (fun _ iv _ => m - (intOf iv).toNat)
  case atStart => exact ⟨1, z, Nat.le_refl _, by omega, rfl, rfl, hid ⟨Keep.refl _ _, HS.out.2, HS.out.1⟩⟩
  case round =>
    clear a0
    obtain ⟨i, x, hi1, hi, rfl, rfl, HK⟩ := hrel
    by_cases hin : i < m
    · have h4 : (i : Int) < m := by omega
      have hil : i < l.length := by rw [← HM.out]; exact hin
      have a0 := cell_old HK.out.1 _ _ (HC.out i hil)
      have hcl := HCALL.out l[i] (List.getElem_mem hil) x HK.out.2.1 wr HK.out.1
      have hst := pick_step lt x l i hil
      have hmem := List.getElem_mem hil
      obtain ⟨y, hy⟩ : ∃ y, y = l[i] := ⟨_, rfl⟩
      rw [← hy] at a0 hcl hst hmem
      have HX := hid (And.intro hst hmem)
      obtain ⟨r, hr⟩ : ∃ r, r = cf y x := ⟨_, rfl⟩
      rw [← hr] at hcl
      have hltr : lt y x = decide (r < 0) := by rw [HLT.out, ← hr]
      have HL := hid hltr
      have HCL := hid hcl
      clear hst hmem hy hr hltr hcl
      go_wp2_with (at_builtin; refine stopAt ?_; intro q hq)
      refine HCL.out.mono ?_
      rintro e w1 ⟨rfl, hk1⟩
      have HK1 := hid (HK.out.1.next hk1 (fun _ _ x => x) (fun _ _ x => x))
      have a1 := cell_old hk1 _ _ a0
      clear hk1 a0
      by_cases hrr : r < 0
      · have t1 : decide (r < 0) = true := by simpa using hrr
        have HR := hid t1
        clear hrr
        go_wp2_with (at_builtin; refine stopAt ?_; intro q hq)
        exact ⟨⟨i + 1, y, by omega, by omega, rfl, by go_num, hid ⟨HK1.out, HX.out.2, by rw [← HK.out.2.2, HX.out.1, HL.out, HR.out]; rfl⟩⟩, by simp [intOf]; omega⟩
      · have t1 : decide (r < 0) = false := by simpa using hrr
        have HR := hid t1
        clear hrr
        go_wp2_with (at_builtin; refine stopAt ?_; intro q hq)
        exact ⟨⟨i + 1, x, by omega, by omega, rfl, by go_num, hid ⟨HK1.out, HK.out.2.1, by rw [← HK.out.2.2, HX.out.1, HL.out, HR.out]; rfl⟩⟩, by simp [intOf]; omega⟩
    · have h4 : decide ((i : Int) < m) = false := by simp; omega
      have hx : x = E := by
        have h := HK.out.2.2
        rw [List.drop_eq_nil_of_le (by have := HM.out; omega)] at h
        exact Option.some.inj h
      have HX := hid hx
      clear hx
      go_wp2_with (at_builtin; refine stopAt ?_; intro q hq)
      go_ret
      exact ⟨by rw [HX.out]; rfl, HK.out.1⟩

set_option maxRecDepth 20000 in
set_option maxHeartbeats 1000000 in
theorem maxFunc_any (w : World) (v : Value) (l : List Int) (h : IntsV w v l) (hl : 0 < l.length) (fn : Nat) (caps : Array Value) (cf : Int → Int → Int) (E : Int)
    (hE : pickFrom (fun x y => decide (0 < cf x y)) none l = some E)
    (hent : ∀ args w, (callFunc fn args).run Try.prog w = .ok (.enter fn args) w)
    (hcall : ∀ x ∈ l, ∀ y ∈ l, ∀ wr, Keep (fun _ => False) w wr → Calls Try.prog fn (#[.int .i64 x, .int .i64 y] ++ caps) wr fun e w' => e = .returned (.int .i64 (cf x y)) ∧ Keep (fun _ => False) wr w') :
    Calls Try.prog 42 #[v, .func (.func fn) #[] caps] w fun e w' => e = .returned (.int .i64 E) ∧ Keep (fun _ => False) w w' := by
  obtain ⟨ao, c, rfl, hm, hz, hc⟩ := h
  obtain ⟨lt, hlt⟩ : ∃ lt : Int → Int → Bool, lt = fun x y => decide (0 < cf x y) := ⟨_, rfl⟩
  rw [← hlt] at hE
  have HLT : Hid (∀ x y, lt x y = decide (0 < cf x y)) := hid fun x y => by rw [hlt]
  obtain ⟨ad, rfl, hcell⟩ := hc hl
  obtain ⟨m, hmm⟩ : ∃ m, m = l.length := ⟨_, rfl⟩
  have HC := hid hcell
  have HM := hid hmm
  have HCALL := hid hcall
  rw [← hmm] at hm ⊢
  have hm63 : (m : Int) ≤ 9223372036854775807 := by unfold maxLen at hm; omega
  have hm1 : decide ((m : Int) < 1) = false := by simp; omega
  have hm0 : (0 : Int) < (m : Int) := by omega
  obtain ⟨z, hz0⟩ : ∃ z, z = l[0] := ⟨_, rfl⟩
  have a0 : w.cell? ad = some (.int .i64 z) := by rw [hz0]; exact hcell 0 hl
  have hst : pickFrom lt (some z) (l.drop 1) = some E := by
    rw [← hE, hz0]
    cases l with
    | nil => simp at hl
    | cons x l => rfl
  have HS := hid (And.intro hst (show z ∈ l by rw [hz0]; exact List.getElem_mem hl))
  clear hc hmm hz hcall hE hlt hcell hst hz0
  go_enter Try.func42, Try.ntmps42
  go_wp2_with (at_builtin; refine stopAt ?_; intro q hq)
  go_loopw [5, 6] (fun zv iv wr => ∃ (i : Nat) (x : Int), 1 ≤ i ∧ i ≤ m ∧ zv = .int .i64 x ∧ iv = .int .i64 i ∧ Hid (Keep (fun _ => False) w wr ∧ x ∈ l ∧ pickFrom lt (some x) (l.drop i) = some E)) (fun _ iv _ => m - (intOf iv).toNat)
  case atStart => exact ⟨1, z, Nat.le_refl _, by omega, rfl, rfl, hid ⟨Keep.refl _ _, HS.out.2, HS.out.1⟩⟩
  case round =>
    clear a0
    obtain ⟨i, x, hi1, hi, rfl, rfl, HK⟩ := hrel
    by_cases hin : i < m
    · have h4 : (i : Int) < m := by omega
      have hil : i < l.length := by rw [← HM.out]; exact hin
      have a0 := cell_old HK.out.1 _ _ (HC.out i hil)
      have hcl := HCALL.out l[i] (List.getElem_mem hil) x HK.out.2.1 wr HK.out.1
      have hst := pick_step lt x l i hil
      have hmem := List.getElem_mem hil
      obtain ⟨y, hy⟩ : ∃ y, y = l[i] := ⟨_, rfl⟩
      rw [← hy] at a0 hcl hst hmem
      have HX := hid (And.intro hst hmem)
      obtain ⟨r, hr⟩ : ∃ r, r = cf y x := ⟨_, rfl⟩
      rw [← hr] at hcl
      have hltr : lt y x = decide (0 < r) := by rw [HLT.out, ← hr]
      have HL := hid hltr
      have HCL := hid hcl
      clear hst hmem hy hr hltr hcl
      go_wp2_with (at_builtin; refine stopAt ?_; intro q hq)
      refine HCL.out.mono ?_
      rintro e w1 ⟨rfl, hk1⟩
      have HK1 := hid (HK.out.1.next hk1 (fun _ _ x => x) (fun _ _ x => x))
      have a1 := cell_old hk1 _ _ a0
      clear hk1 a0
      by_cases hrr : 0 < r
      · have t1 : decide (0 < r) = true := by simpa using hrr
        have HR := hid t1
        clear hrr
        go_wp2_with (at_builtin; refine stopAt ?_; intro q hq)
        exact ⟨⟨i + 1, y, by omega, by omega, rfl, by go_num, hid ⟨HK1.out, HX.out.2, by rw [← HK.out.2.2, HX.out.1, HL.out, HR.out]; rfl⟩⟩, by simp [intOf]; omega⟩
      · have t1 : decide (0 < r) = false := by simpa using hrr
        have HR := hid t1
        clear hrr
        go_wp2_with (at_builtin; refine stopAt ?_; intro q hq)
        exact ⟨⟨i + 1, x, by omega, by omega, rfl, by go_num, hid ⟨HK1.out, HK.out.2.1, by rw [← HK.out.2.2, HX.out.1, HL.out, HR.out]; rfl⟩⟩, by simp [intOf]; omega⟩
    · have h4 : decide ((i : Int) < m) = false := by simp; omega
      have hx : x = E := by
        have h := HK.out.2.2
        rw [List.drop_eq_nil_of_le (by have := HM.out; omega)] at h
        exact Option.some.inj h
      have HX := hid hx
      clear hx
      go_wp2_with (at_builtin; refine stopAt ?_; intro q hq)
      go_ret
      exact ⟨by rw [HX.out]; rfl, HK.out.1⟩

end Go.Proofs.Ytmdonjadhkffiaa
/- Heal: slices.Index, Contains, Clone at numbers. Conditions: as each law names them. -/
namespace Go.Proofs.Ytmdonjadhkffiaa
open Go.RowKit
open HE

theorem ty_nums : SliceTy Try.prog 22 3 (.int .i64 0) 1 8 := ⟨by kernel_rfl, by kernel_rfl, rfl, by decide⟩
theorem numsV_one (l : List Int) : ∀ u ∈ numsV l, u.oneCell' = true := by
  intro u hu
  unfold numsV at hu
  obtain ⟨x, _, rfl⟩ := List.mem_map.1 hu
  rfl
theorem numsV_length' (l : List Int) : (numsV l).length = l.length := by unfold numsV; simp

set_option maxHeartbeats 1000000 in
set_option maxRecDepth 20000 in
/-- slices.Index at numbers. -/
theorem index_any (w : World) (v : Value) (l : List Int) (n : Int) (h : IntsV w v l) :
    Calls Try.prog 57 #[v, .int .i64 n] w fun e w' => e = .returned (.int .i64 (idx (fun x => decide (x = n)) l)) ∧ Keep (fun _ => False) w w' := by
  obtain ⟨ao, c, rfl, hm, hz, hc⟩ := h
  obtain ⟨m, hmm⟩ : ∃ m, m = l.length := ⟨_, rfl⟩
  have HC := hid hc
  have HM := hid hmm
  obtain ⟨p, hp⟩ : ∃ p : Int → Bool, p = fun x => decide (x = n) := ⟨_, rfl⟩
  rw [← hp]
  have HP : Hid (∀ x, p x = decide (x = n)) := hid fun x => by rw [hp]
  rw [← hmm] at hm ⊢
  have hm63 : (m : Int) ≤ 9223372036854775807 := by unfold maxLen at hm; omega
  clear hc hmm hz hp
  go_enter Try.func57, Try.ntmps57
  go_wp2_with (at_builtin; refine stopAt ?_; intro q hq)
  go_loopw [8] (fun iv wr => ∃ i : Nat, i ≤ m ∧ iv = .int .i64 i ∧ Hid (Keep (fun _ => False) w wr ∧ ∀ j (h : j < l.length), j < i → p l[j] = false)) (fun iv _ => m - (intOf iv).toNat)
  case atStart => exact ⟨0, Nat.zero_le _, rfl, hid ⟨Keep.refl _ _, fun j _ h => by omega⟩⟩
  case round =>
    obtain ⟨i, hi, rfl, HK⟩ := hrel
    by_cases hin : i < m
    · have h4 : (i : Int) < m := by omega
      have hil : i < l.length := by rw [← HM.out]; exact hin
      obtain ⟨ad, rfl, hcell⟩ := HC.out (by omega)
      have a0 := cell_old HK.out.1 _ _ (hcell i hil)
      obtain ⟨x, hx⟩ : ∃ x, x = l[i] := ⟨_, rfl⟩
      rw [← hx] at a0
      have HX := hid hx
      clear hcell hx
      by_cases hxn : n = x
      · have t1 : decide (n = x) = true := by simpa using hxn
        have t2 : (n == x) = true := by simpa using hxn
        have HR := hid hxn
        clear hxn
        go_wp2_with (at_builtin; refine stopAt ?_; intro q hq)
        go_ret
        refine ⟨?_, HK.out.1⟩
        rw [idx_hit hil (by rw [← HX.out, HP.out, HR.out]; simp) HK.out.2]; rfl
      · have t1 : decide (n = x) = false := by simpa using hxn
        have t2 : (n == x) = false := by simpa using hxn
        have HR := hid hxn
        clear hxn
        go_wp2_with (at_builtin; refine stopAt ?_; intro q hq)
        exact ⟨⟨i + 1, by omega, by go_num, hid ⟨HK.out.1, fun j hj hji => by
          by_cases e : j = i
          · subst e
            rw [← HX.out, HP.out]
            have := HR.out
            simp
            exact fun h => this h.symm
          · exact HK.out.2 j hj (by omega)⟩⟩, by simp [intOf]; omega⟩
    · have h4 : decide ((i : Int) < m) = false := by simp; omega
      go_wp2_with (at_builtin; refine stopAt ?_; intro q hq)
      go_ret
      exact ⟨by rw [idx_miss (fun j hj => HK.out.2 j hj (by have := HM.out; omega))]; rfl, HK.out.1⟩

theorem any_mem (l : List Int) (n : Int) : (l.any fun x => decide (x = n)) = decide (n ∈ l) := by
  apply Bool.eq_iff_iff.2
  simp

set_option maxRecDepth 20000 in
/-- slices.Contains at numbers. -/
theorem contains_any (w : World) (v : Value) (l : List Int) (n : Int) (h : IntsV w v l) :
    Calls Try.prog 58 #[v, .int .i64 n] w fun e w' => e = .returned (.bool (decide (n ∈ l))) ∧ Keep (fun _ => False) w w' := by
  have hq := index_any w v l n h
  have HQ := hid hq
  obtain ⟨r, hr⟩ : ∃ r, r = idx (fun x => decide (x = n)) l := ⟨_, rfl⟩
  rw [← hr] at HQ
  have hB : decide (0 ≤ r) = decide (n ∈ l) := by rw [hr, ← any_mem]; exact idx_ge
  obtain ⟨B, hB2⟩ : ∃ B, B = decide (n ∈ l) := ⟨_, rfl⟩
  rw [← hB2] at hB ⊢
  obtain ⟨ao, c, rfl, -⟩ := h
  clear hq hr hB2
  go_enter Try.func58, Try.ntmps58
  go_wp2_with (at_builtin; refine stopAt ?_; intro q hq)
  refine HQ.out.mono ?_
  rintro e w1 ⟨rfl, hk1⟩
  have HK := hid hk1
  clear hk1
  go_wp2_with (at_builtin; refine stopAt ?_; intro q hq)
  go_ret
  exact ⟨rfl, HK.out⟩

/-- A list of numbers in memory made since. -/
def OwnI (B : Nat) (w : World) (v : Value) (l : List Int) : Prop := Row w 3 1 v l.length (numsV l) ∧ (∀ k, v.ownBlock = some k → B ≤ k) ∧ ∀ z ∈ l, I64 z
theorem OwnI.ints {B : Nat} {w : World} {v : Value} {l : List Int} (h : OwnI B w v l) : IntsV w v l := IntsV.of_row h.1 h.2.2
theorem OwnI.keep {B : Nat} {w w' : World} {v : Value} {l : List Int} (h : OwnI B w v l) (hk : Keep (fun _ => False) w w') : OwnI B w' v l := ⟨h.1.keep hk (fun _ _ x => x), h.2⟩

def ClonePost (w : World) (l : List Int) (e : Ending) (w' : World) : Prop := ∃ v, e = .returned v ∧ OwnI w.heap.size w' v l ∧ Keep (fun _ => False) w w'

set_option maxRecDepth 20000 in
theorem iclone_any (w : World) (v : Value) (l : List Int) (h : IntsV w v l) (hsm : l.length ≤ 1000000) :
    Calls Try.prog 37 #[v] w (ClonePost w l) := by
  obtain ⟨ao, c, rfl, hm, hz, hc⟩ := h
  have hsrc : Cells w ao l.length 1 (numsV l) := by
    refine ⟨by rw [numsV_length', Nat.mul_one], fun h0 => ?_⟩
    obtain ⟨ad, rfl, hcell⟩ := hc (by omega)
    refine ⟨ad, rfl, fun t u hu => ?_⟩
    unfold numsV at hu
    rw [List.getElem?_map] at hu
    obtain ⟨x, hx, rfl⟩ := Option.map_eq_some_iff.1 hu
    obtain ⟨ht, hx2⟩ := List.getElem?_eq_some_iff.1 hx
    rw [← hx2]
    exact hcell t ht
  obtain ⟨n, hn⟩ : ∃ n, n = l.length := ⟨_, rfl⟩
  rw [← hn] at hsrc hsm ⊢
  have HZ := hid (And.intro hz (And.intro hn hc))
  obtain ⟨Post, hPost⟩ : ∃ Post, Post = ClonePost w l := ⟨_, rfl⟩
  rw [← hPost]
  have HPost := hid hPost
  clear hz hn hc hm hPost
  cases ao with
  | none =>
    have hl : l = [] := by
      cases hl : l with
      | nil => rfl
      | cons x t =>
        obtain ⟨ad, h1, _⟩ := HZ.out.2.2 (by rw [hl]; simp)
        cases h1
    have HL := hid hl
    have he : ∀ w : World, (binOp .eql 22 (.slice none n c) (.slice none 0 0)).run Try.prog w = .ok (.bool true) w := fun _ => rfl
    clear hsrc hl
    go_enter Try.func37, Try.ntmps37
    go_wp2_with (at_builtin; refine stopAt ?_; intro q hq)
    rw [HPost.out]
    refine ⟨.slice none 0 0, rfl, ⟨?_, ?_, ?_⟩, Keep.refl _ _⟩
    · rw [HL.out]; exact Row.nil _ _ _
    · intro k e; simp [Value.ownBlock] at e
    · rw [HL.out]; intro z hz; cases hz
  | some a =>
    have HS := hid hsrc
    have HC63 := hid hsm
    clear hsrc
    have he : ∀ w : World, (binOp .eql 22 (.slice (some a) n c) (.slice none 0 0)).run Try.prog w = .ok (.bool false) w := fun _ => rfl
    go_enter Try.func37, Try.ntmps37
    go_wp2_with (at_builtin; refine stopAt ?_; intro q hq)
    (refine hq.out ?_; clear hq q)
    have hrow := Row.fresh w 3 1
    have hk1 : Keep (fun _ => False) w (w.alloc (.cells #[] 3)) := (Keep.refl _ _).alloc _
    obtain ⟨w1, hw1⟩ : ∃ w1, w1 = w.alloc (.cells #[] 3) := ⟨_, rfl⟩
    rw [← hw1] at hrow hk1 ⊢
    clear hw1
    refine wpList_plain rfl (fun K hK => ?_)
    refine wp_append ty_nums (.tmp 5) (.tmp 6) rfl rfl hrow (some a) n c (numsV l) rfl (HS.out.keep hk1 (fun _ _ x => x)) (numsV_one l) (by unfold maxLen; omega) (by omega) ?_
    intro v2 w2 hr2 hk2 hv2
    refine hK _ _ ?_
    clear hK K
    have H2 := hid (And.intro hr2 (And.intro hk2 hv2))
    clear hr2 hk2 hv2
    go_wp2_with (at_builtin; refine stopAt ?_; intro q hq)
    obtain ⟨hr2, hk2, hv2⟩ := H2.out
    have hs1 := hk1.size
    rw [Nat.zero_add, List.nil_append] at hr2
    rw [HPost.out]
    refine ⟨v2, rfl, ⟨by rw [← HZ.out.2.1]; exact hr2, fun k e => ?_, HZ.out.1⟩, hk1.next hk2 (fun _ _ x => x) (fun k hk x => by have x' : some w.heap.size = some k := x; injection x' with x'; omega)⟩
    rcases hv2 with ⟨h1, _⟩ | ⟨k', h1, h2⟩
    · rw [h1] at e
      have x' : some w.heap.size = some k := e
      injection x' with x'
      omega
    · rw [e] at h1
      cases h1
      rcases h2 with h2 | h2
      · have x' : some w.heap.size = some k := h2
        injection x' with x'
        omega
      · omega
end Go.Proofs.Ytmdonjadhkffiaa
/- Heal: where a copy is made. Conditions: as each law names them. -/
namespace Go.Proofs.Ytmdonjadhkffiaa
open Go.RowKit
open HE

def targetV (s : List Int) (up : Nat) (lv ld l : List Int) : Int := (pickFrom (fun x y => decide (cmpW s lv ld x y < 0)) none (free s up l)).getD (-1)

theorem pick_some (lt : Int → Int → Bool) : ∀ (l : List Int) (m : Int), ∃ z, pickFrom lt (some m) l = some z
  | [], m => ⟨m, rfl⟩
  | _x :: l, _m => pick_some lt l _

theorem nums_snoc (i : Nat) : nums (i + 1) = nums i ++ [(i : Int)] := by
  unfold nums
  rw [List.range_succ, List.map_append]
  rfl

/-- The numbers so far that are free, in memory made since. -/
structure FreeRel (w0 : World) (fr : List Int) (v : Value) (w : World) : Prop where
  own : OwnI w0.heap.size w v fr
  keep : Keep (fun _ => False) w0 w
  few : ∀ x ∈ fr, 0 ≤ x ∧ x < 12

theorem FreeRel.later {w0 w w' : World} {fr : List Int} {v : Value} (h : FreeRel w0 fr v w) (hk : Keep (fun _ => False) w w') : FreeRel w0 fr v w' := ⟨h.own.keep hk, h.keep.next hk (fun _ _ x => x) (fun _ _ x => x), h.few⟩

set_option maxHeartbeats 4000000 in
set_option maxRecDepth 20000 in
theorem target_any (w : World) (b : Nat) (v u : Value) (s l lv ld : List Int) (up : Nat) (h : WorkV w b s up ld) (hv : IntsV w v l) (hu : IntsV w u lv) (hr : ∀ z ∈ lv, 0 ≤ z ∧ z < s.length) :
    Calls Try.prog 39 #[.pointer (some ⟨b, 0, none⟩), v, u] w fun e w' => e = .returned (.int .i64 (targetV s up lv ld l)) ∧ Keep (fun _ => False) w w' := by
  obtain ⟨sv, lw, d0, -, -, hs, -⟩ := h.ex
  obtain ⟨aS, cS, rfl, hms, hzs, -⟩ := hs
  have hs12 := h.len
  obtain ⟨N, hN⟩ : ∃ N, N = s.length := ⟨_, rfl⟩
  rw [← hN] at d0 hs12
  obtain ⟨E, hE⟩ : ∃ E, E = targetV s up lv ld l := ⟨_, rfl⟩
  rw [← hE]
  have HE := hid (And.intro hE hN)
  have HH := hid h
  have HV := hid hv
  have HU := hid hu
  have HR := hid hr
  obtain ⟨aL, cL, rfl, -⟩ := hv
  obtain ⟨aU, cU, rfl, -⟩ := hu
  clear h hr hE hN hms hzs
  go_enter Try.func39, Try.ntmps39
  go_upto_region 1 with fail
  obtain ⟨w1, hw1⟩ : ∃ w1, w1 = w.alloc (.cells #[.pointer (some ⟨b, 0, none⟩)] 64) := ⟨_, rfl⟩
  have hk1 : Keep (fun _ => False) w w1 := by rw [hw1]; exact (Keep.refl _ _).alloc _
  have hn1 := heap_alloc_new w (.cells #[.pointer (some ⟨b, 0, none⟩)] 64)
  rw [← hw1] at hn1 ⊢
  obtain ⟨w2, hw2⟩ : ∃ w2, w2 = w1.alloc (.cells #[.slice aU lv.length cU] 22) := ⟨_, rfl⟩
  have hk2 : Keep (fun _ => False) w1 w2 := by rw [hw2]; exact (Keep.refl _ _).alloc _
  have hn2 := heap_alloc_new w1 (.cells #[.slice aU lv.length cU] 22)
  rw [← hw2] at hn2 ⊢
  obtain ⟨c1, hc1⟩ : ∃ c1, c1 = w.heap.size := ⟨_, rfl⟩
  rw [← hc1] at hn1 ⊢
  have hsz : w1.heap.size = c1 + 1 := by rw [hw1, hc1]; simp
  obtain ⟨c2, hc2⟩ : ∃ c2, c2 = c1 + 1 := ⟨_, rfl⟩
  rw [hsz, ← hc2] at hn2
  rw [← hc2]
  have k1' : w1.cell? ⟨c1, 0, none⟩ = some (.pointer (some ⟨b, 0, none⟩)) := by simp [World.cell?, hn1]
  have k2 : w2.cell? ⟨c2, 0, none⟩ = some (.slice aU lv.length cU) := by simp [World.cell?, hn2]
  have k1 := cell_old hk2 _ _ k1'
  have hkk : Keep (fun _ => False) w w2 := hk1.next hk2 (fun _ _ x => x) (fun _ _ x => x)
  have e0 := cell_old hkk _ _ d0
  have HK := hid hkk
  have HH2 := hid (HH.out.keep hkk)
  have HV2 := hid (HV.out.keep hkk)
  have HU2 := hid (HU.out.keep hkk)
  clear hkk k1' hn1 hn2 hc1 hc2 hk1 hk2 hw1 hw2 d0 hsz
  go_wp2_with (at_builtin; refine stopAt ?_; intro q hq)
  go_loopw [14, 7] (fun iv fv wr => ∃ (i : Nat) (v : Value), i ≤ N ∧ iv = .int .i64 i ∧ v = fv ∧ Hid (FreeRel w2 ((nums i).filter fun n => isUp up n && !decide (n ∈ l)) v wr)) (fun iv _ _ => N - (intOf iv).toNat)
  case atStart => exact ⟨0, _, Nat.zero_le _, rfl, rfl, hid ⟨⟨Row.nil _ _ _, fun k e => by simp [Value.ownBlock] at e, fun z hz => by cases hz⟩, Keep.refl _ _, fun z hz => by cases hz⟩⟩
  case round =>
    obtain ⟨i, fv, hi, rfl, rfl, HF⟩ := hrel
    obtain ⟨fr, hfr⟩ : ∃ fr, fr = (nums i).filter fun n => isUp up n && !decide (n ∈ l) := ⟨_, rfl⟩
    rw [← hfr] at HF
    by_cases hin : i < N
    · have h4 : (i : Int) < N := by omega
      have a1 := cell_old HF.out.keep _ _ k1
      have his := is_any wr b s ld up (i : Int) (HH2.out.keep HF.out.keep) (by omega) (by omega)
      obtain ⟨B, hB⟩ : ∃ B, B = isUp up (i : Int) := ⟨_, rfl⟩
      obtain ⟨C, hC⟩ : ∃ C, C = decide ((i : Int) ∈ l) := ⟨_, rfl⟩
      have hst : (nums (i + 1)).filter (fun n => isUp up n && !decide (n ∈ l)) = fr ++ if B && !C then [(i : Int)] else [] := by
        rw [nums_snoc, List.filter_append, ← hfr, List.filter_cons, ← hB, ← hC]
        rfl
      rw [← hB] at his
      have HIS := hid his
      have HS := hid (And.intro hst hC)
      have hfl : fr.length ≤ i := by
        rw [hfr]
        refine Nat.le_trans (List.length_filter_le _ _) ?_
        unfold nums; simp
      have HL := hid hfl
      clear hfl
      clear his hst hB hC hfr
      go_wp2_with (at_builtin; refine stopAt ?_; intro q hq)
      refine HIS.out.mono ?_
      rintro e w3 ⟨rfl, hk3⟩
      have HF3 := hid (HF.out.later hk3)
      clear hk3 a1
      cases B with
      | false =>
        go_wp2_with (at_builtin; refine stopAt ?_; intro q hq)
        exact ⟨⟨i + 1, fv, by omega, by go_num, rfl, by rw [HS.out.1]; simpa using HF3⟩, by simp [intOf]; omega⟩
      | true =>
        go_wp2_with (at_builtin; refine stopAt ?_; intro q hq)
        refine (contains_any w3 _ l (i : Int) (HV2.out.keep HF3.out.keep)).mono ?_
        rintro e w4 ⟨rfl, hk4⟩
        have HF4 := hid (HF3.out.later hk4)
        rw [← HS.out.2]
        clear hk4
        cases C with
        | true =>
          go_wp2_with (at_builtin; refine stopAt ?_; intro q hq)
          exact ⟨⟨i + 1, fv, by omega, by go_num, rfl, by rw [HS.out.1]; simpa using HF4⟩, by simp [intOf]; omega⟩
        | false =>
          go_wp2_with (at_builtin; refine stopAt ?_; intro q hq)
          (refine hq.out ?_; clear hq q)
          have hn7 := heap_alloc_new w4 (.cells #[.int .i64 (i : Int)] 3)
          have hk7 : Keep (fun _ => False) w4 (w4.alloc (.cells #[.int .i64 (i : Int)] 3)) := (Keep.refl _ _).alloc _
          obtain ⟨w7, hw7⟩ : ∃ w7, w7 = w4.alloc (.cells #[.int .i64 (i : Int)] 3) := ⟨_, rfl⟩
          rw [← hw7] at hn7 hk7 ⊢
          clear hw7
          have hF7 := HF4.out.later hk7
          have hlen : fr.length ≤ 1000 := by have := HL.out; omega
          refine wpList_plain rfl (fun K hK => ?_)
          refine wp_append ty_nums (.tmp 26) (.tmp 28) rfl rfl hF7.own.1 (some ⟨w4.heap.size, 0, none⟩) 1 1 [.int .i64 (i : Int)] (by rfl)
            ⟨rfl, fun _ => ⟨_, rfl, fun t u hu => by rw [addr_add, Nat.zero_add, cell_of_row _ _ _ _ _ _ hn7]; simpa using hu⟩⟩ (numsV_one [(i : Int)]) (by unfold maxLen; omega) (by omega) ?_
          intro v8 w8 hr8 hk8 hv8
          refine hK _ _ ?_
          clear hK K
          have HF8 : Hid (FreeRel w2 (fr ++ [(i : Int)]) v8 w8) := hid (by
            refine ⟨⟨by simpa [numsV] using hr8, fun k e => ?_, fun z hz => ?_⟩, hF7.keep.next hk8 (fun _ _ x => x) (fun k hk x => absurd (hF7.own.2.1 k x) (by omega)), fun z hz => ?_⟩
            · rcases hv8 with ⟨h1, _⟩ | ⟨k', h1, h2⟩
              · rw [h1] at e; exact hF7.own.2.1 k e
              · rw [e] at h1
                cases h1
                rcases h2 with h2 | h2
                · exact hF7.own.2.1 k h2
                · have := hF7.keep.size; omega
            · rcases List.mem_append.1 hz with hz | hz
              · exact hF7.own.2.2 z hz
              · rw [List.mem_singleton] at hz; subst hz; unfold I64; omega
            · rcases List.mem_append.1 hz with hz | hz
              · exact hF7.few z hz
              · rw [List.mem_singleton] at hz; subst hz; omega)
          clear hr8 hk8 hv8 hF7 hk7 hn7 hlen
          go_wp2_with (at_builtin; refine stopAt ?_; intro q hq)
          exact ⟨⟨i + 1, v8, by omega, by go_num, rfl, by rw [HS.out.1]; simpa using HF8⟩, by simp [intOf]; omega⟩
    · have h4 : decide ((i : Int) < N) = false := by simp; omega
      have hfree : fr = free s up l := by
        rw [hfr]
        unfold free
        rw [← HE.out.2, show i = N by omega]
      obtain ⟨aF, cF, hfv, -⟩ := HF.out.own.ints
      subst hfv
      have HQ := hid hfree
      have hb : ∀ z ∈ fr, 0 ≤ z ∧ z < s.length := by
        intro z hz
        rw [hfr] at hz
        have := (List.mem_filter.1 hz).1
        unfold nums at this
        obtain ⟨j, hj, rfl⟩ := List.mem_map.1 this
        have := List.mem_range.1 hj
        have := HE.out.2
        omega
      have HB := hid hb
      obtain ⟨k, hk⟩ : ∃ k, k = fr.length := ⟨_, rfl⟩
      rw [← hk]
      have hk63 : (k : Int) ≤ 9223372036854775807 := by
        obtain ⟨_, _, h1, h2, _⟩ := HF.out.own.ints
        cases h1
        rw [← hk] at h2
        unfold maxLen at h2; omega
      have HKf := hid hk
      clear hfree hfr hb hk
      by_cases hk0 : k = 0
      · have t1 : ((k : Int) == 0) = true := by simpa using hk0
        have t2 : decide ((k : Int) = 0) = true := by simpa using hk0
        have H0 := hid hk0
        clear hk0
        go_wp2_with (at_builtin; refine stopAt ?_; intro q hq)
        go_ret
        refine ⟨?_, HK.out.next HF.out.keep (fun _ _ x => x) (fun _ _ x => x)⟩
        have : fr = [] := List.length_eq_zero_iff.1 (by rw [← HKf.out, H0.out])
        rw [HE.out.1]
        unfold targetV
        rw [← HQ.out, this]
        rfl
      · have t1 : ((k : Int) == 0) = false := by simpa using hk0
        have t2 : decide ((k : Int) = 0) = false := by simpa using hk0
        have hpos : 0 < fr.length := by rw [← HKf.out]; omega
        have hpick : pickFrom (fun x y => decide (cmpW s lv ld x y < 0)) none fr = some E := by
          rw [HE.out.1]
          unfold targetV
          rw [← HQ.out]
          cases fr with
          | nil => simp at hpos
          | cons x t =>
            show pickFrom _ (some x) t = some ((pickFrom _ (some x) t).getD (-1))
            obtain ⟨z, hz⟩ := pick_some (fun x y => decide (cmpW s lv ld x y < 0)) t x
            rw [hz]
            rfl
        have hmin := minFunc_any wr _ fr HF.out.own.ints hpos 64 #[.pointer (some ⟨c1, 0, none⟩), .pointer (some ⟨c2, 0, none⟩)] (cmpW s lv ld) E hpick
          (enters_of Try.func64 (by kernel_rfl) rfl) (fun x hx y hy w5 hk5 => by
            have hk := HF.out.keep.next hk5 (fun _ _ x => x) (fun _ _ x => x)
            exact order_any w5 b c1 c2 _ s lv ld up x y (HH2.out.keep hk) (HU2.out.keep hk) HR.out (HB.out x hx) (HB.out y hy) (cell_old hk _ _ k1) (cell_old hk _ _ k2))
        rw [← HKf.out] at hmin
        have HMIN := hid hmin
        clear hmin hpick hpos hk0
        go_wp2_with (at_builtin; refine stopAt ?_; intro q hq)
        refine HMIN.out.mono ?_
        rintro e w5 ⟨rfl, hk5⟩
        have HK5 := hid ((HK.out.next HF.out.keep (fun _ _ x => x) (fun _ _ x => x)).next hk5 (fun _ _ x => x) (fun _ _ x => x))
        clear hk5
        go_wp2_with (at_builtin; refine stopAt ?_; intro q hq)
        go_ret
        exact ⟨rfl, HK5.out⟩
end Go.Proofs.Ytmdonjadhkffiaa
/- Slices cut, cleared and written into (general; out of XMirG). Conditions: as each law names them. -/
namespace Go.Proofs.Ytmdonjadhkffiaa
open Go.RowKit

theorem run_sliceAt_hi2 {P : Program} {t e : TypeId} {z : Value} {size bytes : Nat} (T : SliceTy P t e z size bytes) (ao : Option Addr) (n cap : Nat) (k : IntKind) (hi : Nat) (h1 : hi ≤ cap) (w : World) :
    (Instr.sliceAt t (.slice ao n cap) none (some (.int k (hi : Int))) none).run P w = .ok (.slice ao hi cap) w := by
  obtain ⟨ht, hinfo, hzs, hpos⟩ := T
  obtain ⟨i, hi', hsize⟩ : ∃ i, P.info? e = some i ∧ i.size = size := by
    cases hq : P.info? e with
    | none => simp [hq] at hinfo
    | some i => simp [hq] at hinfo; exact ⟨i, rfl, hinfo.2.1⟩
  subst hsize
  have h0 : (0 : Int) ≤ (hi : Int) ∧ (hi : Int) ≤ (cap : Int) := by omega
  simp [Instr.sliceAt, Instr.slice, run_underlying ht, Instr.sliceBounds, Instr.sliceBound, asIntOf, h0, h1, sizeOf, typeInfo, hi', Addr.add]
theorem run_sliceAt_lh {P : Program} {t e : TypeId} {z : Value} {size bytes : Nat} (T : SliceTy P t e z size bytes) (ao : Option Addr) (n cap : Nat) (k k' : IntKind) (lo hi : Nat) (h1 : lo ≤ hi) (h2 : hi ≤ cap) (w : World) :
    (Instr.sliceAt t (.slice ao n cap) (some (.int k (lo : Int))) (some (.int k' (hi : Int))) none).run P w = .ok (.slice (tailAt ao cap lo size) (hi - lo) (cap - lo)) w := by
  obtain ⟨ht, hinfo, hzs, hpos⟩ := T
  obtain ⟨i, hi', hsize⟩ : ∃ i, P.info? e = some i ∧ i.size = size := by
    cases hq : P.info? e with
    | none => simp [hq] at hinfo
    | some i => simp [hq] at hinfo; exact ⟨i, rfl, hinfo.2.1⟩
  subst hsize
  have h0 : (0 : Int) ≤ (hi : Int) ∧ (hi : Int) ≤ (cap : Int) := by omega
  have h3 : (0 : Int) ≤ (lo : Int) ∧ (lo : Int) ≤ (hi : Int) := by omega
  simp [Instr.sliceAt, Instr.slice, run_underlying ht, Instr.sliceBounds, Instr.sliceBound, asIntOf, h0, h1, h2, h3, sizeOf, typeInfo, hi', tailAt]
theorem run_sliceAt_lhm {P : Program} {t e : TypeId} {z : Value} {size bytes : Nat} (T : SliceTy P t e z size bytes) (ao : Option Addr) (n cap : Nat) (k k' k'' : IntKind) (lo hi mx : Nat) (h1 : lo ≤ hi) (h2 : hi ≤ mx) (h3 : mx ≤ cap) (w : World) :
    (Instr.sliceAt t (.slice ao n cap) (some (.int k (lo : Int))) (some (.int k' (hi : Int))) (some (.int k'' (mx : Int)))).run P w = .ok (.slice (tailAt ao mx lo size) (hi - lo) (mx - lo)) w := by
  obtain ⟨ht, hinfo, hzs, hpos⟩ := T
  obtain ⟨i, hi', hsize⟩ : ∃ i, P.info? e = some i ∧ i.size = size := by
    cases hq : P.info? e with
    | none => simp [hq] at hinfo
    | some i => simp [hq] at hinfo; exact ⟨i, rfl, hinfo.2.1⟩
  subst hsize
  have h0 : (0 : Int) ≤ (hi : Int) ∧ (hi : Int) ≤ (mx : Int) := by omega
  have h4 : (0 : Int) ≤ (lo : Int) ∧ (lo : Int) ≤ (hi : Int) := by omega
  have h5 : (0 : Int) ≤ (mx : Int) ∧ (mx : Int) ≤ (cap : Int) := by omega
  simp [Instr.sliceAt, Instr.slice, run_underlying ht, Instr.sliceBounds, Instr.sliceBound, asIntOf, h0, h1, h2, h3, h4, h5, sizeOf, typeInfo, hi', tailAt]

/-- append where there is room. -/
theorem run_append_in {P : Program} {w : World} {t ty e : TypeId} {z : Value} {size bytes : Nat} (T : SliceTy P t e z size bytes) (g n cap : Nat) (cur : Array Value) (fz : Nat × Nat) (hg : w.heap[g]? = some (.cells cur e fz)) (hfz : Free fz cur.size) (hcs : cur.size = cap * size)
    (ao : Option Addr) (m c : Nat) (news : List Value) (hsrc : Cells w ao m size news) (h1 : ∀ u ∈ news, u.oneCell' = true) (hroom : n + m ≤ cap) :
    (Builtin.append_ #[t, t] ty #[.slice (some ⟨g, 0, none⟩) n cap, .slice ao m c]).run P w = .ok (.slice (some ⟨g, 0, none⟩) (n + m) cap) (w.setRow g (splice cur.toList (n * size) news).toArray) := by
  obtain ⟨ht, hinfo, hzs, hpos⟩ := T
  obtain ⟨i, hi, hsize⟩ : ∃ i, P.info? e = some i ∧ i.size = size := by
    cases hq : P.info? e with
    | none => simp [hq] at hinfo
    | some i => simp [hq] at hinfo; exact ⟨i, rfl, hinfo.2.1⟩
  subst hsize
  have hf := run_first (P := P) i.size m ao c m news hsrc
  have hfit : n * i.size + news.length ≤ cur.size := by rw [hsrc.1, hcs, ← Nat.add_mul]; exact Nat.mul_le_mul_right _ hroom
  have hst := run_storeCells_free (P := P) g (n * i.size) e fz news 0 cur w hg hfz (by simpa using hfit) h1
  simp only [Nat.add_zero] at hst
  simp [Builtin.append_, run_underlying ht, sizeOf, typeInfo, hi, Builtin.lenOf, hroom, hf, Addr.add_lit, hst, splice]


theorem wp_append_in {P : Program} {o : Oper} {a : Act} {w : World} {K : Act → World → Prop} {Q : Exit → Act → World → Prop} {t e : TypeId} {z : Value} {size bytes : Nat} (_T : SliceTy P t e z size bytes) (s x : Operand)
    (ho : o.op = .call { callee := .builtin .append, args := #[s, x], argTypes := #[t, t] }) (v y v' : Value) (w' : World) (hs : a.eval s = v) (hx : a.eval x = y)
    (hr : (Builtin.append_ #[t, t] o.type #[v, y]).run P w = .ok v' w') (h : K (a.put o.dst v') w') : o.wp P a w K Q := by
  unfold Oper.wp execOp
  simp only [ho, resolve, invoke, builtin, Sem.run_bind, Sem.run_pure, Result.andThen_ok, List.map_toArray, List.map_cons, List.map_nil, hs, hx, hr]
  exact h

/-- clear of a part. -/
theorem run_clear_at {P : Program} {w : World} {t ty e : TypeId} {z : Value} {size bytes : Nat} (T : SliceTy P t e z size bytes) (hz1 : ∀ u ∈ z.cells, u.oneCell' = true) (g o n cap : Nat) (cur : Array Value) (fz : Nat × Nat) (hg : w.heap[g]? = some (.cells cur e fz)) (hfz : Free fz cur.size)
    (hfit : o + n * size ≤ cur.size) (hn : 0 < n) :
    (Builtin.clear_ #[t] ty #[.slice (some ⟨g, o, none⟩) n cap]).run P w = .ok (.tuple #[]) (w.setRow g (splice cur.toList o (Builtin.zeroCells z.cells n).toList).toArray) := by
  obtain ⟨ht, hinfo, hzs, hpos⟩ := T
  obtain ⟨i, hi, hz, hsize⟩ : ∃ i, P.info? e = some i ∧ i.zero = some z ∧ i.size = size := by
    cases hq : P.info? e with
    | none => simp [hq] at hinfo
    | some i => simp [hq] at hinfo; exact ⟨i, rfl, hinfo.1, hinfo.2.1⟩
  have hzl : (Builtin.zeroCells z.cells n).toList.length = n * size := by simp [size_zeroCells, hzs]
  have hst := run_storeCells_free (P := P) g o e fz (Builtin.zeroCells z.cells n).toList 0 cur w hg hfz (by omega) (by
    intro u hu
    simp only [Builtin.zeroCells, Array.toList_map, List.mem_map] at hu
    obtain ⟨k, _, rfl⟩ := hu
    have hzp : 0 < z.cells.size := by omega
    have hk : k % z.cells.size < z.cells.size := Nat.mod_lt _ hzp
    rw [getElem!_pos z.cells (k % z.cells.size) hk]
    exact hz1 _ (Array.getElem_mem hk))
  simp only [Nat.add_zero] at hst
  obtain ⟨n', rfl⟩ : ∃ n', n = n' + 1 := ⟨n - 1, by omega⟩
  simp [Builtin.clear_, run_underlying ht, zeroValue, typeInfo, hi, hz, hst, splice]

end Go.Proofs.Ytmdonjadhkffiaa
/- Heal: slices.DeleteFunc at numbers; who is live. Conditions: as each law names them. -/
namespace Go.Proofs.Ytmdonjadhkffiaa
open Go.RowKit
open HE

theorem idx_ahead {p : Int → Bool} {l : List Int} {k : Nat} (hk : k < l.length) (h : idx p l = k) : p l[k] = true ∧ ∀ j (hj : j < l.length), j < k → p l[j] = false := by
  unfold idx at h
  by_cases ha : l.any p = true
  · rw [if_pos ha] at h
    have hkk : l.findIdx p = k := by omega
    subst hkk
    exact ⟨List.findIdx_getElem, fun j hj hlt => by simpa using List.not_of_lt_findIdx hlt⟩
  · rw [if_neg ha] at h; omega
theorem filter_none {p : Int → Bool} {l : List Int} (h : ∀ j (hj : j < l.length), p l[j] = false) : l.filter (fun x => !p x) = l := by
  apply List.filter_eq_self.2
  intro x hx
  obtain ⟨j, hj, rfl⟩ := List.getElem_of_mem hx
  simp [h j hj]

/-- A row that is being sifted. -/
structure Sift (w0 : World) (g n cap : Nat) (l : List Int) (p : Int → Bool) (i j : Nat) (cur : List Int) (w : World) : Prop where
  len : cur.length = n
  row : Row w 3 1 (.slice (some ⟨g, 0, none⟩) n cap) n (numsV cur)
  done : cur.take i = (l.take j).filter fun x => !p x
  left : cur.drop j = l.drop j
  keep : Keep (fun k => k = g) w0 w

theorem filter_take_snoc {p : Int → Bool} {l : List Int} {j : Nat} (h : j < l.length) : (l.take (j + 1)).filter (fun x => !p x) = (l.take j).filter (fun x => !p x) ++ if p l[j] then [] else [l[j]] := by
  rw [List.take_add_one, List.getElem?_eq_getElem h, Option.toList_some, List.filter_append]
  cases hp : p l[j] <;> simp [hp]

def DelPost (w : World) (v : Value) (l : List Int) (p : Int → Bool) (e : Ending) (w' : World) : Prop :=
  ∃ v', e = .returned v' ∧ Row w' 3 1 v' (l.filter fun x => !p x).length (numsV (l.filter fun x => !p x)) ∧ Keep (fun k => v.ownBlock = some k) w w' ∧ v'.ownBlock = v.ownBlock

set_option maxHeartbeats 4000000 in
set_option maxRecDepth 20000 in
set_option maxRecDepth 20000 in
/-- slices.DeleteFunc at numbers, in a row of its own. -/
theorem deleteFunc_any (w : World) (v : Value) (l : List Int) (hrow : Row w 3 1 v l.length (numsV l)) (hz : ∀ z ∈ l, I64 z) (fn : Nat) (caps : Array Value) (p : Int → Bool)
    (hent : ∀ args w, (callFunc fn args).run Try.prog w = .ok (.enter fn args) w)
    (hcall : ∀ z ∈ l, ∀ wr, Keep (fun k => v.ownBlock = some k) w wr → Calls Try.prog fn (#[.int .i64 z] ++ caps) wr fun e w' => e = .returned (.bool (p z)) ∧ Keep (fun _ => False) wr w') :
    Calls Try.prog 47 #[v, .func (.func fn) #[] caps] w (DelPost w v l p) := by
  have hq := indexFunc_any w v l (IntsV.of_row hrow hz) fn caps p hent (fun z hz wr hk => hcall z hz wr (hk.mono fun _ _ x => x.elim))
  have HQ := hid hq
  obtain ⟨Post, hPost⟩ : ∃ Post, Post = DelPost w v l p := ⟨_, rfl⟩
  rw [← hPost]
  have HPost := hid hPost
  have HCALL := hid hcall
  have HROW := hid (And.intro hrow hz)
  clear hq hPost hcall
  by_cases hany : l.any p = true
  · obtain ⟨k, hk, hik, hpk, -⟩ := idx_spec hany
    rw [hik] at HQ
    have hah := idx_ahead hk hik
    obtain ⟨g, cap, cur0, fz, rfl, hg, hfz, hcap, hcm, hsz, htk⟩ := hrow.some (by omega)
    obtain ⟨n, hn⟩ : ∃ n, n = l.length := ⟨_, rfl⟩
    have hn63 : (n : Int) ≤ 9223372036854775807 := by unfold maxLen at hcm; omega
    have hkn : k < n := by omega
    rw [← hn] at HQ HPost HROW hcap ⊢
    have HN := hid hn
    have hS0 : Sift w g n cap l p k (k + 1) l w := by
      refine ⟨hn.symm, HROW.out.1, ?_, rfl, Keep.refl _ _⟩
      rw [filter_take_snoc hk, hpk]
      simp only [if_true, List.append_nil]
      symm
      apply filter_none
      intro j hj
      rw [List.getElem_take]
      rw [List.length_take] at hj
      exact hah.2 j (by omega) (by omega)
    have HS0 := hid hS0
    have hk1 : ((k : Int) == -1) = false := by simp
    have hk2 : decide ((k : Int) = -1) = false := by simp
    clear hrow hz hah hik hpk hk hany hS0 hg hfz hsz htk hn
    go_enter Try.func47, Try.ntmps47
    go_wp2_with (at_builtin; refine stopAt ?_; intro q hq)
    refine HQ.out.mono ?_
    rintro e w1 ⟨rfl, hkw1⟩
    have HS1 : Hid (Sift w g n cap l p k (k + 1) l w1) := hid ⟨HS0.out.len, HS0.out.row.keep hkw1 (fun _ _ x => x), HS0.out.done, HS0.out.left, HS0.out.keep.next hkw1 (fun _ _ x => x) (fun _ _ x => x.elim)⟩
    clear hkw1
    go_wp2_with (at_builtin; refine stopAt ?_; intro q hq)
    go_loopw [5, 6] (fun iv jv wr => ∃ i j : Nat, i < j ∧ j ≤ n ∧ iv = .int .i64 i ∧ jv = .int .i64 j ∧ Hid (∃ cur, Sift w g n cap l p i j cur wr)) (fun _ jv _ => n - (intOf jv).toNat)
    case atStart => exact ⟨k, k + 1, by omega, by omega, rfl, by go_num, hid ⟨l, HS1.out⟩⟩
    case round =>
      obtain ⟨i, j, hij, hj, rfl, rfl, HC⟩ := hrel
      obtain ⟨cur, hcur⟩ := HC.out
      have HCu := hid hcur
      by_cases hjn : j < n
      · have h4 : (j : Int) < n := by omega
        have hjl : j < l.length := by have := HN.out; omega
        have hjc : j < cur.length := by have := hcur.len; omega
        have hcj : cur[j] = l[j] := by
          have h1 := congrArg (fun x => x[0]?) hcur.left
          simpa [List.getElem?_drop, hjl, hjc] using h1
        obtain ⟨x, hx⟩ : ∃ x, x = l[j] := ⟨_, rfl⟩
        have a0 : wr.cell? ⟨g, j, none⟩ = some (.int .i64 x) := by
          rw [hcur.row.cell j (by omega)]
          unfold numsV
          simp [hjc, hcj, hx]
        have b0 : wr.frozen? ⟨g, i, none⟩ = false := hcur.row.frozen i (by omega)
        have hcl := HCALL.out x (by rw [hx]; exact List.getElem_mem hjl) wr (hcur.keep.mono fun k _ h => by rw [h]; rfl)
        have hst := filter_take_snoc (p := p) hjl
        rw [← hx] at hst
        have HX := hid (And.intro hst (And.intro hx hcj))
        have HCL := hid hcl
        clear hcl hst hx hcj hcur HC
        go_wp2_with (at_builtin; refine stopAt ?_; intro q hq)
        refine HCL.out.mono ?_
        rintro e w2 ⟨rfl, hk2'⟩
        have HCu2 : Hid (Sift w g n cap l p i j cur w2) := hid ⟨HCu.out.len, HCu.out.row.keep hk2' (fun _ _ x => x), HCu.out.done, HCu.out.left, HCu.out.keep.next hk2' (fun _ _ x => x) (fun _ _ x => x.elim)⟩
        have hdl : cur.drop (j + 1) = l.drop (j + 1) := by
          have h1 := congrArg (fun x => x.drop 1) HCu.out.left
          simpa [List.drop_drop, Nat.add_comm] using h1
        have HDL := hid hdl
        obtain ⟨B, hB⟩ : ∃ B, B = p x := ⟨_, rfl⟩
        rw [← hB] at HX ⊢
        have b1 : w2.frozen? ⟨g, i, none⟩ = false := HCu2.out.row.frozen i (by omega)
        have b2 : ∃ u, w2.cell? ⟨g, i, none⟩ = some u := by
          rw [HCu2.out.row.cell i (by omega)]
          unfold numsV
          have hic : i < cur.length := by have := HCu2.out.len; omega
          exact ⟨.int .i64 cur[i], by simp [hic]⟩
        obtain ⟨u2, b2⟩ := b2
        clear hk2' a0 b0 hB hdl
        cases B with
        | true =>
          clear b1 b2
          go_wp2_with (at_builtin; refine stopAt ?_; intro q hq)
          exact ⟨⟨i, j + 1, by omega, by omega, rfl, by go_num, hid ⟨cur, HCu2.out.len, HCu2.out.row, by rw [HCu2.out.done, HX.out.1]; simp, HDL.out, HCu2.out.keep⟩⟩, by simp [intOf]; omega⟩
        | false =>
          have h5 : (i : Int) < n := by omega
          have hsr := HCu2.out.row.setOne i (by omega) (.int .i64 x) rfl
          have hks : Keep (fun k => k = g) w (w2.setCell ⟨g, i, none⟩ (.int .i64 x)) := Keep.setCell HCu2.out.keep (.inl rfl) _
          have HNew : Hid (Sift w g n cap l p (i + 1) (j + 1) (cur.set i x) (w2.setCell ⟨g, i, none⟩ (.int .i64 x))) := hid (by
            have hlen := HCu2.out.len
            refine ⟨by rw [List.length_set]; exact hlen, ?_, ?_, ?_, hks⟩
            · have : numsV (cur.set i x) = (numsV cur).set i (.int .i64 x) := by unfold numsV; rw [List.map_set]
              rw [this]
              exact hsr
            · rw [HX.out.1, ← HCu2.out.done, List.take_add_one, List.getElem?_set_self (by omega), List.take_set_of_le (Nat.le_refl _)]
              rfl
            · rw [List.drop_set_of_lt (by omega)]
              exact HDL.out)
          clear hsr hks
          go_wp2_with (at_builtin; refine stopAt ?_; intro q hq)
          exact ⟨⟨i + 1, j + 1, by omega, by omega, by go_num, by go_num, hid ⟨_, HNew.out⟩⟩, by simp [intOf]; omega⟩
      · have h4 : decide ((j : Int) < n) = false := by simp; omega
        have hin : i < n := by omega
        obtain ⟨g', cap', raw, fz', hv', hg', hfz', hcap', -, hsz', htk'⟩ := hcur.row.some (by omega)
        cases hv'
        have hsl := fun w => run_sliceAt_lo (P := Try.prog) ty_nums (some ⟨g, 0, none⟩) n cap .i64 i (by omega) w
        rw [show tailAt (some ⟨g, 0, none⟩) cap i 1 = some ⟨g, i, none⟩ by unfold tailAt; rw [if_neg (by omega)]; simp [addr_add]] at hsl
        have hcl := fun ty => run_clear_at (P := Try.prog) (w := wr) (t := 22) (ty := ty) ty_nums (by intro u hu; simp [Value.cells] at hu; subst hu; rfl) g i (n - i) (cap - i) raw fz' hg' hfz' (by rw [hsz']; omega) (by omega)
        have hsh : ∀ w, (Instr.sliceAt 22 (.slice (some ⟨g, 0, none⟩) n cap) none (some (.int .i64 i)) none).run Try.prog w = .ok (.slice (some ⟨g, 0, none⟩) i cap) w := fun w => run_sliceAt_hi2 ty_nums (some ⟨g, 0, none⟩) n cap .i64 i (by omega) w
        have hg2 := setRow_heap wr g raw (splice raw.toList i (Builtin.zeroCells (Value.int .i64 0).cells (n - i)).toList).toArray _ fz' hg'
        have k2 : Keep (fun k => k = g) w (wr.setRow g (splice raw.toList i (Builtin.zeroCells (Value.int .i64 0).cells (n - i)).toList).toArray) := Keep.setRow hcur.keep (.inl rfl) _
        have hzl : (Builtin.zeroCells (Value.int .i64 0).cells (n - i)).toList.length = n - i := by rw [Array.length_toList, size_zeroCells]; simp [Value.cells]
        have hl2 : (splice raw.toList i (Builtin.zeroCells (Value.int .i64 0).cells (n - i)).toList).length = cap := by
          rw [length_splice _ _ _ (by rw [hzl, Array.length_toList, hsz']; omega), Array.length_toList, hsz', Nat.mul_one]
        have ht2 : (splice raw.toList i (Builtin.zeroCells (Value.int .i64 0).cells (n - i)).toList).take i = numsV (cur.take i) := by
          have hq : (raw.toList.take i).length = i := by rw [List.length_take, Array.length_toList, hsz']; omega
          unfold splice
          rw [List.take_left' hq]
          have h1 : (raw.toList.take n).take i = (numsV cur).take i := by rw [← htk', Nat.mul_one]
          rw [List.take_take, show min i n = i by omega] at h1
          rw [h1]
          unfold numsV
          rw [List.map_take]
        have hdone : cur.take i = l.filter fun x => !p x := by
          rw [hcur.done, List.take_of_length_le (by have := HN.out; omega)]
        have hfl : (l.filter fun x => !p x).length = i := by rw [← hdone, List.length_take, hcur.len]; omega
        rw [hdone] at ht2
        obtain ⟨c2, hc2⟩ : ∃ c2, c2 = splice raw.toList i (Builtin.zeroCells (Value.int .i64 0).cells (n - i)).toList := ⟨_, rfl⟩
        rw [← hc2] at hcl hg2 k2 hl2 ht2
        obtain ⟨w2, hw2⟩ : ∃ w2, w2 = wr.setRow g c2.toArray := ⟨_, rfl⟩
        rw [← hw2] at hcl hg2 k2
        have hr2 : Row w2 3 1 (.slice (some ⟨g, 0, none⟩) i cap) (l.filter fun x => !p x).length (numsV (l.filter fun x => !p x)) := by
          rw [hfl]
          exact ⟨by rw [numsV_length', hfl, Nat.mul_one], .inr ⟨g, cap, c2.toArray, fz', rfl, hg2, by rw [List.size_toArray, hl2]; rw [hsz', Nat.mul_one] at hfz'; exact hfz', by omega, hcm, by rw [List.size_toArray, hl2, Nat.mul_one], by rw [Nat.mul_one]; exact ht2⟩⟩
        have HX := hid (And.intro hr2 k2)
        clear hr2 k2 hw2 hc2 ht2 hl2 hzl hg2 hg' hfz' hsz' htk' hdone hfl hcur HC
        go_wp2_with (at_builtin; refine stopAt ?_; intro q hq)
        rw [HPost.out]
        refine ⟨.slice (some ⟨g, 0, none⟩) i cap, rfl, HX.out.1, HX.out.2.mono (fun k _ x => by rw [x]; rfl), rfl⟩
  · have hidx : idx p l = -1 := by unfold idx; rw [if_neg hany]
    rw [hidx] at HQ
    have hfl : l.filter (fun x => !p x) = l := filter_none fun j hj => by
      cases h : p l[j] with
      | false => rfl
      | true => exact absurd (List.any_eq_true.2 ⟨_, List.getElem_mem hj, h⟩) hany
    have HF := hid hfl
    obtain ⟨ao, c, rfl, -, -, -, -⟩ := hrow.form
    clear hany hidx hfl hrow hz
    go_enter Try.func47, Try.ntmps47
    go_wp2_with (at_builtin; refine stopAt ?_; intro q hq)
    refine HQ.out.mono ?_
    rintro e w1 ⟨rfl, hkw1⟩
    have HK := hid hkw1
    clear hkw1
    go_wp2_with (at_builtin; refine stopAt ?_; intro q hq)
    rw [HPost.out]
    refine ⟨.slice ao l.length c, rfl, ?_, HK.out.mono (fun _ _ x => x.elim), rfl⟩
    rw [HF.out]
    exact HROW.out.1.keep HK.out (fun _ _ x => x)
end Go.Proofs.Ytmdonjadhkffiaa
/- Heal: the nodes that are up. Conditions: as each law names them. -/
namespace Go.Proofs.Ytmdonjadhkffiaa
open Go.RowKit
open HE

set_option maxRecDepth 20000 in
theorem live1_any (w : World) (b c1 : Nat) (s ld : List Int) (up : Nat) (n : Int) (h : WorkV w b s up ld) (h0 : 0 ≤ n) (h1 : n < 12) (hc : w.cell? ⟨c1, 0, none⟩ = some (.pointer (some ⟨b, 0, none⟩))) :
    Calls Try.prog 61 #[.int .i64 n, .pointer (some ⟨c1, 0, none⟩)] w fun e w' => e = .returned (.bool (!isUp up n)) ∧ Keep (fun _ => False) w w' := by
  have his := is_any w b s ld up n h h0 h1
  obtain ⟨B, hB⟩ : ∃ B, B = isUp up n := ⟨_, rfl⟩
  rw [← hB] at his ⊢
  have HIS := hid his
  clear his h hB
  go_enter Try.func61, Try.ntmps61
  go_wp2_with (at_builtin; refine stopAt ?_; intro q hq)
  refine HIS.out.mono ?_
  rintro e w1 ⟨rfl, hk1⟩
  have HK := hid hk1
  clear hk1
  go_wp2_with (at_builtin; refine stopAt ?_; intro q hq)
  go_ret
  exact ⟨rfl, HK.out⟩

def LivePost (w : World) (l : List Int) (e : Ending) (w' : World) : Prop := ∃ v, e = .returned v ∧ OwnI w.heap.size w' v l ∧ Keep (fun _ => False) w w'

set_option maxHeartbeats 1000000 in
set_option maxRecDepth 20000 in
theorem wlive_any (w : World) (b : Nat) (v : Value) (s l ld : List Int) (up : Nat) (h : WorkV w b s up ld) (hv : IntsV w v l) (hsm : l.length ≤ 1000000) (hr : ∀ x ∈ l, 0 ≤ x ∧ x < 12) :
    Calls Try.prog 38 #[.pointer (some ⟨b, 0, none⟩), v] w (LivePost w (live up l)) := by
  obtain ⟨Post, hPost⟩ : ∃ Post, Post = LivePost w (live up l) := ⟨_, rfl⟩
  rw [← hPost]
  have HPost := hid hPost
  have HH := hid (And.intro h (And.intro hv (And.intro hr hsm)))
  obtain ⟨aL, cL, rfl, -⟩ := hv
  clear h hr hPost hsm
  go_enter Try.func38, Try.ntmps38
  go_upto_region 1 with fail
  obtain ⟨w1, hw1⟩ : ∃ w1, w1 = w.alloc (.cells #[.pointer (some ⟨b, 0, none⟩)] 64) := ⟨_, rfl⟩
  have hk1 : Keep (fun _ => False) w w1 := by rw [hw1]; exact (Keep.refl _ _).alloc _
  have hn1 := heap_alloc_new w (.cells #[.pointer (some ⟨b, 0, none⟩)] 64)
  rw [← hw1] at hn1 ⊢
  obtain ⟨c1, hc1⟩ : ∃ c1, c1 = w.heap.size := ⟨_, rfl⟩
  rw [← hc1] at hn1 ⊢
  have k1 : w1.cell? ⟨c1, 0, none⟩ = some (.pointer (some ⟨b, 0, none⟩)) := by simp [World.cell?, hn1]
  have hcs : c1 < w1.heap.size := heap_lt hn1
  have HK1 := hid (And.intro hk1 (And.intro k1 hcs))
  clear hk1 k1 hcs hn1 hw1 hc1
  go_wp2_with (at_builtin; refine stopAt ?_; intro q hq)
  refine (iclone_any w1 _ l (HH.out.2.1.keep HK1.out.1) HH.out.2.2.2).mono ?_
  rintro e w2 ⟨v2, rfl, ho2, hk2⟩
  have H2 := hid (And.intro ho2 hk2)
  have hdel := deleteFunc_any w2 v2 l ho2.1 ho2.2.2 61 #[.pointer (some ⟨c1, 0, none⟩)] (fun z => !isUp up z)
    (enters_of Try.func61 (by kernel_rfl) rfl) (fun z hz wr hkr => by
      have hk12 : Keep (fun _ => False) w1 wr := hk2.next hkr (fun _ _ x => x) (fun k hk x => absurd (ho2.2.1 k x) (by omega))
      exact live1_any wr b c1 s ld up z (HH.out.1.keep (HK1.out.1.next hk12 (fun _ _ x => x) (fun _ _ x => x))) (HH.out.2.2.1 z hz).1 (HH.out.2.2.1 z hz).2 (cell_old hk12 _ _ HK1.out.2.1))
  have HD := hid hdel
  clear ho2 hk2 hdel
  go_wp2_with (at_builtin; refine stopAt ?_; intro q hq)
  refine HD.out.mono ?_
  rintro e w3 ⟨v3, rfl, hr3, hk3, ho3⟩
  have hfl : (l.filter fun x => !(!isUp up x)) = live up l := by unfold live; simp
  rw [hfl] at hr3
  have H3 := hid (And.intro hr3 (And.intro hk3 ho3))
  clear hr3 hk3 ho3 hfl
  go_wp2_with (at_builtin; refine stopAt ?_; intro q hq)
  rw [HPost.out]
  refine ⟨v3, rfl, ⟨H3.out.1, fun k e => ?_, fun z hz => ?_⟩, ?_⟩
  · rw [H3.out.2.2] at e
    have := H2.out.1.2.1 k e
    have := HK1.out.1.size
    omega
  · exact H2.out.1.2.2 z (List.mem_filter.1 hz).1
  · exact (HK1.out.1.next H2.out.2 (fun _ _ x => x) (fun _ _ x => x)).next H3.out.2.1 (fun _ _ x => x) (fun k hk x => absurd (H2.out.1.2.1 k x) (by have := HK1.out.1.size; omega))
end Go.Proofs.Ytmdonjadhkffiaa
/- Heal: the program's work in memory. Conditions: as each law names them. -/
namespace Go.Proofs.Ytmdonjadhkffiaa
open Go.RowKit
open HE

theorem rising_rise {hi : Nat} : ∀ (l : List Int) (lo : Int), rising lo hi l = true → l.Pairwise (· < ·) ∧ ∀ x ∈ l, lo < x ∧ x < hi
  | [], lo, _ => ⟨List.Pairwise.nil, by simp⟩
  | n :: l, lo, h => by
    simp only [rising, Bool.and_eq_true, decide_eq_true_eq] at h
    obtain ⟨h1, h2⟩ := rising_rise l n h.2
    refine ⟨List.pairwise_cons.2 ⟨fun x hx => (h2 x hx).1, h1⟩, fun x hx => ?_⟩
    rcases List.mem_cons.1 hx with rfl | hx
    · exact h.1
    · have := h2 x hx; omega
theorem formedFrom_wf {hi : Nat} : ∀ (ps : List Pl) (c : Int), formedFrom c hi ps = true → ∀ p ∈ ps, Rise hi p.nodes ∧ c < p.chunk
  | [], c, _ => by simp
  | p :: ps, c, h => by
    simp only [formedFrom, Bool.and_eq_true, decide_eq_true_eq] at h
    intro q hq
    rcases List.mem_cons.1 hq with rfl | hq
    · obtain ⟨h1, h2⟩ := rising_rise q.nodes (-1) h.1.2
      exact ⟨⟨h1, fun x hx => by have := h2 x hx; omega⟩, h.1.1⟩
    · have := formedFrom_wf ps p.chunk h.2 q hq
      exact ⟨this.1, by have := this.2; omega⟩
theorem check_zero {s : List Int} {ps : List Pl} (h : check s ps = 0) : (1 ≤ s.length ∧ s.length ≤ 12) ∧ ps.length ≤ 256 ∧ Wf s ps := by
  unfold check at h
  split at h
  · rename_i h1
    split at h
    · rename_i h2
      unfold sitesOk at h1
      unfold formed at h2
      simp only [Bool.and_eq_true, decide_eq_true_eq] at h1 h2
      exact ⟨h1.1, h2.1, fun p hp => (formedFrom_wf ps (-1) h2.2 p hp).1⟩
    · cases h
  · cases h

def mvV (m : Mv) : List Value := [.int .i64 m.chunk, .int .i64 m.src, .int .i64 m.dst]
def mvsV (l : List Mv) : List Value := l.flatMap mvV
theorem mvsV_length (l : List Mv) : (mvsV l).length = l.length * 3 := by
  induction l with
  | nil => rfl
  | cons m l ih => simp only [mvsV, List.flatMap_cons, List.length_append, List.length_cons] at *; rw [ih]; simp [mvV]; omega

/-- How many have each node. -/
def ldL (N : Nat) (qs : List Pl) (nl : List Int) : List Int := (nums N).map fun n => ((loadOf qs n + (if n ∈ nl then 1 else 0) : Nat) : Int)
theorem nums_length (N : Nat) : (nums N).length = N := by unfold nums; simp
theorem ldL_length (N : Nat) (qs : List Pl) (nl : List Int) : (ldL N qs nl).length = N := by unfold ldL; rw [List.length_map, nums_length]
theorem ldL_get (N : Nat) (qs : List Pl) (nl : List Int) (x : Nat) (h : x < N) : (ldL N qs nl)[x]? = some ((loadOf qs (x : Int) + (if (x : Int) ∈ nl then 1 else 0) : Nat) : Int) := by
  unfold ldL nums
  rw [List.getElem?_map, List.getElem?_map, List.getElem?_range h]
  rfl
theorem ldL_nil (N : Nat) : ldL N [] [] = List.replicate N 0 := by
  apply List.ext_getElem?
  intro i
  by_cases h : i < N
  · rw [ldL_get N [] [] i h, List.getElem?_replicate, if_pos h]; rfl
  · rw [List.getElem?_eq_none (by rw [ldL_length]; omega), List.getElem?_eq_none (by simp; omega)]
theorem ldL_step (N : Nat) (qs : List Pl) (nl : List Int) (x : Nat) (h : x < N) (hn : (x : Int) ∉ nl) :
    (ldL N qs nl).set x ((loadOf qs (x : Int) + 0 : Nat) + 1 : Int) = ldL N qs (nl ++ [(x : Int)]) := by
  apply List.ext_getElem?
  intro i
  by_cases hi : i < N
  · rw [ldL_get N qs _ i hi]
    by_cases e : i = x
    · subst e
      rw [List.getElem?_set_self (by rw [ldL_length]; omega)]
      simp
    · rw [List.getElem?_set_ne (fun h => e h.symm), ldL_get N qs nl i hi]
      have : (i : Int) ≠ (x : Int) := by omega
      simp [this]
  · rw [List.getElem?_eq_none (by rw [List.length_set, ldL_length]; omega), List.getElem?_eq_none (by rw [ldL_length]; omega)]
theorem ldL_snoc (N : Nat) (qs : List Pl) (p : Pl) : ldL N qs p.nodes = ldL N (qs ++ [p]) [] := by
  unfold ldL
  apply List.map_congr_left
  intro n _
  unfold loadOf
  rw [List.countP_append]
  simp [List.countP_cons]

/-- The work: block b, its loads in block gl. -/
structure WorkAt (w0 w : World) (b gl : Nat) (s : List Int) (up : Nat) (ld : List Int) (ms : List Mv) : Prop where
  ex : ∃ sv cl mv, IntsV w0 sv s ∧ w.heap[b]? = some (.cells #[sv, .int .u32 (up : Int), .slice (some ⟨gl, 0, none⟩) s.length cl, mv] 70 (0, 0)) ∧
    Row w 3 1 (.slice (some ⟨gl, 0, none⟩) s.length cl) s.length (numsV ld) ∧ Row w 52 3 mv ms.length (mvsV ms) ∧ (∀ k, mv.ownBlock = some k → w0.heap.size ≤ k ∧ k ≠ b ∧ k ≠ gl)
  keep : Keep (fun _ => False) w0 w
  b0 : w0.heap.size ≤ b
  g0 : w0.heap.size ≤ gl
  ne : b ≠ gl
  up32 : up < 4294967296
  len : s.length ≤ 12
  pos : 0 < s.length
  lens : ld.length = s.length
  small : ∀ z ∈ ld, 0 ≤ z ∧ z ≤ 1000000

theorem WorkAt.workV {w0 w : World} {b gl : Nat} {s : List Int} {up : Nat} {ld : List Int} {ms : List Mv} (h : WorkAt w0 w b gl s up ld ms) : WorkV w b s up ld := by
  obtain ⟨sv, cl, mv, h1, h2, h3, h4, h5⟩ := h.ex
  refine ⟨⟨sv, .slice (some ⟨gl, 0, none⟩) s.length cl, by simp [World.cell?, h2], by simp [World.cell?, h2], by simp [World.cell?, h2], h1.keep h.keep, ?_⟩, h.up32, h.len, h.lens⟩
  refine IntsV.of_row (by rw [h.lens]; exact h3) (fun z hz => ?_)
  have := h.small z hz
  unfold I64; omega
theorem WorkAt.later {w0 w w' : World} {b gl : Nat} {s : List Int} {up : Nat} {ld : List Int} {ms : List Mv} (h : WorkAt w0 w b gl s up ld ms) (hk : Keep (fun _ => False) w w') : WorkAt w0 w' b gl s up ld ms := by
  obtain ⟨sv, cl, mv, h1, h2, h3, h4, h5⟩ := h.ex
  exact ⟨⟨sv, cl, mv, h1, hk.get h2 id, h3.keep hk (fun _ _ x => x), h4.keep hk (fun _ _ x => x), h5⟩, h.keep.next hk (fun _ _ x => x) (fun _ _ x => x), h.b0, h.g0, h.ne, h.up32, h.len, h.pos, h.lens, h.small⟩
/-- Memory that is not the work's may change. -/
theorem WorkAt.aside {F : Nat → Prop} {w0 w w' : World} {b gl : Nat} {s : List Int} {up : Nat} {ld : List Int} {ms : List Mv} (h : WorkAt w0 w b gl s up ld ms) (hk : Keep F w w') (hF : ∀ k, F k → w0.heap.size ≤ k ∧ k ≠ b ∧ k ≠ gl)
    (hm : ∀ k c0 c1 c2 mv, w.heap[b]? = some (.cells #[c0, c1, c2, mv] 70 (0, 0)) → mv.ownBlock = some k → ¬ F k) : WorkAt w0 w' b gl s up ld ms := by
  obtain ⟨sv, cl, mv, h1, h2, h3, h4, h5⟩ := h.ex
  exact ⟨⟨sv, cl, mv, h1, hk.get h2 (fun x => (hF _ x).2.1 rfl), h3.keep hk (fun k e x => by injection e with e; exact (hF _ x).2.2 e.symm), h4.keep hk (fun k e x => hm k _ _ _ mv h2 e x), h5⟩,
    h.keep.next hk (fun _ _ x => x) (fun k hk x => absurd (hF k x).1 (by omega)), h.b0, h.g0, h.ne, h.up32, h.len, h.pos, h.lens, h.small⟩
/-- One load is set. -/
theorem WorkAt.bump {w0 w : World} {b gl : Nat} {s : List Int} {up : Nat} {ld : List Int} {ms : List Mv} (h : WorkAt w0 w b gl s up ld ms) (x : Nat) (hx : x < s.length) (z : Int) (hz : 0 ≤ z ∧ z ≤ 1000000) :
    WorkAt w0 (w.setCell ⟨gl, x, none⟩ (.int .i64 z)) b gl s up (ld.set x z) ms := by
  obtain ⟨sv, cl, mv, h1, h2, h3, h4, h5⟩ := h.ex
  have hk : Keep (fun k => k = gl) w (w.setCell ⟨gl, x, none⟩ (.int .i64 z)) := by refine Keep.setCell (Keep.refl _ _) (.inl ?_) _; rfl
  refine ⟨⟨sv, cl, mv, h1, hk.get h2 h.ne, ?_, h4.keep hk (fun k e x => (h5 k e).2.2 x), h5⟩, h.keep.next hk (fun _ _ x => x) (fun k hk x => absurd h.g0 (by rw [← x]; omega)), h.b0, h.g0, h.ne, h.up32, h.len, h.pos, by rw [List.length_set]; exact h.lens, fun u hu => ?_⟩
  · have := h3.setOne x hx (.int .i64 z) rfl
    have e : numsV (ld.set x z) = (numsV ld).set x (.int .i64 z) := by unfold numsV; rw [List.map_set]
    rw [e]; exact this
  · rcases List.mem_or_eq_of_mem_set hu with hu | rfl
    · exact h.small u hu
    · exact hz
end Go.Proofs.Ytmdonjadhkffiaa
/- Heal: begin. Conditions: as each law names them. -/
namespace Go.Proofs.Ytmdonjadhkffiaa
open Go.RowKit
open HE

theorem one_zero_cell : ∀ i, i < (#[Value.int .i64 0] : Array Value).size → (#[Value.int .i64 0] : Array Value)[i]! = Value.int .i64 0 := by
  intro i hi
  have h : i = 0 := by simpa using hi
  subst h
  rfl

def BeginPost (w : World) (s : List Int) (ps : List Pl) (up : Nat) (copies : Int) (e : Ending) (w' : World) : Prop :=
  Keep (fun _ => False) w w' ∧
  ((check s ps ≠ 0 ∧ e = .returned (.tuple #[.pointer none, .int .i64 (check s ps : Nat)])) ∨
   (check s ps = 0 ∧ (copies < 1 ∨ 12 < copies) ∧ e = .returned (.tuple #[.pointer none, .int .i64 2])) ∨
   (check s ps = 0 ∧ (1 ≤ copies ∧ copies ≤ 12) ∧ ∃ b gl, e = .returned (.tuple #[.pointer (some ⟨b, 0, none⟩), .int .i64 0]) ∧ WorkAt w w' b gl s up (ldL s.length ps []) []))

set_option maxHeartbeats 4000000 in
set_option maxRecDepth 20000 in
theorem begin_any (w : World) (v u : Value) (s : List Int) (ps : List Pl) (up : Nat) (copies : Int) (hs : IntsV w v s) (hp : PlsV w u ps) (hup : up < 4294967296) (hc64 : I64 copies) :
    Calls Try.prog 36 #[v, .int .u32 (up : Int), .int .i64 copies, u] w (BeginPost w s ps up copies) := by
  have hq := check_any w v u s ps hs hp
  have HQ := hid hq
  have HSV := hid hs
  have HPV := hid hp
  obtain ⟨Post, hPost⟩ : ∃ Post, Post = BeginPost w s ps up copies := ⟨_, rfl⟩
  rw [← hPost]
  have HPost := hid hPost
  obtain ⟨E, hE⟩ : ∃ E, E = check s ps := ⟨_, rfl⟩
  rw [← hE] at HQ
  have HE := hid hE
  obtain ⟨aS, cS, rfl, hmS, -, -⟩ := hs
  obtain ⟨aP, cP, rfl, hmP, hcP⟩ := hp
  obtain ⟨m, hmm⟩ : ∃ m, m = ps.length := ⟨_, rfl⟩
  obtain ⟨N, hN⟩ : ∃ N, N = s.length := ⟨_, rfl⟩
  rw [← hmm] at HQ HPV hmP ⊢
  rw [← hN] at HQ HSV hmS ⊢
  have HM := hid (And.intro hmm hN)
  have HC := hid hcP
  unfold I64 at hc64
  have hm63 : (m : Int) ≤ 9223372036854775807 := by unfold maxLen at hmP; omega
  have hN63 : (N : Int) ≤ 9223372036854775807 := by unfold maxLen at hmS; omega
  clear hq hPost hE hmm hN hcP
  go_enter Try.func36, Try.ntmps36
  go_wp2_with (at_builtin; refine stopAt ?_; intro q hq)
  refine HQ.out.mono ?_
  rintro e w1 ⟨rfl, hk1⟩
  have HK1 := hid hk1
  clear hk1
  by_cases hE0 : E = 0
  · have h0 := hE0
    have HE0 := hid (show check s ps = 0 by rw [← HE.out, hE0])
    subst h0
    clear hE0
    have t0 : (((0 : Nat) : Int) != 0) = false := by decide
    have hcz := check_zero HE0.out
    by_cases hc1 : copies < 1
    · have t1 : decide (copies < 1) = true := by simpa using hc1
      have H1 := hid hc1
      clear hc1
      go_wp2_with (at_builtin; refine stopAt ?_; intro q hq)
      rw [HPost.out]
      exact ⟨HK1.out, .inr (.inl ⟨HE0.out, .inl H1.out, rfl⟩)⟩
    · have t1 : decide (copies < 1) = false := by simpa using hc1
      by_cases hc2 : 12 < copies
      · have t2 : decide (12 < copies) = true := by simpa using hc2
        have H1 := hid hc2
        clear hc1 hc2
        go_wp2_with (at_builtin; refine stopAt ?_; intro q hq)
        rw [HPost.out]
        exact ⟨HK1.out, .inr (.inl ⟨HE0.out, .inr H1.out, rfl⟩)⟩
      · have t2 : decide (12 < copies) = false := by simpa using hc2
        have HCp := hid (show 1 ≤ copies ∧ copies ≤ 12 by omega)
        have hN12 : N ≤ 12 := by have := HM.out.2; omega
        have hN0 : 1 ≤ N := by have := HM.out.2; omega
        have HWf := hid hcz.2.2
        have hm256 : m ≤ 256 := by have := HM.out.1; omega
        clear hc1 hc2 hcz
        have hmk := fun w : World => run_make_n (P := Try.prog) ty_nums .i64 .i64 N (by omega) (by unfold maxLen; omega) w
        go_wp2_with (at_builtin; refine stopAt ?_; intro q hq)
        have hn2 := heap_alloc_new w1 (.cells (madeCells #[.int .i64 0] N) 3)
        have hk2 : Keep (fun _ => False) w1 (w1.alloc (.cells (madeCells #[.int .i64 0] N) 3)) := (Keep.refl _ _).alloc _
        obtain ⟨w2, hw2⟩ : ∃ w2, w2 = w1.alloc (.cells (madeCells #[.int .i64 0] N) 3) := ⟨_, rfl⟩
        have hsz : w2.heap.size = w1.heap.size + 1 := by rw [hw2]; simp
        rw [← hw2] at hn2 hk2 ⊢
        obtain ⟨gl, hgl⟩ : ∃ gl, gl = w1.heap.size := ⟨_, rfl⟩
        rw [← hgl] at hn2 hsz ⊢
        have hn3 := heap_alloc_new w2 (.cells #[.slice aS N cS, .int .u32 (up : Int), .slice (some ⟨gl, 0, none⟩) N N, .slice none 0 0] 70)
        have hk3 : Keep (fun _ => False) w2 (w2.alloc (.cells #[.slice aS N cS, .int .u32 (up : Int), .slice (some ⟨gl, 0, none⟩) N N, .slice none 0 0] 70)) := (Keep.refl _ _).alloc _
        obtain ⟨w3, hw3⟩ : ∃ w3, w3 = w2.alloc (.cells #[.slice aS N cS, .int .u32 (up : Int), .slice (some ⟨gl, 0, none⟩) N N, .slice none 0 0] 70) := ⟨_, rfl⟩
        rw [← hw3] at hn3 hk3 ⊢
        obtain ⟨b, hb⟩ : ∃ b, b = gl + 1 := ⟨_, rfl⟩
        rw [hsz, ← hb] at hn3
        rw [← hb]
        have hWork : WorkAt w w3 b gl s up (ldL N [] []) [] := by
          have h1 := HK1.out.size
          refine ⟨⟨.slice aS N cS, N, .slice none 0 0, by rw [HM.out.2]; rw [HM.out.2] at HSV; exact HSV.out, by rw [← HM.out.2]; exact hn3, ?_, Row.nil _ _ _, fun k e => by simp [Value.ownBlock] at e⟩,
            (HK1.out.next hk2 (fun _ _ x => x) (fun _ _ x => x)).next hk3 (fun _ _ x => x) (fun _ _ x => x), by omega, by omega, by omega, hup, by rw [← HM.out.2]; exact hN12, by rw [← HM.out.2]; exact hN0, by rw [ldL_length, HM.out.2], fun z hz => ?_⟩
          · rw [← HM.out.2]
            have hr := Row.made (n := N) (size := 1) (z := #[.int .i64 0]) (by rw [Nat.mul_one]; exact hn2) hmS
            rw [Nat.mul_one, madeCells_alike #[.int .i64 0] (.int .i64 0) one_zero_cell (by decide)] at hr
            have e : numsV (ldL N [] []) = List.replicate N (.int .i64 0) := by rw [ldL_nil]; unfold numsV; rw [List.map_replicate]
            rw [e]
            exact hr.keep hk3 (fun _ _ x => x)
          · rw [ldL_nil] at hz
            have := List.eq_of_mem_replicate hz
            omega
        have HW0 := hid hWork
        clear hWork hn2 hk2 hw2 hsz hgl hn3 hk3 hw3 hb hmk
        go_loopw [37] (fun iv wr => ∃ i : Nat, i ≤ m ∧ iv = .int .i64 i ∧ Hid (WorkAt w wr b gl s up (ldL N (ps.take i) []) [])) (fun iv _ => m - (intOf iv).toNat)
        case atStart => exact ⟨0, Nat.zero_le _, rfl, HW0⟩
        case round =>
          obtain ⟨i, hi, rfl, HW⟩ := hrel
          by_cases hin : i < m
          · have h4 : (i : Int) < m := by omega
            have hil : i < ps.length := by have := HM.out.1; omega
            obtain ⟨ad, rfl, hcell⟩ := HC.out (by omega)
            obtain ⟨nv, g1, g2, g3, g4⟩ := hcell i hil
            have a0 := cell_old HW.out.keep _ _ g1
            have a1 := cell_old HW.out.keep _ _ g2
            have HG := hid g3
            obtain ⟨nl, hnl⟩ : ∃ nl, nl = ps[i].nodes := ⟨_, rfl⟩
            obtain ⟨ch, hch⟩ : ∃ ch, ch = ps[i].chunk := ⟨_, rfl⟩
            have hrise : Rise s.length nl := by rw [hnl]; exact HWf.out _ (List.getElem_mem hil)
            have hlast : ldL N (ps.take i) nl = ldL N (ps.take (i + 1)) [] := by
              rw [hnl, ldL_snoc, List.take_add_one, List.getElem?_eq_getElem hil]; rfl
            rw [← hnl] at HG
            rw [← hch] at a0
            have HR := hid (And.intro hrise hlast)
            obtain ⟨an, cn, hnv, hnm, hnz, hnc⟩ := HG.out
            subst hnv
            have hnn63 : (nl.length : Int) ≤ 9223372036854775807 := by unfold maxLen at hnm; omega
            have HNc := hid hnc
            clear hcell g1 g2 g3 g4 hnl hch hnz hnc hrise hlast
            have hk2 : Keep (fun _ => False) wr (wr.alloc (.cells #[.int .i64 ch, .slice an nl.length cn] 44)) := (Keep.refl _ _).alloc _
            have hn2 := heap_alloc_new wr (.cells #[.int .i64 ch, .slice an nl.length cn] 44)
            go_upto_region 10 with fail
            obtain ⟨gp, hgp⟩ : ∃ gp, gp = wr.heap.size := ⟨_, rfl⟩
            obtain ⟨w2, hw2⟩ : ∃ w2, w2 = wr.alloc (.cells #[.int .i64 ch, .slice an nl.length cn] 44) := ⟨_, rfl⟩
            rw [← hw2] at hk2
            rw [← hw2, ← hgp] at hn2
            rw [← hw2, ← hgp]
            have HW2 : Hid (WorkAt w w2 b gl s up (ldL N (ps.take i) (nl.take 0)) []) := hid (HW.out.later hk2)
            clear hw2 hgp a0 a1 hk2
            obtain ⟨k0, k1, kf, kb⟩ := cells2' hn2
            clear hn2 k0 kf kb
            go_wp2_with (at_builtin; refine stopAt ?_; intro q hq)
            clear k1
            go_loopw [44] (fun jv wy => ∃ k : Nat, k ≤ nl.length ∧ jv = .int .i64 k ∧ Hid (WorkAt w wy b gl s up (ldL N (ps.take i) (nl.take k)) [])) (fun jv _ => nl.length - (intOf jv).toNat)
            case atStart => exact ⟨0, Nat.zero_le _, rfl, HW2⟩
            case round =>
              obtain ⟨k, hk, rfl, HI⟩ := hrel
              by_cases hkn : k < nl.length
              · have h5 : (k : Int) < nl.length := by omega
                obtain ⟨adn, rfl, hcell⟩ := HNc.out (by omega)
                have p1 := cell_old HI.out.keep _ _ (hcell k hkn)
                have hxr := HR.out.1.2 nl[k] (List.getElem_mem hkn)
                obtain ⟨xn, hxn⟩ : ∃ x : Nat, (x : Int) = nl[k] := ⟨nl[k].toNat, by omega⟩
                have hnot : (xn : Int) ∉ nl.take k := by
                  intro hm
                  obtain ⟨j, hj, he⟩ := List.getElem_of_mem hm
                  rw [List.getElem_take, hxn] at he
                  rw [List.length_take] at hj
                  have := List.pairwise_iff_getElem.1 HR.out.1.1 j k (by omega) hkn (by omega)
                  omega
                have htk : nl.take (k + 1) = nl.take k ++ [(xn : Int)] := by
                  rw [List.take_add_one, List.getElem?_eq_getElem hkn, hxn]; rfl
                rw [← hxn] at p1 hxr
                have hxN : xn < N := by have := HM.out.2; omega
                have hxN' : (xn : Int) < N := by omega
                have hst := ldL_step N (ps.take i) (nl.take k) xn hxN hnot
                rw [← htk] at hst
                have hzc : loadOf (ps.take i) (xn : Int) + 0 ≤ 256 := by
                  unfold loadOf
                  refine Nat.le_trans (Nat.add_le_add_right List.countP_le_length 0) ?_
                  rw [List.length_take]; omega
                have hld := ldL_get N (ps.take i) (nl.take k) xn hxN
                rw [if_neg hnot] at hld
                obtain ⟨zc, hzc'⟩ : ∃ zc, zc = loadOf (ps.take i) (xn : Int) + 0 := ⟨_, rfl⟩
                rw [← hzc'] at hst hzc hld
                obtain ⟨sv, cl, mv, -, f2, f3, -, -⟩ := HI.out.ex
                rw [← HM.out.2] at f2 f3
                have q1 : wr.cell? ⟨b, 2, none⟩ = some (.slice (some ⟨gl, 0, none⟩) N cl) := by simp [World.cell?, f2]
                have q2 : wr.cell? ⟨gl, xn, none⟩ = some (.int .i64 (zc : Int)) := by
                  rw [f3.cell xn (by omega)]
                  unfold numsV
                  rw [List.getElem?_map, hld]; rfl
                have q3 : wr.frozen? ⟨gl, xn, none⟩ = false := f3.frozen xn (by omega)
                have wq : IntKind.i64.wrap ((zc : Int) + 1) = (zc : Int) + 1 := by simp [IntKind.wrap, IntKind.signed, IntKind.bits]; omega
                have hnew := HI.out.bump xn (by have := HM.out.2; omega) ((zc : Int) + 1) (by omega)
                rw [hst] at hnew
                have HNew := hid hnew
                clear hcell hxn hnot htk hst hzc hld hzc' f2 f3 hnew hxr
                go_wp2_with (at_builtin; refine stopAt ?_; intro q hq)
                exact ⟨⟨k + 1, by omega, by go_num, HNew⟩, by simp [intOf]; omega⟩
              · have h5 : decide ((k : Int) < nl.length) = false := by simp; omega
                have hfin := HI.out
                rw [show nl.take k = nl from List.take_of_length_le (by omega), HR.out.2] at hfin
                have HFin := hid hfin
                clear hfin
                go_wp2_with (at_builtin; refine stopAt ?_; intro q hq)
                exact ⟨⟨i + 1, by omega, by go_num, HFin⟩, by simp [intOf]; omega⟩
          · have h4 : decide ((i : Int) < m) = false := by simp; omega
            have hfin := HW.out
            rw [show ps.take i = ps from List.take_of_length_le (by have := HM.out.1; omega), HM.out.2] at hfin
            have HFin := hid hfin
            clear hfin
            go_wp2_with (at_builtin; refine stopAt ?_; intro q hq)
            rw [HPost.out]
            exact ⟨HFin.out.keep, .inr (.inr ⟨HE0.out, HCp.out, b, gl, rfl, HFin.out⟩)⟩
  · have t0 : ((E : Int) != 0) = true := by simp; omega
    have HE1 := hid (show check s ps ≠ 0 by rw [← HE.out]; exact hE0)
    clear hE0
    go_wp2_with (at_builtin; refine stopAt ?_; intro q hq)
    rw [HPost.out]
    exact ⟨HK1.out, .inl ⟨HE1.out, by rw [← HE.out]; rfl⟩⟩
end Go.Proofs.Ytmdonjadhkffiaa
/- Heal: what a plan computes in memory is what the model says. Conditions: as each law names them. -/
namespace Go.Proofs.Ytmdonjadhkffiaa
open Go.RowKit
open HE

theorem cmpI_neg (a b : Int) : cmpI a b < 0 ↔ a < b := by
  unfold cmpI
  split
  · omega
  · split <;> omega
theorem cmpI_zero (a b : Int) : cmpI a b = 0 ↔ a = b := by
  unfold cmpI
  split
  · omega
  · split <;> omega
theorem cmpI_pos (a b : Int) : 0 < cmpI a b ↔ b < a := by
  unfold cmpI
  split
  · omega
  · split <;> omega
theorem ld_getD (N : Nat) (ps : List Pl) (a : Int) (h : 0 ≤ a ∧ a < N) : (ldL N ps []).getD a.toNat 0 = (loadOf ps a : Int) := by
  rw [List.getD_eq_getElem?_getD, ldL_get N ps [] a.toNat (by omega)]
  have : ((a.toNat : Nat) : Int) = a := by omega
  simp [this]
theorem cmpW_neg {s : List Int} {up : Nat} {ps : List Pl} {l : List Int} {a b : Int} (ha : 0 ≤ a ∧ a < s.length) (hb : 0 ≤ b ∧ b < s.length) :
    decide (cmpW s (live up l) (ldL s.length ps []) a b < 0) = better s up ps l a b := by
  apply Bool.eq_iff_iff.2
  rw [decide_eq_true_iff, better_iff]
  unfold cmpW
  rw [ld_getD _ _ _ ha, ld_getD _ _ _ hb]
  simp only [orI]
  by_cases h1 : cmpI (on s (live up l) a : Int) (on s (live up l) b : Int) = 0
  · rw [if_pos h1]
    rw [cmpI_zero] at h1
    by_cases h2 : cmpI (loadOf ps a : Int) (loadOf ps b : Int) = 0
    · rw [if_pos h2]
      rw [cmpI_zero] at h2
      by_cases h3 : cmpI a b = 0
      · rw [if_pos h3]; rw [cmpI_zero] at h3; omega
      · rw [if_neg h3, cmpI_neg]; omega
    · rw [if_neg h2, cmpI_neg]
      rw [cmpI_zero] at h2; omega
  · rw [if_neg h1, cmpI_neg]
    rw [cmpI_zero] at h1; omega
theorem cmpW_pos {s : List Int} {up : Nat} {ps : List Pl} {l : List Int} {a b : Int} (ha : 0 ≤ a ∧ a < s.length) (hb : 0 ≤ b ∧ b < s.length) :
    decide (0 < cmpW s (live up l) (ldL s.length ps []) a b) = better s up ps l b a := by
  apply Bool.eq_iff_iff.2
  rw [decide_eq_true_iff, better_iff]
  unfold cmpW
  rw [ld_getD _ _ _ ha, ld_getD _ _ _ hb]
  simp only [orI]
  by_cases h1 : cmpI (on s (live up l) a : Int) (on s (live up l) b : Int) = 0
  · rw [if_pos h1]
    rw [cmpI_zero] at h1
    by_cases h2 : cmpI (loadOf ps a : Int) (loadOf ps b : Int) = 0
    · rw [if_pos h2]
      rw [cmpI_zero] at h2
      by_cases h3 : cmpI a b = 0
      · rw [if_pos h3]; rw [cmpI_zero] at h3; omega
      · rw [if_neg h3, cmpI_pos]; omega
    · rw [if_neg h2, cmpI_pos]
      rw [cmpI_zero] at h2; omega
  · rw [if_neg h1, cmpI_pos]
    rw [cmpI_zero] at h1; omega

theorem pick_congr {lt lt' : Int → Int → Bool} {Q : Int → Prop} (h : ∀ x y, Q x → Q y → lt x y = lt' x y) : ∀ (l : List Int) (m : Option Int), (∀ x ∈ l, Q x) → (∀ x, m = some x → Q x) → pickFrom lt m l = pickFrom lt' m l
  | [], m, _, _ => by cases m <;> rfl
  | x :: l, none, hl, _ => pick_congr h l (some x) (fun y hy => hl y (List.mem_cons_of_mem _ hy)) (fun y hy => by cases hy; exact hl _ List.mem_cons_self)
  | x :: l, some y, hl, hm => by
    show pickFrom lt (some (if lt x y then x else y)) l = pickFrom lt' (some (if lt' x y then x else y)) l
    rw [h x y (hl x List.mem_cons_self) (hm y rfl)]
    refine pick_congr h l _ (fun z hz => hl z (List.mem_cons_of_mem _ hz)) (fun z hz => ?_)
    cases hz
    split
    · exact hl x List.mem_cons_self
    · exact hm y rfl

theorem free_congr {s : List Int} {up : Nat} {l h : List Int} (hh : ∀ x, x ∈ h ↔ x ∈ l) : free s up h = free s up l := by
  unfold free
  apply List.filter_congr
  intro x _
  rw [decide_eq_decide.2 (hh x)]

/-- Where the program makes a copy is where the model does. -/
theorem targetV_eq {s : List Int} {up : Nat} {ps : List Pl} {l h : List Int} (hh : ∀ x, x ∈ h ↔ x ∈ l) : targetV s up (live up l) (ldL s.length ps []) h = (target s up ps l).getD (-1) := by
  unfold targetV target
  rw [free_congr hh]
  rw [pick_congr (Q := fun x => 0 ≤ x ∧ x < (s.length : Int)) (fun x y hx hy => cmpW_neg hx hy) (free s up l) none (fun x hx => (mem_free.1 hx).1) (fun x hx => by cases hx)]

/-- The loads when one copy more is there. -/
theorem ldL_with {N : Nat} {ps : List Pl} {i : Nat} {t : Nat} (hi : i < ps.length) (ht : t < N) (hn : (t : Int) ∉ nodesAt ps i) :
    (ldL N ps []).set t ((loadOf ps (t : Int) : Int) + 1) = ldL N (setNodes ps i (withN (nodesAt ps i) t)) [] := by
  have hl : ∀ n : Int, loadOf (setNodes ps i (withN (nodesAt ps i) t)) n = loadOf ps n + if n = t then 1 else 0 := by
    intro n
    have hmem : n ∈ withN (nodesAt ps i) t ↔ n = t ∨ n ∈ nodesAt ps i := by
      rw [(withN_perm hn).mem_iff, List.mem_cons]
    unfold loadOf setNodes
    rw [List.countP_set hi]
    have hnode : nodesAt ps i = ps[i].nodes := by unfold nodesAt; simp [hi]
    have hge : decide (n ∈ ps[i].nodes) = true → 1 ≤ ps.countP fun p => decide (n ∈ p.nodes) := fun h => by
      have : 0 < ps.countP fun p => decide (n ∈ p.nodes) := List.countP_pos_iff.2 ⟨ps[i], List.getElem_mem hi, h⟩
      omega
    have hd : decide (n ∈ withN (nodesAt ps i) t) = (decide (n = t) || decide (n ∈ ps[i].nodes)) := by
      rw [decide_eq_decide.2 hmem, Bool.decide_or, hnode]
    simp only [hd]
    by_cases hnt : n = t
    · have hnp : decide (n ∈ ps[i].nodes) = false := by rw [← hnode, hnt]; simpa using hn
      simp [hnt] at hnp ⊢
      simp [hnp]
    · by_cases hp : n ∈ ps[i].nodes
      · have := hge (by simpa using hp)
        simp [hnt, hp]; omega
      · simp [hnt, hp]
  apply List.ext_getElem?
  intro j
  by_cases hj : j < N
  · rw [ldL_get N _ _ j hj, hl]
    by_cases e : j = t
    · subst e
      rw [List.getElem?_set_self (by rw [ldL_length]; omega)]
      simp
    · rw [List.getElem?_set_ne (fun h => e h.symm), ldL_get N ps [] j hj]
      have : (j : Int) ≠ (t : Int) := by omega
      simp [this]
  · rw [List.getElem?_eq_none (by rw [List.length_set, ldL_length]; omega), List.getElem?_eq_none (by rw [ldL_length]; omega)]

theorem mergeSort_rise {l : List Int} (hn : l.Nodup) : (l.mergeSort fun x y => decide (x ≤ y)).Pairwise (· < ·) := by
  have hperm := List.mergeSort_perm l fun x y => decide (x ≤ y)
  have hle : (l.mergeSort fun x y => decide (x ≤ y)).Pairwise fun x y => decide (x ≤ y) = true := List.pairwise_mergeSort (fun a b c h1 h2 => by simp at *; omega) (fun a b => by simp; omega) l
  refine (hle.and (hperm.nodup_iff.2 hn)).imp fun {x y} h => ?_
  have := h.1
  simp at this
  have := h.2
  omega
theorem rise_live {n up : Nat} {l : List Int} (h : Rise n l) : (live up l).Pairwise (· < ·) := h.1.sublist List.filter_sublist
/-- The live ones behind one copy more, sorted. -/
theorem live_sorted {n up : Nat} {l : List Int} {t : Int} (h : Rise n l) (hn : t ∉ l) (hu : isUp up t = true) (h0 : 0 ≤ t) (h1 : t < n) :
    ((live up l ++ [t]).mergeSort fun x y => decide (x ≤ y)) = live up (withN l t) := by
  refine rising_unique (mergeSort_rise ?_) (rise_live (withN_rise h h0 h1)) (fun x => ?_)
  · rw [List.nodup_append]
    refine ⟨(rise_live h).imp fun h => by omega, by simp, fun a ha b hb => ?_⟩
    rw [List.mem_singleton] at hb
    subst hb
    intro e
    subst e
    exact hn (List.mem_filter.1 ha).1
  · rw [(List.mergeSort_perm _ _).mem_iff, List.mem_append, List.mem_singleton]
    unfold live
    rw [List.mem_filter, List.mem_filter, (withN_perm hn).mem_iff, List.mem_cons]
    constructor
    · rintro (h | rfl)
      · exact ⟨.inr h.1, h.2⟩
      · exact ⟨.inl rfl, hu⟩
    · rintro ⟨rfl | h, h2⟩
      · exact .inr rfl
      · exact .inl ⟨h, h2⟩
end Go.Proofs.Ytmdonjadhkffiaa
/- Heal: what a plan keeps from round to round. Conditions: as each law names them. -/
namespace Go.Proofs.Ytmdonjadhkffiaa
open Go.RowKit
open HE

theorem mvV_one (m : Mv) : ∀ u ∈ mvV m, u.oneCell' = true := by
  intro u hu
  simp only [mvV, List.mem_cons, List.not_mem_nil, or_false] at hu
  rcases hu with rfl | rfl | rfl <;> rfl
theorem mvsV_snoc (l : List Mv) (m : Mv) : mvsV (l ++ [m]) = mvsV l ++ mvV m := by unfold mvsV; simp
theorem ty_moves : SliceTy Try.prog 30 52 (.agg #[.int .i64 0, .int .i64 0, .int .i64 0]) 3 24 := ⟨by kernel_rfl, by kernel_rfl, rfl, by decide⟩

/-- A block that is none of the work's. -/
def Clear (w : World) (b gl k : Nat) : Prop := k ≠ b ∧ k ≠ gl ∧ ∀ c0 c1 c2 mv, w.heap[b]? = some (.cells #[c0, c1, c2, mv] 70 (0, 0)) → mv.ownBlock ≠ some k

/-- One move more. -/
theorem WorkAt.push {w0 w w' : World} {b gl : Nat} {s : List Int} {up : Nat} {ld : List Int} {ms : List Mv} {mv' : Value} (h : WorkAt w0 w b gl s up ld ms) {c0 c1 c2 mv : Value}
    (hb : w.heap[b]? = some (.cells #[c0, c1, c2, mv] 70 (0, 0))) (m : Mv) (hk : Keep (fun k => mv.ownBlock = some k) w w') (hr : Row w' 52 3 mv' (ms.length + 1) (mvsV ms ++ mvV m))
    (ho : ∃ k, mv'.ownBlock = some k ∧ (mv.ownBlock = some k ∨ w.heap.size ≤ k)) : WorkAt w0 (w'.setCell ⟨b, 3, none⟩ mv') b gl s up ld (ms ++ [m]) := by
  obtain ⟨sv, cl, mv0, h1, h2, h3, h4, h5⟩ := h.ex
  rw [hb] at h2
  have hh := Option.some.inj h2
  injection hh with h6 h7
  obtain ⟨rfl, rfl, rfl, rfl⟩ : c0 = sv ∧ c1 = .int .u32 (up : Int) ∧ c2 = .slice (some ⟨gl, 0, none⟩) s.length cl ∧ mv = mv0 := by simpa using h6
  have hb' := hk.get hb (fun e => (h5 b e).2.1 rfl)
  have hk2 : Keep (fun k => k = b) w' (w'.setCell ⟨b, 3, none⟩ mv') := by refine Keep.setCell (Keep.refl _ _) (.inl ?_) _; rfl
  have hb2 : (w'.setCell ⟨b, 3, none⟩ mv').heap[b]? = some (.cells #[c0, .int .u32 (up : Int), .slice (some ⟨gl, 0, none⟩) s.length cl, mv'] 70 (0, 0)) := by
    simp [World.setCell, Array.getElem?_modify, hb']
  have hbs := heap_lt hb
  have hg : gl < w.heap.size := h3.lt rfl
  have hout : ∀ k, mv'.ownBlock = some k → w0.heap.size ≤ k ∧ k ≠ b ∧ k ≠ gl := by
    intro k e
    obtain ⟨k', e', hc⟩ := ho
    rw [e] at e'
    cases e'
    have := h.keep.size
    rcases hc with hc | hc
    · exact h5 k hc
    · omega
  refine ⟨⟨c0, cl, mv', h1, hb2, (h3.keep hk (fun k e x => ?_)).keep hk2 (fun k e x => ?_), ?_, hout⟩, (h.keep.next hk (fun _ _ x => x) (fun k hk x => absurd (h5 k x).1 (by omega))).next hk2 (fun _ _ x => x) (fun k hk x => absurd h.b0 (by omega)), h.b0, h.g0, h.ne, h.up32, h.len, h.pos, h.lens, h.small⟩
  · injection e with e
    exact (h5 k x).2.2 e.symm
  · injection e with e
    exact h.ne (by rw [← x, ← e])
  · rw [mvsV_snoc, List.length_append, List.length_singleton]
    exact hr.keep hk2 (fun k e x => (hout k e).2.1 x)

/-- Between places. -/
structure PlanOut (w0 w : World) (b gl : Nat) (s : List Int) (up copies : Nat) (ps0 : List Pl) (i : Nat) (ps : List Pl) (ms : List Mv) : Prop where
  work : WorkAt w0 w b gl s up (ldL s.length ps []) ms
  tot : (plan s up copies ps0).1 = ms ++ (planFrom s up copies i (ps0.length - i) ps).1
  wf : Wf s ps
  len : ps.length = ps0.length
  left : ∀ j, i ≤ j → nodesAt ps j = nodesAt ps0 j
  chunk : ∀ j, chunkAt ps j = chunkAt ps0 j
  msl : ms.length ≤ 12 * i

/-- Within a place. -/
structure PlanIn (w0 w : World) (b gl gp : Nat) (s : List Int) (up copies : Nat) (ps0 : List Pl) (i f : Nat) (ps : List Pl) (h : List Int) (hv lv : Value) (ms : List Mv) : Prop where
  work : WorkAt w0 w b gl s up (ldL s.length ps []) ms
  tot : (plan s up copies ps0).1 = ms ++ (planAt s up copies i f ps).1 ++ (planFrom s up copies (i + 1) (ps0.length - (i + 1)) (planAt s up copies i f ps).2).1
  wf : Wf s ps
  len : ps.length = ps0.length
  left : ∀ j, i < j → nodesAt ps j = nodesAt ps0 j
  chunk : ∀ j, chunkAt ps j = chunkAt ps0 j
  msl : ms.length + f ≤ 12 * (i + 1)
  fuel : copies ≤ f + (live up (nodesAt ps i)).length
  has : Row w 3 1 hv h.length (numsV h)
  mem : ∀ x, x ∈ h ↔ x ∈ nodesAt ps i
  hlen : h.length = (nodesAt ps i).length
  liv : Row w 3 1 lv (live up (nodesAt ps i)).length (numsV (live up (nodesAt ps i)))
  own : ∀ k, hv.ownBlock = some k ∨ lv.ownBlock = some k ∨ k = gp → w0.heap.size ≤ k ∧ Clear w b gl k
  apart : ∀ k, hv.ownBlock = some k → lv.ownBlock ≠ some k ∧ k ≠ gp
  apart2 : ∀ k, lv.ownBlock = some k → k ≠ gp
  pl : ∃ nv, w.heap[gp]? = some (.cells #[.int .i64 (chunkAt ps0 i), nv] 44 (0, 0))

theorem PlanOut.later {w0 w w' : World} {b gl : Nat} {s : List Int} {up copies : Nat} {ps0 : List Pl} {i : Nat} {ps : List Pl} {ms : List Mv} (h : PlanOut w0 w b gl s up copies ps0 i ps ms) (hk : Keep (fun _ => False) w w') : PlanOut w0 w' b gl s up copies ps0 i ps ms :=
  ⟨h.work.later hk, h.tot, h.wf, h.len, h.left, h.chunk, h.msl⟩
theorem WorkAt.head {w0 w : World} {b gl : Nat} {s : List Int} {up : Nat} {ld : List Int} {ms : List Mv} (h : WorkAt w0 w b gl s up ld ms) : ∃ cs, w.heap[b]? = some cs := by
  obtain ⟨_, _, _, _, h2, _⟩ := h.ex
  exact ⟨_, h2⟩
theorem Clear.later {w w' : World} {b gl k : Nat} {o : Obj} (h : Clear w b gl k) (_hb : w.heap[b]? = some o) (hb' : w'.heap[b]? = w.heap[b]?) : Clear w' b gl k :=
  ⟨h.1, h.2.1, fun c0 c1 c2 mv e => h.2.2 c0 c1 c2 mv (by rw [← hb']; exact e)⟩
theorem PlanIn.later {w0 w w' : World} {b gl gp : Nat} {s : List Int} {up copies : Nat} {ps0 : List Pl} {i f : Nat} {ps : List Pl} {h : List Int} {hv lv : Value} {ms : List Mv} (H : PlanIn w0 w b gl gp s up copies ps0 i f ps h hv lv ms) (hk : Keep (fun _ => False) w w') : PlanIn w0 w' b gl gp s up copies ps0 i f ps h hv lv ms := by
  obtain ⟨o, hb⟩ := H.work.head
  obtain ⟨nv, hp⟩ := H.pl
  exact ⟨H.work.later hk, H.tot, H.wf, H.len, H.left, H.chunk, H.msl, H.fuel, H.has.keep hk (fun _ _ x => x), H.mem, H.hlen, H.liv.keep hk (fun _ _ x => x),
    fun k e => ⟨(H.own k e).1, (H.own k e).2.later hb (by rw [hk.get hb id, hb])⟩, H.apart, H.apart2, ⟨nv, hk.get hp id⟩⟩
/-- A place is done. -/
theorem PlanIn.out {w0 w : World} {b gl gp : Nat} {s : List Int} {up copies : Nat} {ps0 : List Pl} {i f : Nat} {ps : List Pl} {h : List Int} {hv lv : Value} {ms : List Mv} (H : PlanIn w0 w b gl gp s up copies ps0 i f ps h hv lv ms)
    (hd : planAt s up copies i f ps = ([], ps)) : PlanOut w0 w b gl s up copies ps0 (i + 1) ps ms := by
  refine ⟨H.work, ?_, H.wf, H.len, fun j hj => H.left j (by omega), H.chunk, by have := H.msl; omega⟩
  have := H.tot
  rw [hd] at this
  simpa using this
theorem planAt_end {s : List Int} {up copies i f : Nat} {ps : List Pl} (h : ¬ (0 < (live up (nodesAt ps i)).length ∧ (live up (nodesAt ps i)).length < copies)) : planAt s up copies i f ps = ([], ps) := by
  cases f with
  | zero => rfl
  | succ f => unfold planAt; rw [if_neg h]
theorem planAt_none {s : List Int} {up copies i f : Nat} {ps : List Pl} (h : target s up ps (nodesAt ps i) = none) : planAt s up copies i f ps = ([], ps) := by
  cases f with
  | zero => rfl
  | succ f => unfold planAt; rw [h]; split <;> rfl
end Go.Proofs.Ytmdonjadhkffiaa
/- Heal: the document's Check. Conditions: as each law names them. -/
namespace Go.Proofs.Ytmdonjadhkffiaa
open Go.RowKit
open HE

set_option maxRecDepth 20000 in
set_option maxHeartbeats 1000000 in
theorem rcheck_any (w : World) (v u : Value) (s : List Int) (ps : List Pl) (h : IntsV w v s) (hp : PlsV w u ps) :
    Calls Try.prog 18 #[v, u] w fun e w' => e = .returned (.int .i64 (check s ps : Nat)) ∧ Keep (fun _ => False) w w' := by
  have HP := hid hp
  obtain ⟨E, hE⟩ : ∃ E, E = check s ps := ⟨_, rfl⟩
  rw [← hE]
  obtain ⟨ao, c, rfl, hm, hz, hc⟩ := h
  obtain ⟨au, cu, hu, hmu, -⟩ := id hp
  subst hu
  obtain ⟨m, hmm⟩ : ∃ m, m = s.length := ⟨_, rfl⟩
  have HM := hid hmm
  have HC := hid hc
  rw [← hmm] at hm ⊢
  have hm63 : (m : Int) ≤ 9223372036854775807 := by unfold maxLen at hm; omega
  have HE := hid (show E = if (decide (1 ≤ m ∧ m ≤ 12) && s.all fun x => decide (0 ≤ x ∧ x < 12)) then (if formed ps m then 0 else 160) else 2 by rw [hE, hmm]; rfl)
  clear hE hz hp hmm hc
  go_enter Try.func18, Try.ntmps18
  by_cases h1 : m < 1
  · have t1 : (m : Int) < 1 := by omega
    have H1 := hid h1
    clear h1
    go_wp2_with (at_builtin; refine stopAt ?_; intro q hq)
    go_ret
    exact ⟨by rw [HE.out, if_neg (by have := H1.out; simp; omega)]; rfl, Keep.refl _ _⟩
  have t1 : decide ((m : Int) < 1) = false := by simp; omega
  by_cases h2 : 12 < m
  · have t2 : (12 : Int) < (m : Int) := by omega
    have H2 := hid h2
    clear h2 h1
    go_wp2_with (at_builtin; refine stopAt ?_; intro q hq)
    go_ret
    exact ⟨by rw [HE.out, if_neg (by have := H2.out; simp; omega)]; rfl, Keep.refl _ _⟩
  have t2 : decide ((12 : Int) < (m : Int)) = false := by simp; omega
  have HR := hid (show (decide (1 ≤ m ∧ m ≤ 12)) = true by simp; omega)
  clear h1 h2
  go_wp2_with (at_builtin; refine stopAt ?_; intro q hq)
  go_loopw [5] (fun iv wr => ∃ i : Nat, i ≤ m ∧ iv = .int .i64 i ∧ Hid (Keep (fun _ => False) w wr ∧ ∀ j (h : j < s.length), j < i → (0 ≤ s[j] ∧ s[j] < 12))) (fun iv _ => m - (intOf iv).toNat)
  case atStart => exact ⟨0, Nat.zero_le _, rfl, hid ⟨Keep.refl _ _, fun j _ h => by omega⟩⟩
  case round =>
    obtain ⟨i, hi, rfl, HK⟩ := hrel
    by_cases hin : i < m
    · have h4 : (i : Int) < m := by omega
      have hil : i < s.length := by rw [← HM.out]; exact hin
      obtain ⟨ad, rfl, hcell⟩ := HC.out (by omega)
      have a0 := cell_old HK.out.1 _ _ (hcell i hil)
      obtain ⟨x, hx⟩ : ∃ x, x = s[i] := ⟨_, rfl⟩
      rw [← hx] at a0
      have HX := hid hx
      clear hcell hx
      have hbad : Hid (¬ (0 ≤ x ∧ x < 12) → E = 2) := hid fun hb => by
        rw [HE.out, if_neg]
        rw [Bool.and_eq_true, List.all_eq_true]
        intro hh
        have := hh.2 s[i] (List.getElem_mem hil)
        rw [← HX.out] at this
        exact hb (by simpa using this)
      by_cases hx0 : x < 0
      · have t3 : decide (x < 0) = true := by simpa using hx0
        have HB := hid (hbad.out (by omega))
        clear hx0
        go_wp2_with (at_builtin; refine stopAt ?_; intro q hq)
        go_ret
        exact ⟨by rw [HB.out]; rfl, HK.out.1⟩
      · have t3 : decide (x < 0) = false := by simpa using hx0
        by_cases hx1 : 11 < x
        · have t4 : decide (11 < x) = true := by simpa using hx1
          have HB := hid (hbad.out (by omega))
          clear hx0 hx1
          go_wp2_with (at_builtin; refine stopAt ?_; intro q hq)
          go_ret
          exact ⟨by rw [HB.out]; rfl, HK.out.1⟩
        · have t4 : decide (11 < x) = false := by simpa using hx1
          have HB := hid (show 0 ≤ x ∧ x < 12 by omega)
          clear hx0 hx1
          go_wp2_with (at_builtin; refine stopAt ?_; intro q hq)
          exact ⟨⟨i + 1, by omega, by go_num, hid ⟨HK.out.1, fun j hj hji => by
            by_cases e : j = i
            · subst e
              rw [← HX.out]; exact HB.out
            · exact HK.out.2 j hj (by omega)⟩⟩, by simp [intOf]; omega⟩
    · have h4 : decide ((i : Int) < m) = false := by simp; omega
      have HF := hid (rformed_any wr _ ps m (HP.out.keep HK.out.1) (by unfold I64; omega))
      have hall : (s.all fun x => decide (0 ≤ x ∧ x < 12)) = true := by
        rw [List.all_eq_true]
        intro x hx
        obtain ⟨j, hj, rfl⟩ := List.getElem_of_mem hx
        simpa using HK.out.2 j hj (by have := HM.out; omega)
      have HA := hid hall
      clear hall
      obtain ⟨F, hF⟩ : ∃ F : Int, F = if formed ps m then 0 else 160 := ⟨_, rfl⟩
      rw [← hF] at HF
      have HFq := hid hF
      clear hF
      go_wp2_with (at_builtin; refine stopAt ?_; intro q hq)
      refine HF.out.mono ?_
      rintro e w2 ⟨rfl, hk2⟩
      have HK2 := hid (HK.out.1.next hk2 (fun _ _ x => x) (fun _ _ x => x))
      clear hk2
      go_wp2_with (at_builtin; refine stopAt ?_; intro q hq)
      go_ret
      refine ⟨?_, HK2.out⟩
      rw [HE.out, HR.out, HA.out, HFq.out]
      cases formed ps m <;> rfl

theorem planAt_go {s : List Int} {up copies i f : Nat} {ps : List Pl} {t : Int} (h0 : 0 < (live up (nodesAt ps i)).length) (h1 : (live up (nodesAt ps i)).length < copies) (ht : target s up ps (nodesAt ps i) = some t) :
    planAt s up copies i (f + 1) ps = (⟨chunkAt ps i, source s (live up (nodesAt ps i)) t, t⟩ :: (planAt s up copies i f (setNodes ps i (withN (nodesAt ps i) t))).1, (planAt s up copies i f (setNodes ps i (withN (nodesAt ps i) t))).2) := by
  conv => lhs; unfold planAt
  rw [if_pos ⟨h0, h1⟩, ht]

set_option maxRecDepth 20000 in
/-- ref16.SameMoves and the like want rows of moves that may be read. -/
def MvsV (w : World) (v : Value) (l : List Mv) : Prop :=
  ∃ ao c, v = .slice ao l.length c ∧ l.length ≤ maxLen ∧ (∀ m ∈ l, I64 m.chunk ∧ I64 m.src ∧ I64 m.dst) ∧ Cells w ao l.length 3 (mvsV l)
theorem MvsV.keep {w w' : World} {v : Value} {l : List Mv} (h : MvsV w v l) (hk : Keep (fun _ => False) w w') : MvsV w' v l := by
  obtain ⟨ao, c, h1, h2, h3, h4⟩ := h
  exact ⟨ao, c, h1, h2, h3, h4.keep hk (fun _ _ x => x)⟩

/-- A place is begun. -/
theorem PlanIn.start {w0 w : World} {b gl gp : Nat} {s : List Int} {up copies : Nat} {ps0 : List Pl} {i : Nat} {ps : List Pl} {hv lv nv : Value} {ms : List Mv} (H : PlanOut w0 w b gl s up copies ps0 i ps ms)
    (hi : i < ps0.length) (hc : copies ≤ 12) (hp : w.heap[gp]? = some (.cells #[.int .i64 (chunkAt ps0 i), nv] 44 (0, 0)))
    (hh : Row w 3 1 hv (nodesAt ps0 i).length (numsV (nodesAt ps0 i))) (hl : Row w 3 1 lv (live up (nodesAt ps0 i)).length (numsV (live up (nodesAt ps0 i))))
    (own : ∀ k, hv.ownBlock = some k ∨ lv.ownBlock = some k ∨ k = gp → w0.heap.size ≤ k ∧ Clear w b gl k) (ap : ∀ k, hv.ownBlock = some k → lv.ownBlock ≠ some k ∧ k ≠ gp) (ap2 : ∀ k, lv.ownBlock = some k → k ≠ gp) :
    PlanIn w0 w b gl gp s up copies ps0 i copies ps (nodesAt ps0 i) hv lv ms := by
  have e := H.left i (Nat.le_refl _)
  refine ⟨H.work, ?_, H.wf, H.len, fun j hj => H.left j (by omega), H.chunk, by have := H.msl; omega, by omega, hh, fun x => by rw [e], by rw [e], by rw [e]; exact hl, own, ap, ap2, ⟨nv, hp⟩⟩
  have ht := H.tot
  rw [show ps0.length - i = (ps0.length - (i + 1)) + 1 by omega] at ht
  rw [ht]
  show ms ++ ((planAt s up copies i copies ps).1 ++ _) = _
  rw [List.append_assoc]

/-- One copy more: the plain part. -/
theorem PlanIn.plain {w0 w : World} {b gl gp : Nat} {s : List Int} {up copies : Nat} {ps0 : List Pl} {i f : Nat} {ps : List Pl} {h : List Int} {hv lv : Value} {ms : List Mv} {t : Int} (H : PlanIn w0 w b gl gp s up copies ps0 i (f + 1) ps h hv lv ms)
    (hi : i < ps0.length) (h0 : 0 < (live up (nodesAt ps i)).length) (h1 : (live up (nodesAt ps i)).length < copies) (ht : target s up ps (nodesAt ps i) = some t) (hn : t ∉ nodesAt ps i) (hu : isUp up t = true) (hr : 0 ≤ t ∧ t < s.length) :
    let ps' := setNodes ps i (withN (nodesAt ps i) t)
    (plan s up copies ps0).1 = (ms ++ [⟨chunkAt ps0 i, source s (live up (nodesAt ps i)) t, t⟩]) ++ (planAt s up copies i f ps').1 ++ (planFrom s up copies (i + 1) (ps0.length - (i + 1)) (planAt s up copies i f ps').2).1 ∧
    Wf s ps' ∧ ps'.length = ps0.length ∧ (∀ j, i < j → nodesAt ps' j = nodesAt ps0 j) ∧ (∀ j, chunkAt ps' j = chunkAt ps0 j) ∧
    (ms ++ [(⟨chunkAt ps0 i, source s (live up (nodesAt ps i)) t, t⟩ : Mv)]).length + f ≤ 12 * (i + 1) ∧ copies ≤ f + (live up (nodesAt ps' i)).length ∧ nodesAt ps' i = withN (nodesAt ps i) t := by
  intro ps'
  have hil : i < ps.length := by rw [H.len]; exact hi
  have hnode : nodesAt ps' i = withN (nodesAt ps i) t := nodesAt_set hil _
  refine ⟨?_, H.wf.set i (withN_rise (H.wf.at i) hr.1 hr.2), by rw [set_len, H.len], fun j hj => by rw [nodesAt_other (by omega)]; exact H.left j hj, fun j => by rw [chunkAt_set]; exact H.chunk j, ?_, ?_, hnode⟩
  · have := H.tot
    rw [planAt_go h0 h1 ht, H.chunk i] at this
    rw [this]
    simp [ps']
  · have := H.msl
    rw [List.length_append, List.length_singleton]; omega
  · have := H.fuel
    rw [hnode, live_withN hn hu]; omega

/-- One copy more: all of it, out of what lies in memory then. -/
theorem PlanIn.step {w0 w w' : World} {b gl gp : Nat} {s : List Int} {up copies : Nat} {ps0 : List Pl} {i f : Nat} {ps : List Pl} {h : List Int} {hv lv hv' lv' : Value} {ms : List Mv} {t : Int} (H : PlanIn w0 w b gl gp s up copies ps0 i (f + 1) ps h hv lv ms)
    (hi : i < ps0.length) (h0 : 0 < (live up (nodesAt ps i)).length) (h1 : (live up (nodesAt ps i)).length < copies) (ht : target s up ps (nodesAt ps i) = some t) (hn : t ∉ nodesAt ps i) (hu : isUp up t = true) (hr : 0 ≤ t ∧ t < s.length)
    (hW : WorkAt w0 w' b gl s up (ldL s.length (setNodes ps i (withN (nodesAt ps i) t)) []) (ms ++ [⟨chunkAt ps0 i, source s (live up (nodesAt ps i)) t, t⟩]))
    (hh : Row w' 3 1 hv' (h ++ [t]).length (numsV (h ++ [t]))) (hl : Row w' 3 1 lv' (live up (withN (nodesAt ps i) t)).length (numsV (live up (withN (nodesAt ps i) t))))
    (own : ∀ k, hv'.ownBlock = some k ∨ lv'.ownBlock = some k ∨ k = gp → w0.heap.size ≤ k ∧ Clear w' b gl k) (ap : ∀ k, hv'.ownBlock = some k → lv'.ownBlock ≠ some k ∧ k ≠ gp) (ap2 : ∀ k, lv'.ownBlock = some k → k ≠ gp)
    (hp : ∃ nv, w'.heap[gp]? = some (.cells #[.int .i64 (chunkAt ps0 i), nv] 44 (0, 0))) :
    PlanIn w0 w' b gl gp s up copies ps0 i f (setNodes ps i (withN (nodesAt ps i) t)) (h ++ [t]) hv' lv' (ms ++ [⟨chunkAt ps0 i, source s (live up (nodesAt ps i)) t, t⟩]) := by
  obtain ⟨p1, p2, p3, p4, p5, p6, p7, p8⟩ := H.plain hi h0 h1 ht hn hu hr
  refine ⟨hW, p1, p2, p3, p4, p5, p6, p7, hh, fun x => ?_, ?_, by rw [p8]; exact hl, own, ap, ap2, hp⟩
  · rw [p8, (withN_perm hn).mem_iff, List.mem_cons, List.mem_append, List.mem_singleton, H.mem x]
    exact Or.comm
  · rw [p8, (withN_perm hn).length_eq, List.length_append, List.length_singleton, List.length_cons, H.hlen]
end Go.Proofs.Ytmdonjadhkffiaa
/- Heal: what lies in memory within a place of a plan or of a drop. Conditions: as each law names them. -/
namespace Go.Proofs.Ytmdonjadhkffiaa
open Go.RowKit
open HE

/-- The work, the two lists, the place. -/
structure PlanMem (w0 w : World) (b gl gp : Nat) (s : List Int) (up : Nat) (ld : List Int) (ms : List Mv) (ch : Int) (h : List Int) (hv : Value) (l : List Int) (lv : Value) : Prop where
  work : WorkAt w0 w b gl s up ld ms
  has : Row w 3 1 hv h.length (numsV h)
  liv : Row w 3 1 lv l.length (numsV l)
  own : ∀ k, hv.ownBlock = some k ∨ lv.ownBlock = some k ∨ k = gp → w0.heap.size ≤ k ∧ Clear w b gl k
  apart : ∀ k, hv.ownBlock = some k → lv.ownBlock ≠ some k ∧ k ≠ gp
  apart2 : ∀ k, lv.ownBlock = some k → k ≠ gp
  pl : ∃ nv, w.heap[gp]? = some (.cells #[.int .i64 ch, nv] 44 (0, 0))

theorem PlanIn.memory {w0 w : World} {b gl gp : Nat} {s : List Int} {up copies : Nat} {ps0 : List Pl} {i f : Nat} {ps : List Pl} {h : List Int} {hv lv : Value} {ms : List Mv} (H : PlanIn w0 w b gl gp s up copies ps0 i f ps h hv lv ms) :
    PlanMem w0 w b gl gp s up (ldL s.length ps []) ms (chunkAt ps0 i) h hv (live up (nodesAt ps i)) lv := ⟨H.work, H.has, H.liv, H.own, H.apart, H.apart2, H.pl⟩

variable {w0 w w' : World} {b gl gp : Nat} {s : List Int} {up : Nat} {ld : List Int} {ms : List Mv} {ch : Int} {h : List Int} {hv : Value} {l : List Int} {lv : Value}

theorem PlanMem.lt (H : PlanMem w0 w b gl gp s up ld ms ch h hv l lv) {k : Nat} (e : hv.ownBlock = some k ∨ lv.ownBlock = some k ∨ k = gp) : k < w.heap.size := by
  obtain ⟨nv, hp⟩ := H.pl
  rcases e with e | e | rfl
  · exact H.has.lt e
  · exact H.liv.lt e
  · exact heap_lt hp
theorem PlanMem.later (H : PlanMem w0 w b gl gp s up ld ms ch h hv l lv) (hk : Keep (fun _ => False) w w') : PlanMem w0 w' b gl gp s up ld ms ch h hv l lv := by
  obtain ⟨o, hb⟩ := H.work.head
  obtain ⟨nv, hp⟩ := H.pl
  exact ⟨H.work.later hk, H.has.keep hk (fun _ _ x => x), H.liv.keep hk (fun _ _ x => x), fun k e => ⟨(H.own k e).1, (H.own k e).2.later hb (by rw [hk.get hb id, hb])⟩, H.apart, H.apart2, ⟨nv, hk.get hp id⟩⟩
/-- One move more. -/
theorem PlanMem.push (H : PlanMem w0 w b gl gp s up ld ms ch h hv l lv) {c0 c1 c2 mv mv' : Value} (hb : w.heap[b]? = some (.cells #[c0, c1, c2, mv] 70 (0, 0))) (m : Mv) (hk : Keep (fun k => mv.ownBlock = some k) w w')
    (hr : Row w' 52 3 mv' (ms.length + 1) (mvsV ms ++ mvV m)) (ho : ∃ k, mv'.ownBlock = some k ∧ (mv.ownBlock = some k ∨ w.heap.size ≤ k)) :
    PlanMem w0 (w'.setCell ⟨b, 3, none⟩ mv') b gl gp s up ld (ms ++ [m]) ch h hv l lv := by
  have hW := H.work.push hb m hk hr ho
  have hk2 : Keep (fun k => k = b) w' (w'.setCell ⟨b, 3, none⟩ mv') := by refine Keep.setCell (Keep.refl _ _) (.inl ?_) _; rfl
  have hnot : ∀ k, (hv.ownBlock = some k ∨ lv.ownBlock = some k ∨ k = gp) → ¬ (mv.ownBlock = some k) ∧ k ≠ b := fun k e => ⟨fun x => (H.own k e).2.2.2 _ _ _ _ hb x, (H.own k e).2.1⟩
  obtain ⟨nv, hp⟩ := H.pl
  refine ⟨hW, (H.has.keep hk (fun k e => (hnot k (.inl e)).1)).keep hk2 (fun k e => (hnot k (.inl e)).2), (H.liv.keep hk (fun k e => (hnot k (.inr (.inl e))).1)).keep hk2 (fun k e => (hnot k (.inr (.inl e))).2),
    fun k e => ⟨(H.own k e).1, (H.own k e).2.1, (H.own k e).2.2.1, fun d0 d1 d2 dm hd x => ?_⟩, H.apart, H.apart2, ⟨nv, hk2.get (hk.get hp (hnot gp (.inr (.inr rfl))).1) (hnot gp (.inr (.inr rfl))).2⟩⟩
  obtain ⟨sv, cl, mv0, -, h2, -, -, -⟩ := H.work.ex
  rw [hb] at h2
  have hbk := hk.get hb (fun x => by
    obtain ⟨_, _, mv1, _, g2, _, _, g5⟩ := H.work.ex
    rw [hb] at g2
    have hh := Option.some.inj g2
    injection hh with h6 h7
    have : mv = mv1 := by simp at h6; exact h6.2.2.2
    rw [this] at x
    exact (g5 b x).2.1 rfl)
  have hbn : (w'.setCell ⟨b, 3, none⟩ mv').heap[b]? = some (.cells #[c0, c1, c2, mv'] 70 (0, 0)) := by
    simp [World.setCell, Array.getElem?_modify, hbk]
  rw [hbn] at hd
  have hh := Option.some.inj hd
  injection hh with h6 h7
  have hm : mv' = dm := by simp at h6; exact h6.2.2.2
  rw [← hm] at x
  obtain ⟨k', hk', hor⟩ := ho
  rw [x] at hk'
  cases hk'
  rcases hor with hor | hor
  · exact (hnot k e).1 hor
  · have := H.lt e; omega
/-- One load is set. -/
theorem PlanMem.bump (H : PlanMem w0 w b gl gp s up ld ms ch h hv l lv) (x : Nat) (hx : x < s.length) (z : Int) (hz : 0 ≤ z ∧ z ≤ 1000000) :
    PlanMem w0 (w.setCell ⟨gl, x, none⟩ (.int .i64 z)) b gl gp s up (ld.set x z) ms ch h hv l lv := by
  have hk : Keep (fun k => k = gl) w (w.setCell ⟨gl, x, none⟩ (.int .i64 z)) := by refine Keep.setCell (Keep.refl _ _) (.inl ?_) _; rfl
  obtain ⟨o, hb⟩ := H.work.head
  obtain ⟨nv, hp⟩ := H.pl
  have hn : ∀ k, (hv.ownBlock = some k ∨ lv.ownBlock = some k ∨ k = gp) → k ≠ gl := fun k e => (H.own k e).2.2.1
  exact ⟨H.work.bump x hx z hz, H.has.keep hk (fun k e => hn k (.inl e)), H.liv.keep hk (fun k e => hn k (.inr (.inl e))), fun k e => ⟨(H.own k e).1, (H.own k e).2.later hb (by rw [hk.get hb H.work.ne, hb])⟩, H.apart, H.apart2, ⟨nv, hk.get hp (hn gp (.inr (.inr rfl)))⟩⟩
theorem PlanMem.aside (H : PlanMem w0 w b gl gp s up ld ms ch h hv l lv) {F : Nat → Prop} (hk : Keep F w w') (hF : ∀ k, F k → w0.heap.size ≤ k ∧ Clear w b gl k) : WorkAt w0 w' b gl s up ld ms :=
  H.work.aside hk (fun k e => ⟨(hF k e).1, (hF k e).2.1, (hF k e).2.2.1⟩) (fun k _c0 _c1 _c2 _mv hb e x => (hF k x).2.2.2 _ _ _ _ hb e)
/-- The block of the work where it was, nothing else can be new there. -/
theorem PlanMem.fresh (H : PlanMem w0 w b gl gp s up ld ms ch h hv l lv) {k : Nat} (hk : w.heap.size ≤ k) : w0.heap.size ≤ k ∧ Clear w b gl k := by
  obtain ⟨sv, cl, mv, -, h2, h3, h4, -⟩ := H.work.ex
  have := H.work.keep.size
  have hb := heap_lt h2
  have hg : gl < w.heap.size := h3.lt rfl
  refine ⟨by omega, by omega, by omega, fun c0 c1 c2 m hm e => ?_⟩
  rw [h2] at hm
  have hh := Option.some.inj hm
  injection hh with h6 h7
  have : mv = m := by simp at h6; exact h6.2.2.2
  rw [← this] at e
  have := h4.lt e
  omega
/-- Another first list. -/
theorem PlanMem.newHas (H : PlanMem w0 w b gl gp s up ld ms ch h hv l lv) {h' : List Int} {hv' : Value} (hk : Keep (fun k => hv.ownBlock = some k) w w') (hr : Row w' 3 1 hv' h'.length (numsV h'))
    (ho : ∀ k, hv'.ownBlock = some k → hv.ownBlock = some k ∨ w.heap.size ≤ k) : PlanMem w0 w' b gl gp s up ld ms ch h' hv' l lv := by
  obtain ⟨o, hb⟩ := H.work.head
  obtain ⟨nv, hp⟩ := H.pl
  have hb' := hk.get hb (fun x => (H.own b (.inl x)).2.1 rfl)
  refine ⟨H.aside hk (fun k e => H.own k (.inl e)), hr, H.liv.keep hk (fun k e x => (H.apart k x).1 e), fun k e => ?_, fun k e => ?_, H.apart2, ⟨nv, hk.get hp (fun x => (H.apart gp x).2 rfl)⟩⟩
  · have : w0.heap.size ≤ k ∧ Clear w b gl k := by
      rcases e with e | e
      · rcases ho k e with e | e
        · exact H.own k (.inl e)
        · exact H.fresh e
      · exact H.own k (.inr e)
    exact ⟨this.1, this.2.later hb (by rw [hb', hb])⟩
  · rcases ho k e with e | e
    · exact H.apart k e
    · exact ⟨fun x => by have := H.lt (.inr (.inl x)); omega, fun x => by have := H.lt (.inr (.inr x)); omega⟩
/-- Another second list. -/
theorem PlanMem.newLive (H : PlanMem w0 w b gl gp s up ld ms ch h hv l lv) {l' : List Int} {lv' : Value} (hk : Keep (fun k => lv.ownBlock = some k) w w') (hr : Row w' 3 1 lv' l'.length (numsV l'))
    (ho : ∀ k, lv'.ownBlock = some k → lv.ownBlock = some k ∨ w.heap.size ≤ k) : PlanMem w0 w' b gl gp s up ld ms ch h hv l' lv' := by
  obtain ⟨o, hb⟩ := H.work.head
  obtain ⟨nv, hp⟩ := H.pl
  have hb' := hk.get hb (fun x => (H.own b (.inr (.inl x))).2.1 rfl)
  refine ⟨H.aside hk (fun k e => H.own k (.inr (.inl e))), H.has.keep hk (fun k e x => (H.apart k e).1 x), hr, fun k e => ?_, fun k e => ?_, fun k e => ?_, ⟨nv, hk.get hp (fun x => H.apart2 gp x rfl)⟩⟩
  · have : w0.heap.size ≤ k ∧ Clear w b gl k := by
      rcases e with e | e | e
      · exact H.own k (.inl e)
      · rcases ho k e with e | e
        · exact H.own k (.inr (.inl e))
        · exact H.fresh e
      · exact H.own k (.inr (.inr e))
    exact ⟨this.1, this.2.later hb (by rw [hb', hb])⟩
  · refine ⟨fun x => ?_, (H.apart k e).2⟩
    rcases ho k x with x | x
    · exact (H.apart k e).1 x
    · have := H.lt (.inl e); omega
  · rcases ho k e with e | e
    · exact H.apart2 k e
    · intro x; have := H.lt (.inr (.inr x)); omega
/-- What an append leaves. -/
theorem own_of {v v' : Value} {m : Nat} (hv : (v' = v ∧ m = 0) ∨ ∃ k, v'.ownBlock = some k ∧ (v.ownBlock = some k ∨ k = w.heap.size)) : ∀ k, v'.ownBlock = some k → v.ownBlock = some k ∨ w.heap.size ≤ k := by
  intro k e
  rcases hv with ⟨rfl, _⟩ | ⟨k', h1, h2⟩
  · exact .inl e
  · rw [e] at h1
    cases h1
    exact h2.imp id fun x => by omega
/-- The load of a node. -/
theorem PlanMem.load {ps : List Pl} (H : PlanMem w0 w b gl gp s up (ldL s.length ps []) ms ch h hv l lv) {t : Nat} (ht : t < s.length) :
    ∃ cl, w.cell? ⟨b, 2, none⟩ = some (.slice (some ⟨gl, 0, none⟩) s.length cl) ∧ w.cell? ⟨gl, t, none⟩ = some (.int .i64 (loadOf ps (t : Int) : Nat)) ∧ w.frozen? ⟨gl, t, none⟩ = false := by
  obtain ⟨sv, cl, mv, -, f2, f3, -, -⟩ := H.work.ex
  refine ⟨cl, by simp [World.cell?, f2], ?_, f3.frozen t (by omega)⟩
  rw [f3.cell t (by omega)]
  unfold numsV
  rw [List.getElem?_map, ldL_get s.length ps [] t ht]
  simp
end Go.Proofs.Ytmdonjadhkffiaa
