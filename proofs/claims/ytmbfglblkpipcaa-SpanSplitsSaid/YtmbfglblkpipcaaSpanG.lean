/- The document's Touch, and SameInts: contracts. Conditions: as the contracts name them. -/
import Derived.Test.YtmbfglblkpipcaaSpanF
import Derived.Test.YtmbfglblkpipcaaSpanD
namespace Go.Proofs.Ytmbfglblkpipcaa
open Go.RowKit
open SM

/-- A number of a row, as the code loads it. -/
theorem num_in {wr : World} {v : Value} {n : Nat} {l : List Int} (h : Row wr 3 1 v n (numsV l)) (i : Nat) (hi : i < l.length) :
    ∃ g cap, v = .slice (some ⟨g, 0, none⟩) n cap ∧ wr.cell? ⟨g, i, none⟩ = some (.int .i64 l[i]) :=
  h.getCell (by simp [numsV, hi])

set_option maxRecDepth 20000 in
theorem same_nums (w : World) (ao bo : Option Addr) (c d : Nat) (l : List Int) (h1 : Row w 3 1 (.slice ao l.length c) l.length (numsV l)) (h2 : Row w 3 1 (.slice bo l.length d) l.length (numsV l)) :
    Calls Try.prog 24 #[.slice ao l.length c, .slice bo l.length d] w fun e w' => e = .returned (.bool true) ∧ Keep (fun _ => False) w w' := by
  have hn63 : (l.length : Int) ≤ 9223372036854775807 := by obtain ⟨_, _, _, x1, x2, _⟩ := h1.form; unfold maxLen at x2; omega
  have H1 := hid h1
  have H2 := hid h2
  obtain ⟨n, hn⟩ : ∃ n, n = l.length := ⟨_, rfl⟩
  rw [← hn] at hn63 ⊢
  have Hn := hid hn
  clear h1 h2 hn
  go_enter Try.func24, Try.ntmps24
  go_wp2_with (at_builtin; refine stopAt ?_; intro q hq)
  go_loopw [5] (fun iv wr => ∃ i : Nat, i ≤ n ∧ iv = .int .i64 i ∧ Hid (Keep (fun _ => False) w wr)) (fun iv _ => n - (intOf iv).toNat)
  case atStart => exact ⟨0, Nat.zero_le _, rfl, hid (Keep.refl _ _)⟩
  case round =>
    obtain ⟨i, hi, rfl, HK⟩ := hrel
    by_cases hin : i < n
    · have h4 : (i : Int) < n := by omega
      have hil : i < l.length := by rw [← Hn.out]; exact hin
      obtain ⟨g, cap, hv, p0⟩ := num_in (H1.out.keep HK.out (fun _ _ x => x)) i hil
      cases hv
      obtain ⟨g2, cap2, hv, p1⟩ := num_in (H2.out.keep HK.out (fun _ _ x => x)) i hil
      cases hv
      obtain ⟨z, hz⟩ : ∃ z, z = l[i] := ⟨_, rfl⟩
      rw [← hz] at p0 p1
      have q1 : (z == z) = true := by simp
      clear hz
      go_wp2_with (at_builtin; refine stopAt ?_; intro q hq)
      go_quiet (fail)
      go_wp2_with (at_builtin; refine stopAt ?_; intro q hq)
      go_roundw
      case rel => exact ⟨i + 1, by omega, by go_num, hid (HK.out.drewN _)⟩
      case measure => simp [intOf]; omega
    · have h4 : decide ((i : Int) < n) = false := by simp; omega
      go_wp2_with (at_builtin; refine stopAt ?_; intro q hq)
      go_ret
      exact ⟨by rfl, HK.out⟩

/-- The chunks below c that have a piece. -/
def rtch (l : List Pc) (c : Nat) : List Int := ((List.range c).filter fun x => l.any fun p => decide (p.c = x)).map fun x : Nat => (x : Int)
theorem rtch_succ (l : List Pc) (c : Nat) : rtch l (c + 1) = rtch l c ++ if (l.any fun p => decide (p.c = c)) = true then [(c : Int)] else [] := by
  unfold rtch
  rw [List.range_succ, List.filter_append, List.map_append]
  congr 1
  by_cases h : (l.any fun p => decide (p.c = c)) = true
  · rw [if_pos h, List.filter_cons, if_pos h]; rfl
  · rw [if_neg h, List.filter_cons, if_neg h]; rfl
theorem rtch_len (l : List Pc) (c : Nat) : (rtch l c).length ≤ c := by
  unfold rtch
  rw [List.length_map]
  exact Nat.le_trans (List.length_filter_le _ _) (by simp)
theorem rtch_all (l : List Pc) (n : Nat) (h : ∀ p ∈ l, p.c < n) : rtch l n = tch l := by
  refine rising_unique ?_ (tch_rising l) fun x => ?_
  · unfold rtch
    rw [List.pairwise_map]
    exact (List.Pairwise.filter _ List.pairwise_lt_range).imp fun h => by omega
  · rw [tch_mem]
    unfold rtch
    simp only [List.mem_map, List.mem_filter, List.mem_range, List.any_eq_true, decide_eq_true_eq]
    constructor
    · rintro ⟨c, ⟨_, p, hp, rfl⟩, rfl⟩
      exact ⟨p, hp, rfl⟩
    · rintro ⟨p, hp, rfl⟩
      exact ⟨p.c, ⟨h p hp, p, hp, rfl⟩, rfl⟩

structure RTouchRel (w3 : World) (l : List Pc) (c : Nat) (v : Value) (wr : World) : Prop where
  keep : Keep (fun _ => False) w3 wr
  row : Row wr 3 1 v (rtch l c).length (numsV (rtch l c))
  own : ∀ b, v.ownBlock = some b → w3.heap.size ≤ b

set_option maxRecDepth 20000 in
set_option maxHeartbeats 2000000 in
theorem rtouch_ok (B C W U lba k : Nat) (h : ShOk B C W U) (hk : k ≤ 65536) (hl : lba + k ≤ B) (w : World) :
    Calls Try.prog 22 #[.agg #[.int .u64 B, .int .i64 C, .int .i64 W, .int .i64 U], .int .u64 lba, .int .i64 k] w fun e w' =>
      ∃ v l, e = .returned (.tuple #[v, .int .i64 0]) ∧ Row w' 3 1 v (tch l).length (numsV (tch l)) ∧ Cov C W U lba l k ∧ Few l ∧ Keep (fun _ => False) w w' := by
  go_enter Try.func22, Try.ntmps22
  go_wp2_with (at_builtin; refine stopAt ?_; intro q hq)
  (obtain ⟨w2, hbox⟩ : ∃ wbx, wbx = w.alloc (.cells #[.int .u64 B, .int .i64 C, .int .i64 W, .int .i64 U] 25) := ⟨_, rfl⟩; have X2 := Boxed.new w B C W U; rw [← hbox] at X2 ⊢; clear hbox)
  refine (rsplit_ok B C W U lba k h hk hl w2).mono ?_
  rintro e w3 ⟨v, l, rfl, hr3, hcov, hfew, hk3, hown⟩
  have X3 := X2.step hk3
  obtain ⟨i0, i1, i2, i3, if1, ib1⟩ := cells4 X3.at_
  obtain ⟨ao, cap, rfl, hcap, hmax, -⟩ := hr3.form
  have HR := hid hr3
  have HC := hid (And.intro hcov hfew)
  have hlk : l.length ≤ k := Cov.few hcov
  have hcn : ∀ p ∈ l, p.c < B / C := fun p hp => by
    have h1 := (hcov.lies p hp).lie 0 (hcov.lies p hp).pos
    obtain ⟨i, hi, rfl⟩ := List.mem_iff_getElem.1 hp
    have h2 := hcov.from_ i hi
    have h3 := sumN_take_succ l i hi
    have h4 := sumN_take_le l (i + 1)
    have h5 := (hcov.lies l[i] hp).pos
    rw [hcov.all] at h4
    obtain ⟨q, hq⟩ : ∃ q, B = q * (W * C) := ⟨B / (W * C), by have := Nat.div_add_mod' B (W * C); rw [h.bs] at this; omega⟩
    have h6 := wh_chunk_lt (C := C) (U := U) (q := q) (x := lba + l[i].f + 0) h.w0 (by rw [← hq]; omega)
    have h7 : B / C = q * W := by rw [hq, ← Nat.mul_assoc]; exact Nat.mul_div_cancel _ h.c0
    rw [h1] at h6
    rw [h7]
    exact h6
  have hbc := h.bc
  have HN := hid hcn
  obtain ⟨n, hn⟩ : ∃ n, n = B / C := ⟨_, rfl⟩
  have hrch := rchunks_ok B C W U h w3
  rw [← hn] at hbc hrch
  have Hn := hid hn
  obtain ⟨len, hlen⟩ : ∃ n, n = l.length := ⟨_, rfl⟩
  rw [← hlen] at hlk hcap ⊢
  have HL := hid hlen
  have HX3 := hid X3
  clear X2 X3 hk3 hr3 hcov hfew hown hlen hmax hcap hcn hn
  go_wp2_with (at_builtin; refine stopAt ?_; intro q hq)
  refine hrch.mono ?_
  rintro e w4 ⟨rfl, hk4⟩
  have K4 := hid (HX3.out.step hk4).keep
  have HR4 := hid (HR.out.keep hk4 (fun _ _ x => x))
  clear hk4 hrch i0 i1 i2 i3 if1 ib1 HR HX3
  go_wp2_with (at_builtin; refine stopAt ?_; intro q hq)
  go_loopw [11, 12] (fun v cv wr => ∃ c : Nat, c ≤ n ∧ cv = .int .i64 c ∧ Hid (RTouchRel w4 l c v wr)) (fun _ cv _ => n - (intOf cv).toNat)
  case atStart => exact ⟨0, Nat.zero_le _, rfl, hid ⟨Keep.refl _ _, Row.nil _ _ _, fun b e => by simp [Value.ownBlock] at e⟩⟩
  case round =>
    obtain ⟨c, hc, rfl, HT⟩ := hrel
    obtain ⟨bo, bcap, hv, hbc2, hbm, -⟩ := HT.out.row.form
    subst hv
    have hrl := rtch_len l c
    have hrl2 := rtch_len l c
    obtain ⟨rn, hrn⟩ : ∃ z, z = (rtch l c).length := ⟨_, rfl⟩
    rw [← hrn] at hrl hbc2 HT ⊢
    have HRn := hid hrn
    clear hrn
    by_cases hcn : c < n
    · have h4 : (c : Int) < n := by omega
      go_wp2_with (at_builtin; refine stopAt ?_; intro q hq)
      go_loopw [11, 13] (fun ov iv wi => ∃ i : Nat, i ≤ len ∧ ov = .slice bo rn bcap ∧ iv = .int .i64 i ∧ wi = wr ∧ Hid (∀ j (h : j < l.length), j < i → l[j].c ≠ c)) (fun _ iv _ => len - (intOf iv).toNat)
      case atStart => exact ⟨0, Nat.zero_le _, rfl, rfl, rfl, hid (fun j _ h => absurd h (Nat.not_lt_zero _))⟩
      case round =>
        obtain ⟨i, hi, rfl, rfl, rfl, HJ⟩ := hrel
        by_cases hil : i < len
        · have h5 : (i : Int) < len := by omega
          have hil' : i < l.length := by rw [← HL.out]; exact hil
          obtain ⟨g, cap', hv, p0, p1, p2, p3⟩ := pcs_at (HR4.out.keep HT.out.keep (fun _ _ x => x)) i hil'
          rw [← HL.out] at hv
          cases hv
          by_cases hE : l[i].c = c
          · have hany : (l.any fun p => decide (p.c = c)) = true := List.any_eq_true.2 ⟨l[i], List.getElem_mem _, by simp [hE]⟩
            have hsucc := rtch_succ l c
            rw [if_pos hany] at hsucc
            have Hs := hid hsucc
            rw [hE] at p0
            have q1 : ((c : Int) == (c : Int)) = true := by simp
            clear hE hany hsucc p1 p2 p3
            go_wp2_with (at_builtin; refine stopAt ?_; intro q hq)
            (refine hq.out ?_; clear hq q)
            have hn7 := heap_alloc_new wr (.cells #[.int .i64 (c : Int)] 3)
            have hk7 : Keep (fun _ => False) wr (wr.alloc (.cells #[.int .i64 (c : Int)] 3)) := (Keep.refl _ _).alloc _
            obtain ⟨w7, hw7⟩ : ∃ w7, w7 = wr.alloc (.cells #[.int .i64 (c : Int)] 3) := ⟨_, rfl⟩
            rw [← hw7] at hn7 hk7 ⊢
            clear hw7
            refine wpList_plain rfl (fun K hK => ?_)
            refine wp_append ty_nums (.tmp 44) (.tmp 46) rfl rfl (HT.out.row.keep hk7 (fun _ _ x => x)) (some ⟨wr.heap.size, 0, none⟩) 1 1 [.int .i64 (c : Int)] (by rfl)
              ⟨rfl, fun _ => ⟨_, rfl, fun t u hu => by rw [addr_add, Nat.zero_add, cell_of_row _ _ _ _ _ _ hn7]; simpa using hu⟩⟩ (numsV_oneCell [(c : Int)]) (by unfold maxLen; omega) (by omega) ?_
            intro v8 w8 hr8 hk8 hv8
            refine hK _ _ ?_
            clear hK K
            have hsz := HT.out.keep.size
            have hsz2 := hk7.size
            have hown := HT.out.own
            have HT8 := hid (RTouchRel.mk (w3 := w4) (l := l) (c := c + 1) (v := v8) (wr := w8)
              ((HT.out.keep.next hk7 (fun _ _ x => x) (fun _ _ x => x)).next hk8 (fun _ _ x => x) (fun j hj x => absurd (hown j x) (by omega)))
              (by rw [Hs.out]; simpa [numsV] using hr8)
              (fun b e => by
                rcases hv8 with ⟨_, h0⟩ | ⟨b', h1, h2⟩
                · omega
                · rw [e] at h1
                  cases h1
                  rcases h2 with h2 | h2
                  · exact hown _ h2
                  · omega))
            clear hr8 hk8 hv8 hn7 hk7 hsz hsz2 hown p0
            go_wp2_with (at_builtin; refine stopAt ?_; intro q hq)
            go_roundw
            case rel => exact ⟨c + 1, by omega, by go_num, HT8⟩
            case measure => simp [intOf]; omega
          · have q1 : ((l[i].c : Int) == (c : Int)) = false := by simp; omega
            have HJ' : Hid (∀ j (h : j < l.length), j < i + 1 → l[j].c ≠ c) := hid fun j hj hji => by
              by_cases hji2 : j = i
              · subst hji2; exact hE
              · exact HJ.out j hj (by omega)
            obtain ⟨pc, hpc⟩ : ∃ z, z = l[i].c := ⟨_, rfl⟩
            rw [← hpc] at p0 q1
            clear hpc hE HJ p1 p2 p3
            go_wp2_with (at_builtin; refine stopAt ?_; intro q hq)
            go_roundw
            case rel => exact ⟨i + 1, by omega, rfl, by go_num, trivial, HJ'⟩
            case measure => simp [intOf]; omega
        · have h5 : decide ((i : Int) < len) = false := by simp; omega
          have hany : ¬ (l.any fun p => decide (p.c = c)) = true := by
            rw [List.any_eq_true]
            rintro ⟨p, hp, hpc⟩
            obtain ⟨j, hj, rfl⟩ := List.mem_iff_getElem.1 hp
            exact HJ.out j hj (by have := HL.out; omega) (by simpa using hpc)
          have hsucc := rtch_succ l c
          rw [if_neg hany, List.append_nil] at hsucc
          have HT8 : Hid (RTouchRel w4 l (c + 1) (.slice bo rn bcap) wr) := hid ⟨HT.out.keep, by rw [hsucc]; exact HT.out.row, HT.out.own⟩
          clear hany hsucc
          go_wp2_with (at_builtin; refine stopAt ?_; intro q hq)
          go_roundw
          case rel => exact ⟨c + 1, by omega, by go_num, HT8⟩
          case measure => simp [intOf]; omega
    · have h4 : decide ((c : Int) < n) = false := by simp; omega
      have he : c = n := by omega
      have hrow := HT.out.row
      have hall := rtch_all l n (by rw [Hn.out]; exact HN.out)
      have hrow' : Row wr 3 1 (.slice bo rn bcap) (tch l).length (numsV (tch l)) := by
        have h1 := hrow
        rw [HRn.out, he, hall] at h1 ⊢
        exact h1
      have HF := hid (And.intro hrow' (K4.out.next HT.out.keep (fun _ _ x => x) (fun _ _ x => x)))
      clear he hrow hall hrow'
      go_wp2_with (at_builtin; refine stopAt ?_; intro q hq)
      go_ret2
      exact ⟨_, l, rfl, HF.out.1, HC.out.1, HC.out.2, HF.out.2⟩
end Go.Proofs.Ytmbfglblkpipcaa
