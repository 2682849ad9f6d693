/- span: a contract for Touch at a shape and a request that may be: the chunks of the pieces, rising, each once. Conditions: as the contract names them. -/
import Derived.Test.YtmbfglblkpipcaaSpanC
import Derived.Test.YtmbfglblkpipcaaSortI
namespace Go.Proofs.Ytmbfglblkpipcaa
open Go.RowKit
open SM

theorem ty_nums : SliceTy Try.prog 52 3 (.int .i64 0) 1 8 := ⟨by kernel_rfl, by kernel_rfl, rfl, by decide⟩
theorem numsV_oneCell (l : List Int) : ∀ u ∈ numsV l, u.oneCell' = true := by
  intro u hu
  obtain ⟨z, _, rfl⟩ := List.mem_map.1 hu
  rfl

/-- The pieces' chunks, in their order. -/
def chs (l : List Pc) : List Int := l.map fun p => (p.c : Int)
/-- The chunks touched: rising, each once. -/
def tch (l : List Pc) : List Int := Lib.compact ((chs l).mergeSort fun x y => decide (x ≤ y))
theorem tch_rising (l : List Pc) : (tch l).Pairwise (· < ·) := (compact_sorted _).1
theorem tch_mem (l : List Pc) (x : Int) : x ∈ tch l ↔ ∃ p ∈ l, (p.c : Int) = x := by
  unfold tch
  rw [(compact_sorted _).2]
  simp [chs]

structure TouchRel (w3 : World) (l : List Pc) (i : Nat) (v : Value) (wr : World) : Prop where
  keep : Keep (fun _ => False) w3 wr
  row : Row wr 3 1 v i (numsV (chs (l.take i)))
  own : ∀ b, v.ownBlock = some b → w3.heap.size ≤ b

set_option maxRecDepth 20000 in
set_option maxHeartbeats 2000000 in
theorem touch_ok (B C W U lba k : Nat) (h : ShOk B C W U) (hk : k ≤ 65536) (hl : lba + k ≤ B) (w : World) :
    Calls Try.prog 21 #[.agg #[.int .u64 B, .int .i64 C, .int .i64 W, .int .i64 U], .int .u64 lba, .int .i64 k] w fun e w' =>
      ∃ v l, e = .returned (.tuple #[v, .int .i64 0]) ∧ Row w' 3 1 v (tch l).length (numsV (tch l)) ∧ Cov C W U lba l k ∧ Few l ∧ Keep (fun _ => False) w w' ∧ (∀ b, v.ownBlock = some b → w.heap.size ≤ b) := by
  go_enter Try.func21, Try.ntmps21
  go_wp2_with (at_builtin; refine stopAt ?_; intro q hq)
  (obtain ⟨w2, hbox⟩ : ∃ wbx, wbx = w.alloc (.cells #[.int .u64 B, .int .i64 C, .int .i64 W, .int .i64 U] 25) := ⟨_, rfl⟩; have X2 := Boxed.new w B C W U; rw [← hbox] at X2 ⊢; clear hbox)
  refine (split_ok B C W U lba k h hk hl w2).mono ?_
  rintro e w3 ⟨v, l, rfl, hr3, hcov, hfew, hk3, hown⟩
  obtain ⟨ao, cap, rfl, hcap, hmax, -⟩ := hr3.form
  have HR := hid hr3
  have HC := hid (And.intro hcov hfew)
  have hlk : l.length ≤ k := Cov.few hcov
  obtain ⟨len, hlen⟩ : ∃ n, n = l.length := ⟨_, rfl⟩
  rw [← hlen] at hlk hcap ⊢
  have HL := hid hlen
  have K3 := hid (X2.step hk3).keep
  clear X2 hk3 hr3 hcov hfew hown hlen hmax hcap
  go_wp2_with (at_builtin; refine stopAt ?_; intro q hq)
  go_loopw [10, 25] (fun v iv wr => ∃ i : Nat, i ≤ len ∧ iv = .int .i64 i ∧ Hid (TouchRel w3 l i v wr)) (fun _ iv _ => len - (intOf iv).toNat)
  case atStart => exact ⟨0, Nat.zero_le _, rfl, hid ⟨Keep.refl _ _, Row.nil _ _ _, fun b e => by simp [Value.ownBlock] at e⟩⟩
  case round =>
    obtain ⟨i, hi, rfl, HT⟩ := hrel
    obtain ⟨bo, bcap, hv, hbc, hbm, -⟩ := HT.out.row.form
    subst hv
    by_cases hil : i < len
    · have h4 : (i : Int) < len := by omega
      have hil' : i < l.length := by rw [← HL.out]; exact hil
      obtain ⟨g, cap', hv, p0, p1, p2, p3⟩ := pcs_at (HR.out.keep HT.out.keep (fun _ _ x => x)) i hil'
      rw [← HL.out] at hv
      cases hv
      have hsucc : chs (l.take (i + 1)) = chs (l.take i) ++ [(l[i].c : Int)] := by
        unfold chs
        rw [List.take_add_one, List.getElem?_eq_getElem hil', Option.toList_some, List.map_append]
        rfl
      obtain ⟨p, hp⟩ : ∃ p, p = l[i] := ⟨_, rfl⟩
      rw [← hp] at p0 p1 p2 p3 hsucc
      obtain ⟨pc, pa, pf, pn⟩ := p
      simp only at p0 p1 p2 p3 hsucc
      have Hs := hid hsucc
      clear hp hsucc
      go_wp2_with (at_builtin; refine stopAt ?_; intro q hq)
      (refine hq.out ?_; clear hq q)
      obtain ⟨w6, hw6⟩ : ∃ w6, w6 = wr.alloc (.cells #[.int .i64 (pc : Int), .int .i64 (pa : Int), .int .i64 (pf : Int), .int .i64 (pn : Int)] 34) := ⟨_, rfl⟩
      have hk6 : Keep (fun _ => False) wr w6 := by rw [hw6]; exact (Keep.refl _ _).alloc _
      have hs6 : w6.heap.size = wr.heap.size + 1 := by rw [hw6]; exact Array.size_push _
      rw [← hw6]
      clear hw6
      have hn7 := heap_alloc_new w6 (.cells #[.int .i64 (pc : Int)] 3)
      rw [hs6] at hn7
      have hk7 : Keep (fun _ => False) wr (w6.alloc (.cells #[.int .i64 (pc : Int)] 3)) := hk6.alloc _
      obtain ⟨w7, hw7⟩ : ∃ w7, w7 = w6.alloc (.cells #[.int .i64 (pc : Int)] 3) := ⟨_, rfl⟩
      rw [← hw7] at hn7 hk7 ⊢
      clear hw7
      refine wpList_plain rfl (fun K hK => ?_)
      refine wp_append ty_nums (.tmp 29) (.tmp 32) rfl rfl (HT.out.row.keep hk7 (fun _ _ x => x)) (some ⟨wr.heap.size + 1, 0, none⟩) 1 1 [.int .i64 (pc : Int)] rfl
        ⟨rfl, fun _ => ⟨_, rfl, fun t u hu => by rw [addr_add, Nat.zero_add, cell_of_row _ _ _ _ _ _ hn7]; simpa using hu⟩⟩ (numsV_oneCell [(pc : Int)]) (by unfold maxLen; omega) (by omega) ?_
      intro v8 w8 hr8 hk8 hv8
      refine hK _ _ ?_
      clear hK K
      have hsz := HT.out.keep.size
      have hsz2 := hk7.size
      have hown := HT.out.own
      have HT8 := hid (TouchRel.mk (w3 := w3) (l := l) (i := i + 1) (v := v8) (wr := w8)
        ((HT.out.keep.next hk7 (fun _ _ x => x) (fun _ _ x => x)).next hk8 (fun _ _ x => x) (fun j hj x => absurd (hown j x) (by omega)))
        (by rw [Hs.out]; simpa [numsV] using hr8)
        (fun b e => by
          rcases hv8 with ⟨_, h0⟩ | ⟨b', h1, h2⟩
          · omega
          · rw [e] at h1
            cases h1
            rcases h2 with h2 | h2
            · exact hown _ h2
            · omega))
      clear hr8 hk8 hv8 hn7 hk7 hk6 hsz hsz2 hown p0 p1 p2 p3
      go_wp2_with (at_builtin; refine stopAt ?_; intro q hq)
      go_roundw
      case rel => exact ⟨i + 1, by omega, by go_num, HT8⟩
      case measure => simp [intOf]; omega
    · have h4 : decide ((i : Int) < len) = false := by simp; omega
      have he : i = len := by omega
      have hrow := HT.out.row
      have hle : chs (l.take i) = chs l := by rw [he, HL.out, List.take_length]
      rw [hle] at hrow
      have hcl : (chs l).length = i := by unfold chs; rw [List.length_map, ← HL.out, he]
      have HRow := hid hrow
      have Hcl := hid hcl
      clear hrow hle hcl he
      go_wp2_with (at_builtin; refine stopAt ?_; intro q hq)
      refine (sort_ints wr (.slice bo i bcap) (chs l) (by rw [Hcl.out]; exact HRow.out) (by rw [Hcl.out]; omega)).mono ?_
      rintro e w9 ⟨rfl, hr9, hk9⟩
      have HR9 := hid hr9
      have HK9 := hid hk9
      clear hr9 hk9
      go_wp2_with (at_builtin; refine stopAt ?_; intro q hq)
      have hlen9 : ((chs l).mergeSort fun x y => decide (x ≤ y)).length = i := by rw [List.length_mergeSort]; exact Hcl.out
      have hcmp := compact_ints w9 bo bcap ((chs l).mergeSort fun x y => decide (x ≤ y)) (by rw [hlen9]; have := HR9.out; rw [Hcl.out] at this; exact this) (compact_len _)
      rw [hlen9] at hcmp
      refine hcmp.mono ?_
      rintro e w10 ⟨rfl, hr10, hk10⟩
      have hown := HT.out.own
      have hk39 : Keep (fun _ => False) w3 w10 := (HT.out.keep.next HK9.out (fun _ _ x => x) (fun j hj x => absurd (hown j x) (by omega))).next hk10 (fun _ _ x => x) (fun j hj x => absurd (hown j x) (by omega))
      have HF := hid (And.intro hr10 (K3.out.next hk39 (fun _ _ x => x) (fun _ _ x => x)))
      have HO := hid (fun b (e : (Value.slice bo (Lib.compact ((chs l).mergeSort fun x y => decide (x ≤ y))).length bcap).ownBlock = some b) => show w.heap.size ≤ b from Nat.le_trans K3.out.size (hown b (by rw [ownBlock_len bo i (Lib.compact ((chs l).mergeSort fun x y => decide (x ≤ y))).length bcap]; exact e)))
      obtain ⟨z, hz⟩ : ∃ z, z = (Lib.compact ((chs l).mergeSort fun x y => decide (x ≤ y))).length := ⟨_, rfl⟩
      rw [← hz] at HO ⊢
      have HZ := hid hz
      clear hr10 hk10 hown hk39 hcmp hlen9 hz
      go_wp2_with (at_builtin; refine stopAt ?_; intro q hq)
      go_ret2
      exact ⟨_, l, rfl, by unfold tch; rw [HZ.out]; exact HF.out.1, HC.out.1, HC.out.2, HF.out.2, HO.out⟩
end Go.Proofs.Ytmbfglblkpipcaa
