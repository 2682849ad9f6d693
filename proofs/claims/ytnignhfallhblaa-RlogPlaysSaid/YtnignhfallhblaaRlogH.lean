/- rlog: a contract for Holes. Conditions: as the contract names them. -/
import Derived.Test.YtnignhfallhblaaRlogC
namespace Go.Proofs.Ytnignhfallhblaa
open Go.RowKit
open RM

def u64V (l : List Nat) : List Value := l.map fun (n : Nat) => .int .u64 (n : Int)
theorem u64V_length (l : List Nat) : (u64V l).length = l.length := by simp [u64V]
theorem ty_u64s : SliceTy Try.prog 23 26 (.int .u64 0) 1 8 := ⟨by kernel_rfl, by kernel_rfl, rfl, by decide⟩

structure HolesRel (w : World) (all more : List Nat) (es : List Nat) (v : Value) (wr : World) : Prop where
  row : Row wr 26 1 v es.length (u64V es)
  own : ∀ k, v.ownBlock = some k → w.heap.size ≤ k
  sum : es ++ more = all
  keep : Keep (fun _ => False) w wr
def OutU (w : World) (es : List Nat) (e : Ending) (w' : World) : Prop := ∃ v, e = .returned v ∧ Row w' 26 1 v es.length (u64V es) ∧ (∀ k, v.ownBlock = some k → w.heap.size ≤ k) ∧ Keep (fun _ => False) w w'

structure InRel (w : World) (all more : List Nat) (es : List Nat) (v : Value) (E x : Nat) (y : Value) (wr : World) : Prop where
  rel : HolesRel w all more es v wr
  blk : wr.heap[E]? = some (.cells #[.int .u64 (x : Int), y] 32 (0, 0))
  ne : v.ownBlock ≠ some E

theorem HolesRel.fin {w : World} {all es : List Nat} {v : Value} {wr : World} (h : HolesRel w all [] es v wr) : OutU w all (.returned v) wr := by
  have h1 := h.sum
  rw [List.append_nil] at h1
  subst h1
  exact ⟨v, rfl, h.row, h.own, h.keep⟩

set_option maxRecDepth 20000 in
set_option maxHeartbeats 1000000 in
theorem holes_any (w : World) (b : Nat) (F : Nat → Prop) (g : Lg) (most : Int) (hL : LogAt w b F g) (hm1 : -9223372036854775808 ≤ most) (hm2 : most ≤ 100000) :
    Calls Try.prog 18 #[.pointer (some ⟨b, 0, none⟩), .int .i64 most] w fun e w' => OutU w (RM.holes g most) e w' := by
  obtain ⟨v, us, hI⟩ := hL
  obtain ⟨ad, cap, rfl, hcap, hcm, -⟩ := hI.row.form
  obtain ⟨a0, a1, af, -⟩ := cells2 hI.head
  have hap := hI.ok.ap
  have hf := find_any w b F g (g.ap + 1) ⟨_, _, hI⟩
  rw [show (((g.ap + 1 : Nat) : Nat) : Int) = (g.ap : Int) + 1 by omega] at hf
  have HI := hid hI
  obtain ⟨all, hall⟩ : ∃ z, z = RM.holes g most := ⟨_, rfl⟩
  rw [← hall]
  unfold RM.holes at hall
  obtain ⟨at_, hat⟩ : ∃ z, z = below g.l (g.ap + 1) := ⟨_, rfl⟩
  have hal : at_ ≤ g.l.length := by rw [hat]; exact below_le _ _
  rw [← hat] at hf hall
  obtain ⟨len, hlen⟩ : ∃ z, z = g.l.length := ⟨_, rfl⟩
  have hlm : len ≤ 4096 := by rw [hlen]; exact hI.ok.few
  rw [← hlen] at a1 hal hcap
  have hsl := fun w => run_sliceAt_lo (P := Try.prog) ty_ents ad len cap .i64 at_ hal w
  obtain ⟨ta, hta⟩ : ∃ z, z = tailAt ad cap at_ 2 := ⟨_, rfl⟩
  obtain ⟨m, hm⟩ : ∃ z, z = len - at_ := ⟨_, rfl⟩
  rw [← hta, ← hm] at hsl
  have HX := hid (And.intro hall (And.intro hlen (And.intro hta (show at_ + m = len by omega))))
  have hm4 : m ≤ 4096 := by omega
  have Hf := hid hf
  clear hI hf hall hat hlen hta hm
  go_enter Try.func18, Try.ntmps18
  go_wp2_with (at_builtin; refine stopAt ?_; intro q hq)
  refine Hf.out.mono ?_
  rintro e w2 ⟨rfl, hk2⟩
  obtain ⟨a0, a1, af, -⟩ := cells2 (hk2.get HI.out.head id)
  rw [← HX.out.2.1] at a1
  have HK2 := hid hk2
  clear hk2
  go_wp2_with (at_builtin; refine stopAt ?_; intro q hq)
  clear hsl a0 a1 af
  go_loopw [5, 6, 31] (fun ov sv iv wr => ∃ (i s : Nat) (es : List Nat), i ≤ m ∧ s ≤ 18446744073709551615 ∧ es.length ≤ 100000 ∧ sv = .int .u64 s ∧ iv = .int .i64 i ∧ Hid (HolesRel w all ((gaps (g.l.drop (at_ + i)) s).take (most.toNat - es.length)) es ov wr)) (fun _ _ iv _ => m - (intOf iv).toNat)
  case atStart =>
    refine ⟨0, g.ap + 1, [], Nat.zero_le _, by omega, by simp, by go_num, rfl, hid ⟨Row.nil _ _ _, fun k e => by simp [Value.ownBlock] at e, ?_, HK2.out⟩⟩
    rw [HX.out.1]; rfl
  case round =>
    obtain ⟨i, s, es, him, hs, hes, rfl, rfl, HR⟩ := hrel
    obtain ⟨ao2, c2, rfl, -⟩ := HR.out.row.form
    by_cases hlt : i < m
    · have h4 : (i : Int) < m := by omega
      have hI := HI.out.keep HR.out.keep (fun _ _ x => x)
      have hl2 : at_ + i < g.l.length := by have := HX.out.2.1; have := HX.out.2.2.2; omega
      obtain ⟨gr, cap', ao, c, hv, e0, e1, e2, e3⟩ := hI.ent (at_ + i) hl2
      cases hv
      have hta : ta = some ⟨gr, at_ * 2, none⟩ := by
        rw [HX.out.2.2.1]
        unfold tailAt
        rw [if_neg (by have := HX.out.2.2.2; omega)]
        simp [addr_add]
      have hsl := (HI.out.ok.slots _ (List.getElem_mem hl2)).2
      have hst : gaps (g.l.drop (at_ + i)) s = List.range' s (g.l[at_ + i].1 - s) ++ gaps (g.l.drop (at_ + (i + 1))) (g.l[at_ + i].1 + 1) := by
        rw [List.drop_eq_getElem_cons hl2]; rfl
      obtain ⟨x, hx⟩ : ∃ x, x = g.l[at_ + i].1 := ⟨_, rfl⟩
      obtain ⟨xn, hxn⟩ : ∃ x, x = g.l[at_ + i].2.length := ⟨_, rfl⟩
      rw [← hx] at e0 hsl hst
      rw [← hxn] at e1
      rw [show (at_ + i) * 2 = at_ * 2 + i * 2 by omega] at e0 e1
      have HR := hid (hst ▸ HR.out)
      clear hst hx hxn hI e2 e3
      subst hta
      go_wp2_with (at_builtin; refine stopAt ?_; intro q hq)
      clear e0 e1
      have hA := heap_alloc_new wr (.cells #[.int .u64 (x : Nat), .slice ao xn c] 32)
      have kA : Keep (fun _ => False) wr (wr.alloc (.cells #[.int .u64 (x : Nat), .slice ao xn c] 32)) := (Keep.refl _ _).alloc _
      obtain ⟨wA, hwA⟩ : ∃ wA, wA = wr.alloc (.cells #[.int .u64 (x : Nat), .slice ao xn c] 32) := ⟨_, rfl⟩
      rw [← hwA] at hA kA ⊢
      clear hwA
      obtain ⟨E, hE⟩ : ∃ E, E = wr.heap.size := ⟨_, rfl⟩
      rw [← hE] at hA ⊢
      have HIn := hid (show InRel w all ((List.range' s (x - s) ++ gaps (g.l.drop (at_ + (i + 1))) (x + 1)).take (most.toNat - es.length)) es (.slice ao2 es.length c2) E x (.slice ao xn c) wA from
        ⟨⟨HR.out.row.keep kA fun _ _ y => y, HR.out.own, HR.out.sum, HR.out.keep.next kA (fun _ _ y => y) (fun _ _ y => y)⟩, hA, fun y => by have := HR.out.row.lt y; omega⟩)
      clear HR hA kA hE
      go_loopw [5, 6] (fun ov sv wr => ∃ (s : Nat) (es : List Nat), s ≤ 18446744073709551615 ∧ es.length ≤ 100000 ∧ sv = .int .u64 s ∧ Hid (InRel w all ((List.range' s (x - s) ++ gaps (g.l.drop (at_ + (i + 1))) (x + 1)).take (most.toNat - es.length)) es ov E x (.slice ao xn c) wr)) (fun _ sv _ => x - (intOf sv).toNat)
      case atStart => exact ⟨s, es, hs, hes, rfl, HIn⟩
      case round =>
        clear hs hes HIn
        obtain ⟨s, es, hs, hes, rfl, HR⟩ := hrel
        obtain ⟨ao2, c2, rfl, -⟩ := HR.out.rel.row.form
        obtain ⟨b0, b1, bf, -⟩ := cells2 HR.out.blk
        by_cases hsx : s < x
        · by_cases hlm2 : (es.length : Int) < most
          · have t1 : decide (most ≤ (es.length : Int)) = false := by simp; omega
            go_wp2_with (at_builtin; refine stopAt ?_; intro q hq)
            (refine hq.out ?_; clear hq q)
            have hG := heap_alloc_new wr (.cells #[.int .u64 (s : Nat)] 26)
            have kG : Keep (fun _ => False) wr (wr.alloc (.cells #[.int .u64 (s : Nat)] 26)) := (Keep.refl _ _).alloc _
            obtain ⟨w5, hw5⟩ : ∃ w5, w5 = wr.alloc (.cells #[.int .u64 (s : Nat)] 26) := ⟨_, rfl⟩
            rw [← hw5] at hG kG ⊢
            have hev : Cells w5 (some ⟨wr.heap.size, 0, none⟩) 1 1 (u64V [s]) := ⟨rfl, fun _ => ⟨_, rfl, fun j u hu => by rw [addr_add, Nat.zero_add, cell_of_row _ _ _ _ _ _ hG]; simpa [u64V] using hu⟩⟩
            have hr5 := HR.out.rel.row.keep kG fun _ _ x => x
            refine wpList_plain rfl (fun K hK => ?_)
            refine wp_append (v := .slice ao2 es.length c2) ty_u64s (.tmp 46) (.tmp 48) rfl rfl hr5 (some ⟨wr.heap.size, 0, none⟩) 1 1 (u64V [s]) rfl hev (fun u hu => by simp [u64V] at hu; subst hu; rfl) (by unfold maxLen; omega) (by omega) ?_
            intro v6 w6 hr6 hk6 hv6
            refine hK _ _ ?_
            clear hK K
            obtain ⟨ao6, c6, rfl, -⟩ := hr6.form
            have hv6' : ∀ k, (Value.slice ao6 (es.length + 1) c6).ownBlock = some k → (Value.slice ao2 es.length c2).ownBlock = some k ∨ k = w5.heap.size := fun k e => by
              rcases hv6 with ⟨y, z⟩ | ⟨k', y, z⟩
              · exact absurd z (by omega)
              · rw [e] at y
                cases y
                exact z
            have hz := kG.size
            have hkk : Keep (fun _ => False) w w6 := (HR.out.rel.keep.next kG (fun _ _ x => x) (fun _ _ x => x)).next hk6 (fun _ _ x => x) (fun k hk y => by have := HR.out.rel.own k y; omega)
            have hlE := heap_lt HR.out.blk
            have HRS := hid (show InRel w all ((List.range' (s + 1) (x - (s + 1)) ++ gaps (g.l.drop (at_ + (i + 1))) (x + 1)).take (most.toNat - (es ++ [s]).length)) (es ++ [s]) (.slice ao6 (es.length + 1) c6) E x (.slice ao xn c) w6 from
              ⟨⟨by rw [List.length_append, show u64V (es ++ [s]) = u64V es ++ u64V [s] by simp [u64V]]; exact hr6, fun k e => by
                rcases hv6' k e with y | y
                · exact HR.out.rel.own k y
                · have := HR.out.rel.keep.size; omega, by
                have h1 := HR.out.rel.sum
                rw [show x - s = (x - (s + 1)) + 1 by omega, List.range'_succ, show most.toNat - es.length = (most.toNat - (es ++ [s]).length) + 1 by rw [List.length_append, List.length_singleton]; omega, List.cons_append, List.take_succ_cons] at h1
                rw [← h1, List.append_assoc]
                rfl, hkk⟩, hk6.get (kG.get HR.out.blk id) HR.out.ne, fun y => by
                rcases hv6' E y with z | z
                · exact HR.out.ne z
                · omega⟩)
            have hes2 : (es ++ [s]).length ≤ 100000 := by rw [List.length_append, List.length_singleton]; omega
            clear hkk hr6 hk6 hv6 hv6' hr5 hev hG kG hw5 b0 b1 bf
            go_wp2_with (at_builtin; refine stopAt ?_; intro q hq)
            exact ⟨⟨s + 1, es ++ [s], by omega, hes2, by go_num, HRS⟩, by simp [intOf]; omega⟩
          · have t1 : decide (most ≤ (es.length : Int)) = true := by simp; omega
            have HR2 := HR
            rw [show most.toNat - es.length = 0 by omega, List.take_zero] at HR2
            have HF := hid (HolesRel.fin HR2.out.rel)
            clear HR2 hlm2
            go_wp2_with (at_builtin; refine stopAt ?_; intro q hq)
            go_ret
            exact HF.out
        · have t1 : decide (s < x) = false := by simp; omega
          rw [show x - s = 0 by omega, List.range'_zero, List.nil_append] at HR
          have HR3 := hid HR.out.rel
          clear HR
          clear hsx
          go_wp2_with (at_builtin; refine stopAt ?_; intro q hq)
          exact ⟨⟨i + 1, x + 1, es, by omega, by omega, hes, by go_num, by go_num, HR3⟩, by simp [intOf]; omega⟩
    · have t2 : decide ((i : Int) < (m : Int)) = false := by simp; omega
      obtain rfl : i = m := by omega
      have hst : gaps (g.l.drop (at_ + i)) s = [] := by rw [List.drop_eq_nil_of_le (by have := HX.out.2.1; have := HX.out.2.2.2; omega)]; rfl
      rw [hst] at HR
      have HF := hid (HolesRel.fin (by simpa using HR.out))
      clear hst
      go_wp2_with (at_builtin; refine stopAt ?_; intro q hq)
      go_ret
      exact HF.out
end Go.Proofs.Ytnignhfallhblaa
