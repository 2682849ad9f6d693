/- Texts WalT, WalL, WalX, WalH, WalG, WalW, WalV, WalO, RwA, RwB, RwC, RwD, RwE, RwF in one. Conditions: as each law names them. -/
import Derived.Test.YteemekckiafnfaaBad
import Derived.Test.YteemekckiafnfaaBaf
import Derived.Test.YteemekckiafnfaaBag
import Derived.Test.YteemekckiafnfaaBaj
import Derived.Test.YteemekckiafnfaaBak
import Derived.Test.YteemekckiafnfaaBan
/- The program's log: a contract for turn. Conditions: as the contract names them. -/
namespace Go.Proofs.Yteemekckiafnfaa
open Go.RowKit
open DM BM WM

theorem step_append_eq2 {P : Program} {ops : Array Oper} {o : Oper} {a : Act} {w w' : World} {K : Act → World → Prop} {Q : Exit → Act → World → Prop} {E : Prop} {t tn : TypeId} {v1 v2 v' : Value}
    (hg : o.guard = none) (s x : Operand) (hop : o.op = Op.call { callee := Callee.builtin Builtin.append, args := #[s, x], argTypes := #[t, tn] }) (h1 : a.eval s = v1) (h2 : a.eval x = v2)
    (hr : (Builtin.append_ #[t, tn] o.type #[v1, v2]).run P w = .ok v' w') (hK : K (a.put o.dst v') w') :
    if Region.wanted o (yielded ops a.tmps) = true then Oper.wp P o a w K Q else E := by
  have hw : Region.wanted o (yielded ops a.tmps) = true := by simp [Region.wanted, hg]
  rw [if_pos hw]
  subst h1 h2
  unfold Oper.wp
  simp [execOp, hop, resolve, invoke, builtin, hr, Result.andThen]
  exact hK

theorem putUint_length (n : Nat) (hn : n < 18446744073709551616) : (putUint n).length ≤ 10 := by
  obtain ⟨s1, s2, -⟩ := sizeU_spec n hn
  rw [(putUint_digc n hn).1, List.length_append, digc_length]
  simp; omega

theorem sync_waits (D : Dk) : (DM.sync D).2.waits.length ≤ D.waits.length := by
  unfold DM.sync
  split
  · simp
  · rw [act_waits]; omega

theorem headSec_length (ep : Nat) (h : ep < 18446744073709551616) : (headSec ep).length = 32 := by
  have := putUint_length ep h
  unfold headSec
  rw [List.length_append, List.length_replicate, frame_length]; omega

/-- What turn leaves. -/
def TurnTo (b d : Nat) (Fd : Nat → Prop) (w : World) (cs ns : Array Value) (R : Int × Dk) (e : Ending) (w' : World) : Prop :=
  e = .returned (.int .i64 R.1) ∧ ∃ Fd', DiskAt w' d Fd' R.2 ∧ Keep (fun k => Fd k ∨ k = b) w w' ∧ (∀ k, Fd' k → Fd k ∨ w.heap.size ≤ k) ∧ w'.heap[b]? = some (.cells (if R.1 = 0 then ns else cs) 75 (0, 0))

theorem DiskTo.next2 {d : Nat} {Fd : Nat → Prop} {w w1 w2 : World} {D1 D2 : Dk} (h : DiskTo d Fd w D1 w1) (h2 : ∀ F1, DiskAt w1 d F1 D1 → DiskTo d F1 w1 D2 w2) : DiskTo d Fd w D2 w2 := by
  obtain ⟨F1, a, k, f⟩ := h
  exact DiskTo.next k f (h2 F1 a)
theorem DiskTo.toLater {d : Nat} {Fd : Nat → Prop} {w w1 w2 : World} {D1 : Dk} (h : DiskTo d Fd w D1 w1) (hk : Keep (fun _ => False) w1 w2) : DiskTo d Fd w D1 w2 := by
  obtain ⟨F1, a, k, f⟩ := h
  exact ⟨F1, a.keep hk fun _ _ x => x, k.next hk (fun _ _ x => x) (fun _ _ x => x.elim), f⟩

set_option maxRecDepth 20000 in
set_option maxHeartbeats 2000000 in
theorem turn_any (w : World) (b d ga ca ep sf en : Nat) (Fd : Nat → Prop) (D : Dk) (bs : List UInt8) (vl : Value) (dead : Bool) (cs : List Value) (H : w.heap[b]? = some (.cells cs.toArray 75 (0, 0))) (hcs : cs.length = 8)
    (hD : DiskAt w d Fd D) (hrow : Row w 5 1 (.slice (some ⟨ga, 0, none⟩) (32 * half D) ca) (32 * half D) (bytesV bs)) (hb : ¬ Fd b) (hga : ¬ Fd ga) (hep : ep < 4611686018427387905) (hfew : D.waits.length ≤ 700000)
    (hvl : vl.oneCell' = true) :
    Calls Try.prog 52 #[.pointer (some ⟨b, 0, none⟩), .agg (walCells d ep (half D) (.slice (some ⟨ga, 0, none⟩) (32 * half D) ca) vl sf en dead)] w
      (TurnTo b d Fd w cs.toArray (walCells d ep (half D) (.slice (some ⟨ga, 0, none⟩) (32 * half D) ca) vl sf en dead) (turnW ep bs D)) := by
  have hfewD := hD.ok.few
  have hhalf : half D ≤ 1023 := by unfold half; omega
  have hlt := hD.lt
  have hrl := hrow.lt (k := ga) (by simp [Value.ownBlock])
  have hbl := heap_lt H
  obtain ⟨w1, hw1⟩ : ∃ w1, w1 = w.alloc (.cells (walCells d ep (half D) (.slice (some ⟨ga, 0, none⟩) (32 * half D) ca) vl sf en dead) 75) := ⟨_, rfl⟩
  have hk1 : Keep (fun _ => False) w w1 := by rw [hw1]; exact (Keep.refl _ _).alloc _
  have hh1 : w1.heap[w.heap.size]? = some (.cells (walCells d ep (half D) (.slice (some ⟨ga, 0, none⟩) (32 * half D) ca) vl sf en dead) 75) := by rw [hw1]; exact heap_alloc_new w _
  have hD1 := hD.keep hk1 fun _ _ x => x
  have hrow1 := hrow.keep hk1 fun _ _ x => x
  have hF1 : ∀ k, Fd k → k ≠ w.heap.size := fun k x => by have := hlt k x; omega
  obtain ⟨n2, hn2⟩ : ∃ n2, n2 = w.heap.size := ⟨_, rfl⟩
  have hn2F : ¬ Fd n2 := fun x => hF1 n2 x hn2
  have hbn : b ≠ n2 := by omega
  rw [← hn2] at hh1
  obtain ⟨Post, hPost⟩ : ∃ Post, Post = TurnTo b d Fd w cs.toArray (walCells d ep (half D) (.slice (some ⟨ga, 0, none⟩) (32 * half D) ca) vl sf en dead) (turnW ep bs D) := ⟨_, rfl⟩
  rw [← hPost]
  -- ways that fail, and the other one
  have bad : ∀ wX DX (c : Int), c ≠ 0 → turnW ep bs D = (c, DX) → DiskTo d Fd w1 DX wX → Post (.returned (.int .i64 c)) wX := by
    intro wX DX c hc he ht
    obtain ⟨F', h1, h2, h3⟩ := ht.since hk1
    rw [hPost, he]
    refine ⟨rfl, F', h1, h2.mono fun _ _ x => .inl x, h3, ?_⟩
    rw [if_neg hc]
    exact h2.get H hb
  have good : ∀ wX wY DX, turnW ep bs D = (0, DX) → DiskTo d Fd w1 DX wX → wY = wX.setRow b (walCells d ep (half D) (.slice (some ⟨ga, 0, none⟩) (32 * half D) ca) vl sf en dead) → Post (.returned (.int .i64 0)) wY := by
    intro wX wY DX he ht hwY
    obtain ⟨F', h1, h2, h3⟩ := ht.since hk1
    have hk : Keep (fun k => k = b) wX wY := by rw [hwY]; refine Keep.setRow (Keep.refl _ _) (.inl ?_) _; rfl
    have hFb : ¬ F' b := fun x => (h3 b x).elim hb fun y => by omega
    rw [hPost, he]
    refine ⟨rfl, F', h1.keep hk fun k x y => by subst y; exact hFb x, h2.next hk (fun _ _ x => .inl x) (fun _ _ x => .inr x), h3, ?_⟩
    rw [if_pos rfl, hwY]
    exact setRow_heap wX b _ _ _ _ (h2.get H hb)
  clear hPost
  have Bad := hid bad
  have Good := hid good
  clear bad good
  obtain ⟨nn, hnn⟩ : ∃ nn, nn = 32 * half D := ⟨_, rfl⟩
  obtain ⟨i0, i1, i2, i3, i4, i5, i6, i7, if1, ib1⟩ := cells8 (show w1.heap[n2]? = some (.cells #[_, _, _, _, _, _, _, _] _ (0, 0)) from hh1)
  have heach := lay_any w1 n2 d 74 ga ca #[.pointer (some ⟨n2, 0, none⟩)] ep 0 0 (half D) (32 * half D) Fd D bs hD1 rfl (fun i => by omega) (Nat.zero_le _) (Nat.le_refl _) (Nat.le_refl _) hn2F hga i3 hrow1
    (enters_of Try.func74 (by kernel_rfl) rfl) (by omega) (by
      intro wr F' D' hk hD' hF' hs' hw' i hi ao c s hsrc hap
      have H' := hk.get hh1 hn2F
      rw [← half_len hs'] at H' hi
      rw [← first_len hs']
      exact lay2_any wr n2 d ep F' D' _ vl sf en dead H' hD' i hi ao c s hsrc hap hw')
  rw [Nat.sub_zero] at heach
  obtain ⟨R, hR⟩ : ∃ R, R = lay ep bs 0 (half D) D := ⟨_, rfl⟩
  rw [← hR, ← hnn] at heach
  rw [← hnn] at i3
  have hRw : R.2.waits.length ≤ 702000 := by rw [hR]; have := lay_waits ep bs (half D) 0 D; omega
  have HEach := hid heach
  have HT := hid (show turnW ep bs D = if R.1 ≠ 0 then R else if (DM.sync R.2).1 ≠ 0 then DM.sync R.2 else
      if (DM.write (DM.sync R.2).2 ((ep % 2 : Nat) : Int) (headSec ep)).1 ≠ 0 then DM.write (DM.sync R.2).2 ((ep % 2 : Nat) : Int) (headSec ep) else DM.sync (DM.write (DM.sync R.2).2 ((ep % 2 : Nat) : Int) (headSec ep)).2 by rw [hR]; rfl)
  have HH := hid (And.intro hh1 (And.intro hk1 (And.intro hn2F (And.intro hlt (And.intro hn2 hnn)))))
  have HB := hid (And.intro H (And.intro hb (And.intro hbn hbl)))
  have hwc : walCells d ep (half D) (.slice (some ⟨ga, 0, none⟩) (32 * half D) ca) vl sf en dead = #[.pointer (some ⟨d, 0, none⟩), .int .u64 (ep : Nat), .int .i64 (half D : Nat), .slice (some ⟨ga, 0, none⟩) nn ca, vl, .int .i64 (sf : Nat), .int .i64 (en : Nat), .bool dead] := by rw [hnn]; rfl
  clear heach hR hh1 hk1 hD hD1 hrow hrow1 hnn H
  rw [hwc]
  rw [hwc] at hw1
  go_enter Try.func52, Try.ntmps52
  go_wp2_with (at_builtin; refine stopAt ?_; intro q hq)
  rw [← hw1, ← hn2]
  clear hw1 i0 i1 i2 i3 i4 i5 i6 i7 if1 ib1 hwc hn2
  refine HEach.out.mono ?_
  rintro e w2 ⟨rfl, ht2⟩
  have HT2 := hid ht2
  obtain ⟨F2, hD2, hk2, hF2⟩ := ht2
  have hh2 := hk2.get HH.out.1 hn2F
  obtain ⟨i0, i1, i2, i3, i4, i5, i6, i7, if1, ib1⟩ := cells8 (show w2.heap[n2]? = some (.cells #[_, _, _, _, _, _, _, _] _ (0, 0)) from hh2)
  have H2 := hid (And.intro hD2 (And.intro hk2 (And.intro hF2 hh2)))
  clear hD2 hk2 hF2 hh2
  by_cases r0 : R.1 = 0
  rotate_left
  · have hB := Bad.out w2 R.2 R.1 r0 (by rw [HT.out, if_pos r0]) HT2.out
    have u1 : (R.1 == 0) = false := by simp [r0]
    have u3 : decide (R.1 = 0) = false := by simp [r0]
    have HB2 := hid hB
    clear hB r0
    go_wp2_with (at_builtin; refine stopAt ?_; intro q hq)
    exact HB2.out
  have HTa := hid (show turnW ep bs D = if (DM.sync R.2).1 ≠ 0 then DM.sync R.2 else
      if (DM.write (DM.sync R.2).2 ((ep % 2 : Nat) : Int) (headSec ep)).1 ≠ 0 then DM.write (DM.sync R.2).2 ((ep % 2 : Nat) : Int) (headSec ep) else DM.sync (DM.write (DM.sync R.2).2 ((ep % 2 : Nat) : Int) (headSec ep)).2 by rw [HT.out, if_neg (by simp [r0])])
  clear HT
  rw [r0]
  go_wp2_with (at_builtin; refine stopAt ?_; intro q hq)
  refine (sync_any w2 d F2 R.2 H2.out.1 (by omega)).mono ?_
  rintro e w3 ⟨rfl, ht3⟩
  have ht13 := DiskTo.next H2.out.2.1 H2.out.2.2.1 ht3
  have HT13 := hid ht13
  obtain ⟨F3, hD3, hk3, hF3⟩ := ht13
  have hh3 := hk3.get HH.out.1 hn2F
  clear i0 i1 i2 i3 i4 i5 i6 i7 if1 ib1 ht3 H2
  obtain ⟨i0, i1, i2, i3, i4, i5, i6, i7, if1, ib1⟩ := cells8 (show w3.heap[n2]? = some (.cells #[_, _, _, _, _, _, _, _] _ (0, 0)) from hh3)
  have H3 := hid (And.intro hD3 (And.intro hk3 (And.intro hF3 hh3)))
  clear hD3 hk3 hF3 hh3
  obtain ⟨Y, hY⟩ : ∃ Y, Y = DM.sync R.2 := ⟨_, rfl⟩
  have hYw : Y.2.waits.length ≤ 702001 := by rw [hY]; have := sync_waits R.2; omega
  rw [← hY] at HTa H3 HT13 ⊢
  clear hY
  by_cases y0 : Y.1 = 0
  rotate_left
  · have hB := Bad.out w3 Y.2 Y.1 y0 (by rw [HTa.out, if_pos y0]) HT13.out
    have u1 : (Y.1 == 0) = false := by simp [y0]
    have u3 : decide (Y.1 = 0) = false := by simp [y0]
    have HB2 := hid hB
    clear hB y0
    go_wp2_with (at_builtin; refine stopAt ?_; intro q hq)
    exact HB2.out
  have HTb := hid (show turnW ep bs D = if (DM.write Y.2 ((ep % 2 : Nat) : Int) (headSec ep)).1 ≠ 0 then DM.write Y.2 ((ep % 2 : Nat) : Int) (headSec ep) else DM.sync (DM.write Y.2 ((ep % 2 : Nat) : Int) (headSec ep)).2 by rw [HTa.out, if_neg (by simp [y0])])
  clear HTa
  rw [y0]
  go_wp2_with (at_builtin; refine stopAt ?_; intro q hq)
  refine (putuint_any w3 ep (by omega)).mono ?_
  rintro e w4 ⟨v4, rfl, hf4⟩
  obtain ⟨ad4, c4, rfl, -⟩ := hf4.row.form
  have hl4 := putUint_length ep (by omega)
  have HF4 := hid hf4
  clear hf4
  go_wp2_with (at_builtin; refine stopAt ?_; intro q hq)
  refine (put_any w4 1 ad4 (putUint ep).length c4 (putUint ep) (Cells.of_row HF4.out.row) (by omega)).mono ?_
  rintro e w5 ⟨v5, rfl, hf5⟩
  obtain ⟨ad5, c5, rfl, -⟩ := hf5.row.form
  obtain ⟨fl, hfl⟩ : ∃ fl, fl = (frame 1 (putUint ep)).length := ⟨_, rfl⟩
  have hfl2 : fl ≤ 20 := by rw [hfl, frame_length]; omega
  rw [← hfl]
  have hk35 : Keep (fun _ => False) w3 w5 := HF4.out.keep.next hf5.keep (fun _ _ x => x) (fun _ _ x => x)
  have hf35 : Fresh w3 (.slice ad5 fl c5) (frame 1 (putUint ep)) w5 := by rw [hfl]; exact hf5.since HF4.out.keep
  have hn2l := heap_lt HH.out.1
  have hn2F3 : ¬ F3 n2 := fun x => (H3.out.2.2.1 n2 x).elim hn2F fun y => by omega
  have hF3l : ∀ k, F3 k → k < w3.heap.size := H3.out.1.lt
  obtain ⟨k, hk⟩ : ∃ k, k = 32 - fl := ⟨_, rfl⟩
  have q1 : (32 : Int) - (fl : Int) = (k : Int) := by omega
  have q2 := wi64 k (by omega)
  have hf5d : Fresh w3 (.slice ad5 fl c5) (frame 1 (putUint ep)) w5.drew := hf35.later (Keep.refl _ _).drew
  obtain ⟨v6, w6, hr6, hf6, hk6, -⟩ := run_append_zeros (ty := 36) hf5d k (by rw [← hfl]; omega)
  have hsec : frame 1 (putUint ep) ++ List.replicate k 0 = headSec ep := by unfold headSec; rw [← hfl, hk]
  rw [hsec] at hf6
  have hl6 := headSec_length ep (by omega)
  obtain ⟨ad6, c6, hv6, -⟩ := hf6.row.form
  rw [hl6] at hv6
  subst hv6
  have hk36 : Keep (fun _ => False) w3 w6 := hf6.keep
  have z36 : ∀ p v, w3.cell? p = some v → w6.cell? p = some v := fun p v h => by rw [World.cell?_of_block (hk36.block _ (World.block_lt_of_cell? _ _ h) id)]; exact h
  have z35 : ∀ p v, w3.cell? p = some v → w5.drew.cell? p = some v := fun p v h => by rw [World.cell?_of_block (hk35.drew.block _ (World.block_lt_of_cell? _ _ h) id)]; exact h
  have a0 := z35 _ _ i0
  have a1 := z35 _ _ i1
  have b0 := z36 _ _ i0
  have b1 := z36 _ _ i1
  obtain ⟨m, hm⟩ : ∃ m, m = ep % 2 := ⟨_, rfl⟩
  have q3 : ((ep : Int) % 2) = (m : Int) := by omega
  have q4 : ((ep : Int).tmod 2) = (m : Int) := by rw [Int.tmod_eq_emod_of_nonneg (by omega)]; exact q3
  have q5 := wi64 m (by omega)
  have hW := write_any w6 d F3 Y.2 (m : Int) ad6 32 c6 (headSec ep) (H3.out.1.keep hk36 fun _ _ x => x) (by have h := Cells.of_row (show Row w6 _ 1 (.slice ad6 32 c6) 32 _ from hl6 ▸ hf6.row); exact h)
    (fun _ x hx y => by
      have h1 := hf6.own x.block (by rw [hx]; rfl)
      have h2 := hF3l _ y
      omega) (by omega) (by decide) (by omega)
  rw [← hm] at HTb
  obtain ⟨Z, hZ⟩ : ∃ Z, Z = DM.write Y.2 (m : Int) (headSec ep) := ⟨_, rfl⟩
  have hZw : Z.2.waits.length ≤ 702002 := by rw [hZ]; have := write_waits Y.2 (m : Int) (headSec ep); omega
  rw [← hZ] at HTb hW
  have hW2 : Calls Try.prog 47 #[.pointer (some ⟨d, 0, none⟩), .int .i64 (m : Int), .slice ad6 32 c6] w6 fun e w' => e = .returned (.int .i64 Z.1) ∧ (w'.cell? ⟨n2, 0, none⟩ = some (.pointer (some ⟨d, 0, none⟩)) ∧ w'.cell? ⟨n2, 1, none⟩ = some (.int .u64 (ep : Nat))) ∧ Hid (DiskTo d Fd w1 Z.2 w') := by
    refine hW.mono ?_
    rintro e w' ⟨rfl, ht⟩
    obtain ⟨F', h1, h2, h3⟩ := ht
    refine ⟨rfl, ⟨?_, ?_⟩, hid (DiskTo.next (H3.out.2.1.next hk36 (H := Fd) (fun _ _ x => x) (fun _ _ x => x.elim)) H3.out.2.2.1 ⟨F', h1, h2, h3⟩)⟩
    · rw [World.cell?_of_block (h2.block _ (World.block_lt_of_cell? _ _ b0) hn2F3)]; exact b0
    · rw [World.cell?_of_block (h2.block _ (World.block_lt_of_cell? _ _ b1) hn2F3)]; exact b1
  have HW := hid hW2
  have HZ := hid hZ
  clear hW hW2 hZ hm hf5d hsec hk36 z36 z35 hk hf35 hk35 hf5 hfl i0 i1 i2 i3 i4 i5 i6 i7 if1 ib1
  go_wp2_with (at_builtin; refine stopAt ?_; intro q hq)
  go_region_held3 (fun w' => w'.cell? ⟨n2, 0, none⟩ = some (.pointer (some ⟨d, 0, none⟩)) ∧ w'.cell? ⟨n2, 1, none⟩ = some (.int .u64 (ep : Nat)))
    (first | exact ⟨a0, a1⟩ | exact ⟨b0, b1⟩ | assumption)
    (first
      | (refine step_append_eq2 rfl _ _ rfl rfl rfl hr6 ?_)
      | (go_simp; go_at_call 47; refine HW.out.mono ?_; rintro e w7 ⟨rfl, hz7, HT7⟩; go_simp))
  clear a0 a1 b0 b1 hr6
  obtain ⟨F7, hD7, hk7, hF7⟩ := HT7.out
  have hh7 := hk7.get HH.out.1 hn2F
  obtain ⟨i0, i1, i2, i3, i4, i5, i6, i7, if1, ib1⟩ := cells8 (show w7.heap[n2]? = some (.cells #[_, _, _, _, _, _, _, _] _ (0, 0)) from hh7)
  have H7 := hid (And.intro hD7 (And.intro hk7 (And.intro hF7 hh7)))
  clear hD7 hk7 hF7 hh7 hz7
  by_cases z0 : Z.1 = 0
  rotate_left
  · have hB := Bad.out w7 Z.2 Z.1 z0 (by rw [HTb.out, if_pos z0]) HT7.out
    have u1 : (Z.1 == 0) = false := by simp [z0]
    have u3 : decide (Z.1 = 0) = false := by simp [z0]
    have HB2 := hid hB
    clear hB z0
    go_wp2_with (at_builtin; refine stopAt ?_; intro q hq)
    exact HB2.out
  have HTc := hid (show turnW ep bs D = DM.sync Z.2 by rw [HTb.out, if_neg (by simp [z0])])
  clear HTb
  rw [z0]
  go_wp2_with (at_builtin; refine stopAt ?_; intro q hq)
  refine (sync_any w7 d F7 Z.2 H7.out.1 (by omega)).mono ?_
  rintro e w8 ⟨rfl, ht8⟩
  have ht18 := DiskTo.next H7.out.2.1 H7.out.2.2.1 ht8
  have HT18 := hid ht18
  obtain ⟨F8, hD8, hk8, hF8⟩ := ht18
  have hh8 := hk8.get HH.out.1 hn2F
  clear i0 i1 i2 i3 i4 i5 i6 i7 if1 ib1 ht8 H7
  obtain ⟨X, hX⟩ : ∃ X, X = DM.sync Z.2 := ⟨_, rfl⟩
  rw [← hX] at HTc HT18 ⊢
  clear hX
  by_cases x0 : X.1 = 0
  rotate_left
  · have hB := Bad.out w8 X.2 X.1 x0 HTc.out HT18.out
    have u1 : (X.1 == 0) = false := by simp [x0]
    have u3 : decide (X.1 = 0) = false := by simp [x0]
    have HB2 := hid hB
    clear hB x0 hh8 hk8 hF8 hD8
    go_wp2_with (at_builtin; refine stopAt ?_; intro q hq)
    exact HB2.out
  have hb8 := hk8.get (HH.out.2.1.get HB.out.1 id) HB.out.2.1
  obtain ⟨i0, i1, i2, i3, i4, i5, i6, i7, if1, ib1⟩ := cells8 (show w8.heap[n2]? = some (.cells #[_, _, _, _, _, _, _, _] _ (0, 0)) from hh8)
  have hG := Good.out w8 (w8.setRow b (walCells d ep (half D) (.slice (some ⟨ga, 0, none⟩) (32 * half D) ca) vl sf en dead)) X.2 (by rw [HTc.out, ← x0]) HT18.out rfl
  have HG := hid hG
  have Hb8 := hid hb8
  rw [x0]
  clear hG x0 hh8 hk8 hF8 hD8 hb8
  go_wp2_with (first | (at_builtin; refine stopAt ?_; intro q hq) | (refine stopOp (.store 75 _ _) rfl ?_; intro q hq))
  (refine hq.out ?_; clear hq q)
  refine wpList_plain rfl (fun K hK => ?_)
  have hcsz : (walCells d ep (half D) (.slice (some ⟨ga, 0, none⟩) (32 * half D) ca) vl sf en dead).toList = [.pointer (some ⟨d, 0, none⟩), .int .u64 (ep : Nat), .int .i64 (half D : Nat), .slice (some ⟨ga, 0, none⟩) (32 * half D) ca, vl, .int .i64 (sf : Nat), .int .i64 (en : Nat), .bool dead] := rfl
  refine wp_store_row 75 (.tmp 48) (.tmp 47) rfl b rfl [.pointer (some ⟨d, 0, none⟩), .int .u64 (ep : Nat), .int .i64 (half D : Nat), .slice (some ⟨ga, 0, none⟩) (32 * half D) ca, vl, .int .i64 (sf : Nat), .int .i64 (en : Nat), .bool dead] rfl 75 cs.toArray (0, 0) Hb8.out (Free.zero _) (by simp [hcs]) (by
    intro u hu
    simp at hu
    rcases hu with rfl | rfl | rfl | rfl | rfl | rfl | rfl | rfl <;> first | rfl | exact hvl) (by kernel_rfl) ?_
  refine hK _ _ ?_
  clear hK K
  go_wp2_with (at_builtin; refine stopAt ?_; intro q hq)
  exact HG.out
end Go.Proofs.Yteemekckiafnfaa
/- The program's log: lists of bytes in memory, whose ever they are; a contract for full. Conditions: as the contracts name them. -/
namespace Go.Proofs.Yteemekckiafnfaa
open Go.RowKit
open DM BM WM

/-- A slice of slices of bytes, as it is read. -/
def Lists (w : World) (ao : Option Addr) (L : List (List UInt8)) : Prop :=
  ∀ j (hj : j < L.length), ∃ ad ao' c', ao = some ad ∧ w.cell? (ad.add j) = some (.slice ao' L[j].length c') ∧ L[j].length ≤ c' ∧ Cells w ao' L[j].length 1 (bytesV L[j])

theorem Lists.keep {w w' : World} {ao : Option Addr} {L : List (List UInt8)} (h : Lists w ao L) (hk : Keep (fun _ => False) w w') : Lists w' ao L := fun j hj => by
  obtain ⟨ad, ao', c', h1, h2, h3, h4⟩ := h j hj
  refine ⟨ad, ao', c', h1, ?_, h3, h4.keep hk fun _ _ x => x⟩
  rw [World.cell?_of_block (hk.block _ (World.block_lt_of_cell? w _ h2) id)]
  exact h2

theorem Recs.lists {w : World} {F A : Nat → Prop} {ad : Option Addr} {n c : Nat} {L : List (List UInt8)} {vs : List Value} (h : Recs w F A (.slice ad n c) L vs) : Lists w ad L := fun j hj => by
  obtain ⟨g, ad2, c2, rfl, hc, hrow, hc2⟩ := h.one j hj
  exact ⟨_, ad2, c2, rfl, by rw [addr_add, Nat.zero_add]; exact hc, hc2, Cells.of_row hrow⟩

set_option maxRecDepth 20000 in
set_option maxHeartbeats 400000 in
theorem full_any (w : World) (b : Value) (ao : Option Addr) (c : Nat) (L : List (List UInt8)) (h : Lists w ao L) (hn : L.length ≤ 1000000000) :
    Calls Try.prog 51 #[b, .slice ao L.length c] w fun e w' => e = .returned (.int .i64 (if L.any (fun x => decide (1024 < x.length)) then 3 else 5)) ∧ w' = w := by
  obtain ⟨n, hnl⟩ : ∃ n, n = L.length := ⟨_, rfl⟩
  obtain ⟨R, hR⟩ : ∃ R : Int, R = if L.any (fun x => decide (1024 < x.length)) then 3 else 5 := ⟨_, rfl⟩
  rw [← hR]
  have HRR := hid hR
  clear hR
  have H := hid h
  have HN := hid hnl
  rw [← hnl] at hn ⊢
  clear h hnl
  have H0 := hid (show ∀ x ∈ L.take 0, ¬ 1024 < x.length by simp)
  go_enter Try.func51, Try.ntmps51
  go_wp2_with (at_builtin; refine stopAt ?_; intro q hq)
  go_loopw [6, 9] (fun _ iv wr => ∃ i : Nat, i ≤ n ∧ iv = .int .i64 i ∧ wr = w ∧ Hid (∀ x ∈ L.take i, ¬ 1024 < x.length)) (fun _ iv _ => n - (intOf iv).toNat)
  case atStart => exact ⟨0, Nat.zero_le _, rfl, rfl, H0⟩
  case round =>
    clear H0
    obtain ⟨i, hi, rfl, rfl, HI⟩ := hrel
    by_cases hin : i < n
    · have hil : i < L.length := by have := HN.out; omega
      obtain ⟨ad, ao', c', rfl, hc, hc2, -⟩ := H.out i hil
      obtain ⟨x, hx⟩ : ∃ x, x = L[i] := ⟨_, rfl⟩
      rw [← hx] at hc hc2
      obtain ⟨m, hm⟩ : ∃ m, m = x.length := ⟨_, rfl⟩
      rw [← hm] at hc
      have q1 : (i : Int) < (n : Int) := by omega
      by_cases hb : 1024 < m
      · have hr : L.any (fun x => decide (1024 < x.length)) = true := by
          rw [List.any_eq_true]
          exact ⟨x, by rw [hx]; exact List.getElem_mem hil, by simp; omega⟩
        have HR := hid hr
        have q2 : (1024 : Int) < (m : Int) := by omega
        clear hr hx hm
        go_wp2_with (at_builtin; refine stopAt ?_; intro q hq)
        go_ret
        rw [HRR.out, HR.out]
        exact ⟨rfl, rfl⟩
      · have HZ := hid (show ∀ y ∈ L.take (i + 1), ¬ 1024 < y.length by
          intro y hy
          rw [List.take_succ_eq_append_getElem hil] at hy
          rcases List.mem_append.1 hy with hy | hy
          · exact HI.out y hy
          · simp at hy; subst hy; rw [← hx]; omega)
        have q2 : ¬ (1024 : Int) < (m : Int) := by omega
        have q3 : decide ((1024 : Int) < (m : Int)) = false := decide_eq_false q2
        clear hx hm
        go_wp2_with (at_builtin; refine stopAt ?_; intro q hq)
        go_roundw
        case rel => exact ⟨i + 1, by omega, by go_num, trivial, HZ⟩
        case measure => simp [intOf]; omega
    · obtain rfl : i = n := by omega
      have hr : L.any (fun x => decide (1024 < x.length)) = false := by
        rw [List.any_eq_false]
        intro x hx
        have := HI.out x (by rw [HN.out, List.take_length]; exact hx)
        simpa using this
      have HR := hid hr
      clear hr
      have q1 : ¬ ((i : Int) < (i : Int)) := by omega
      go_wp2_with (at_builtin; refine stopAt ?_; intro q hq)
      go_ret
      rw [HRR.out, HR.out]
      exact ⟨rfl, rfl⟩
end Go.Proofs.Yteemekckiafnfaa
/- The program's log: a contract for Reset. Conditions: as the contract names them. -/
namespace Go.Proofs.Yteemekckiafnfaa
open Go.RowKit
open DM BM WM

theorem flat_take_le (L : List (List UInt8)) (i : Nat) : (flat (L.take i)).length ≤ (flat L).length := by
  have h : flat L = flat (L.take i) ++ flat (L.drop i) := by rw [← flat_append, List.take_append_drop]
  rw [h, List.length_append]; omega

theorem Recs.bound {w : World} {F A : Nat → Prop} {v : Value} {L : List (List UInt8)} {vs : List Value} (h : Recs w F A v L vs) : Recs w (fun k => F k ∧ k < w.heap.size) A v L vs :=
  ⟨h.row, fun k e => ⟨⟨(h.own k e).1, h.row.lt e⟩, (h.own k e).2⟩, fun j hj => let ⟨u, h1, h2, h3⟩ := h.each j hj; ⟨u, h1, h2, fun k e => ⟨⟨(h3 k e).1, h2.lt e⟩, (h3 k e).2⟩⟩⟩

theorem wp_append_fresh2 {w0 w : World} {a : Act} {K : Act → World → Prop} {Q : Exit → Act → World → Prop} {o : Oper} {l r : List UInt8} (s x : Operand)
    (ho : o.op = .call { callee := .builtin .append, args := #[s, x], argTypes := #[36, 36] })
    {v : Value} (hs : a.eval s = v) (hf : Fresh w0 v l w) (ao : Option Addr) (m c : Nat) (hx : a.eval x = .slice ao m c) (hsrc : Cells w ao m 1 (bytesV r)) (hb : l.length + m ≤ 140737488355328)
    (h : ∀ v' w', Fresh w0 v' (l ++ r) w' → Keep (fun k => v.ownBlock = some k) w w' → (∀ k, v'.ownBlock = some k → v.ownBlock = some k ∨ w.heap.size ≤ k) → K (a.put o.dst v') w') : o.wp Try.prog a w K Q := by
  have hm : r.length = m := by have := hsrc.1; rw [bytesV_length] at this; omega
  refine wp_append ty_bytes s x ho hs hf.row ao m c (bytesV r) hx hsrc (bytesV_one _) (by unfold maxLen; omega) (by omega) ?_
  intro v2 w2 hr2 hk2 hv2
  have hown : ∀ k, v2.ownBlock = some k → v.ownBlock = some k ∨ w.heap.size ≤ k := by
    intro k hk
    rcases hv2 with ⟨h0, _⟩ | ⟨k', h1, h2⟩
    · rw [h0] at hk; exact .inl hk
    · rw [hk] at h1; cases h1
      exact h2.imp id fun e => by omega
  refine h v2 w2 ⟨?_, ?_, ?_⟩ hk2 hown
  · rw [bytesV_append, List.length_append, hm]; exact hr2
  · exact hf.keep.next hk2 (fun i hi x => x) (fun i hi x => by have := hf.own i x; omega)
  · intro k hk
    rcases hown k hk with h2 | h2
    · exact hf.own k h2
    · have := hf.keep.size; omega

theorem turnW_len (ep : Nat) (b : List UInt8) (D : Dk) : (turnW ep b D).2.safe.length = D.safe.length := by
  unfold turnW
  simp only
  split
  · exact lay_len _ _ _ _ _
  · split
    · rw [sync_len, lay_len]
    · split
      · rw [write_len, sync_len, lay_len]
      · rw [sync_len, write_len, sync_len, lay_len]

/-- Another head, the rows as they were; elsewhere something may have changed. -/
theorem WalIs.head2 {w w' : World} {b d : Nat} {F K : Nat → Prop} {h : Nat} {G G' : Lg} {ga ca : Nat} {vl : Value} {vs : List Value} (H : WalIs w b d F h G ga ca vl vs) (hk : Keep K w w') (hK : ∀ k, F k → K k → k = b) (hl : G'.l = G.l)
    (hh : w'.heap[b]? = some (.cells (walCells d G'.ep h (.slice (some ⟨ga, 0, none⟩) (32 * h) ca) vl G'.safe (flat G'.l).length G'.dead) 75 (0, 0))) (ok : LgOk h G') : WalIs w' b d F h G' ga ca vl vs :=
  ⟨hh, by rw [hl]; exact H.area.keep hk fun k e => by simp [Value.ownBlock] at e; subst e; exact fun x => H.ne (hK _ H.garea x).symm, by rw [hl]; exact H.recs.keep hk fun k f e x => e (.inl (hK k f x)), H.self, H.garea, H.ne, fun k x => Nat.lt_of_lt_of_le (H.lt k x) hk.size, ok⟩

/-- What Reset has behind i of the records: their frames, and the new log so far. -/
structure RstRel (w0 : World) (nb d ep h : Nat) (va : Value) (sf en : Nat) (dead : Bool) (L : List (List UInt8)) (i : Nat) (bv : Value) (wr : World) : Prop where
  keep : Keep (fun _ => False) w0 wr
  bytes : Fresh w0 bv (flat (L.take i)) wr
  off : ∀ k, bv.ownBlock = some k → k ≠ nb
  new : ∃ vl vs, wr.heap[nb]? = some (.cells (walCells d ep h va vl sf en dead) 75 (0, 0)) ∧ Recs wr (fun k => w0.heap.size ≤ k) (fun k => k = nb ∨ bv.ownBlock = some k) vl (L.take i) vs
  small : ∀ x ∈ L.take i, x.length ≤ 1024
  fit : (flat (L.take i)).length ≤ 32 * h

set_option maxRecDepth 20000 in
set_option maxHeartbeats 2000000 in
theorem wreset_any (w : World) (b d : Nat) (F Fd : Nat → Prop) (D : Dk) (G : Lg) (H : LogAt w b d F Fd D G) (ao : Option Addr) (c : Nat) (L : List (List UInt8)) (hL : Lists w ao L) (hn : L.length ≤ 1000000000) (hfew : D.waits.length ≤ 700000) :
    Calls Try.prog 23 #[.pointer (some ⟨b, 0, none⟩), .slice ao L.length c] w fun e w' =>
      e = .returned (.int .i64 (WM.reset D G L).1) ∧ LogTo b d F Fd w (WM.reset D G L).2.1 (WM.reset D G L).2.2 w' := by
  by_cases hg : gone D G = true
  · have hr : WM.reset D G L = (6, D, WM.mark D G) := by unfold WM.reset; rw [if_pos hg]
    have HR := hid hr
    clear hr
    go_enter Try.func23, Try.ntmps23
    go_wp2_with (at_builtin; refine stopAt ?_; intro q hq)
    refine (ready_gone _ b d F Fd D G H hg).mono ?_
    rintro e w2 ⟨rfl, ht⟩
    have HT := hid ht
    clear ht
    go_wp2_with (at_builtin; refine stopAt ?_; intro q hq)
    go_ret
    rw [HR.out]
    exact ⟨rfl, HT.out⟩
  have hg : gone D G = false := by simpa using hg
  have HH := hid H
  obtain ⟨ga, ca, vl, vs, HL⟩ := H
  have hh := HL.wal.head
  have hfew1 := HL.wal.ok.few
  have hep := HL.wal.ok.ep
  obtain ⟨adl, cl, rfl, -⟩ := HL.wal.recs.row.form
  have hgd : G.dead = false := by unfold gone at hg; simp only [Bool.or_eq_false_iff] at hg; exact hg.1
  obtain ⟨n, hnl⟩ : ∃ n, n = L.length := ⟨_, rfl⟩
  have HLs := hid hL
  have HN := hid hnl
  rw [← hnl] at hn ⊢
  obtain ⟨ep1, hep1⟩ : ∃ e, e = G.ep + 1 := ⟨_, rfl⟩
  have q1 : (G.ep : Int) + 1 = (ep1 : Int) := by omega
  have q2 := wu64 ep1 (by omega)
  obtain ⟨en, hen⟩ : ∃ en, en = (flat G.l).length := ⟨_, rfl⟩
  obtain ⟨nn, hnn⟩ : ∃ nn, nn = 32 * half D := ⟨_, rfl⟩
  unfold walCells at hh
  rw [← hen, ← hnn, hgd] at hh
  obtain ⟨h0, h1, h2, h3, h4, h5, h6, h7, hf, hb⟩ := cells8 hh
  have HE := hid (And.intro hep1 (And.intro hen (And.intro hnn hgd)))
  have Hh := hid hh
  have HL := hid HL
  clear hh hL hnl hep1 hen hnn hgd
  go_enter Try.func23, Try.ntmps23
  go_wp2_with (at_builtin; refine stopAt ?_; intro q hq)
  refine (ready_up w b d F Fd D G HH.out hg).mono ?_
  rintro e w ⟨rfl, rfl⟩
  go_wp2_with (first | (at_builtin; refine stopAt ?_; intro q hq) | (refine stopOp (.store 75 _ _) rfl ?_; intro q hq))
  (refine hq.out ?_; clear hq q)
  refine wpList_plain rfl (fun K hK => ?_)
  refine wp_store_row 75 (.tmp 7) (.tmp 19) rfl w.heap.size rfl [.pointer (some ⟨d, 0, none⟩), .int .u64 (G.ep : Nat), .int .i64 (half D : Nat), .slice (some ⟨ga, 0, none⟩) nn ca, .slice adl G.l.length cl, .int .i64 (G.safe : Nat), .int .i64 (en : Nat), .bool false] rfl 75 _ (0, 0) (heap_alloc_new w _) (Free.zero _) rfl (by
    intro u hu
    simp at hu
    rcases hu with rfl | rfl | rfl | rfl | rfl | rfl | rfl | rfl <;> rfl) (by kernel_rfl) ?_
  refine hK _ _ ?_
  clear hK K
  obtain ⟨nb, hnb⟩ : ∃ nb, nb = w.heap.size := ⟨_, rfl⟩
  have hh2 := setRow_heap _ w.heap.size _ ([.pointer (some ⟨d, 0, none⟩), .int .u64 (G.ep : Nat), .int .i64 (half D : Nat), .slice (some ⟨ga, 0, none⟩) nn ca, .slice adl G.l.length cl, .int .i64 (G.safe : Nat), .int .i64 (en : Nat), .bool false] : List Value).toArray _ _ (heap_alloc_new w (.cells #[.pointer none, .int .u64 0, .int .i64 0, .slice none 0 0, .slice none 0 0, .int .i64 0, .int .i64 0, .bool false] 75))
  have hk2 : Keep (fun _ => False) w ((w.alloc (.cells #[.pointer none, .int .u64 0, .int .i64 0, .slice none 0 0, .slice none 0 0, .int .i64 0, .int .i64 0, .bool false] 75)).setRow w.heap.size ([.pointer (some ⟨d, 0, none⟩), .int .u64 (G.ep : Nat), .int .i64 (half D : Nat), .slice (some ⟨ga, 0, none⟩) nn ca, .slice adl G.l.length cl, .int .i64 (G.safe : Nat), .int .i64 (en : Nat), .bool false] : List Value).toArray) :=
    ((Keep.refl _ _).alloc _).setRow (.inr (Nat.le_refl _)) _
  obtain ⟨w2, hw2⟩ : ∃ w2, w2 = ((w.alloc (.cells #[.pointer none, .int .u64 0, .int .i64 0, .slice none 0 0, .slice none 0 0, .int .i64 0, .int .i64 0, .bool false] 75)).setRow w.heap.size ([.pointer (some ⟨d, 0, none⟩), .int .u64 (G.ep : Nat), .int .i64 (half D : Nat), .slice (some ⟨ga, 0, none⟩) nn ca, .slice adl G.l.length cl, .int .i64 (G.safe : Nat), .int .i64 (en : Nat), .bool false] : List Value).toArray) := ⟨_, rfl⟩
  rw [← hw2] at hh2 hk2 ⊢
  rw [← hnb] at hh2 ⊢
  clear hw2
  obtain ⟨i0, i1, i2, i3, i4, i5, i6, i7, if1, ib1⟩ := cells8 (show w2.heap[nb]? = some (.cells #[_, _, _, _, _, _, _, _] _ (0, 0)) from hh2)
  have hbn : b ≠ nb := by omega
  have hb2 := hk2.get Hh.out id
  clear h0 h1 h2 h3 h4 h5 h6 h7 hf hb
  obtain ⟨h0, h1, h2, h3, h4, h5, h6, h7, hf, hb⟩ := cells8 hb2
  have H2 := hid (And.intro hh2 (And.intro hk2 hnb))
  clear hh2 hk2 hb2 hnb
  go_wp2_with (at_builtin; refine stopAt ?_; intro q hq)
  have hk3 : Keep (fun _ => False) w (((w2.setCell ⟨nb, 1, none⟩ (.int .u64 (ep1 : Nat))).setCell ⟨nb, 4, none⟩ (.slice none 0 0)).setCell ⟨nb, 5, none⟩ (.int .i64 (n : Nat))) := by
    have e := H2.out.2.2
    exact (((H2.out.2.1).setCell (.inr (by show _ ≤ nb; omega)) _).setCell (.inr (by show _ ≤ nb; omega)) _).setCell (.inr (by show _ ≤ nb; omega)) _
  have hh3 := heap_setCell6 (heap_setCell6 (heap_setCell6 H2.out.1 1 (.int .u64 (ep1 : Nat))) 4 (.slice none 0 0)) 5 (.int .i64 (n : Nat))
  obtain ⟨w3, hw3⟩ : ∃ w3, w3 = (((w2.setCell ⟨nb, 1, none⟩ (.int .u64 (ep1 : Nat))).setCell ⟨nb, 4, none⟩ (.slice none 0 0)).setCell ⟨nb, 5, none⟩ (.int .i64 (n : Nat))) := ⟨_, rfl⟩
  rw [← hw3] at hk3 hh3 ⊢
  clear hw3 i0 i1 i2 i3 i4 i5 i6 i7 if1 ib1 h0 h1 h2 h3 h4 h5 h6 h7 hf hb
  have H0 := hid (show RstRel w nb d ep1 (half D) (.slice (some ⟨ga, 0, none⟩) nn ca) n en false L 0 (.slice none 0 0) w3 from
    ⟨hk3, (Fresh.nil w3).since hk3, fun k e => by simp [Value.ownBlock] at e, ⟨.slice none 0 0, [], hh3, Recs.nil _ _ _⟩, by simp, by simp [flat]⟩)
  clear hk3 hh3
  go_loopw [6, 9, 10, 11, 32] (fun s6 _ _ _ iv wr => ∃ (i : Nat) (bv : Value), i ≤ n ∧ iv = .int .i64 i ∧ bv = s6 ∧ Hid (RstRel w nb d ep1 (half D) (.slice (some ⟨ga, 0, none⟩) nn ca) n en false L i bv wr)) (fun _ _ _ _ iv _ => n - (intOf iv).toNat)
  case atStart => exact ⟨0, _, Nat.zero_le _, rfl, rfl, H0⟩
  case round =>
    clear H0
    obtain ⟨i, bv, hi, rfl, rfl, HI⟩ := hrel
    by_cases hin : i < n
    · have hil : i < L.length := by have := HN.out; omega
      obtain ⟨ad, ao', c', rfl, hc, hc2, hcs⟩ := HLs.out i hil
      rw [← World.cell?_of_block (HI.out.keep.block _ (World.block_lt_of_cell? w _ hc) id)] at hc
      obtain ⟨x, hx⟩ : ∃ x, x = L[i] := ⟨_, rfl⟩
      rw [← hx] at hc hc2 hcs
      have hxm : x ∈ L := by rw [hx]; exact List.getElem_mem hil
      have htk : L.take (i + 1) = L.take i ++ [x] := by rw [List.take_succ_eq_append_getElem hil, hx]
      obtain ⟨m, hm⟩ : ∃ m, m = x.length := ⟨_, rfl⟩
      rw [← hm] at hc hc2 hcs
      have q3 : (i : Int) < (n : Int) := by omega
      have HX := hid (And.intro hcs (And.intro hm (And.intro hxm (And.intro htk hc2))))
      clear hcs hx hm hxm htk hc2
      by_cases hlong : 1024 < m
      · have hr : WM.reset D G L = (3, D, G) := by
          unfold WM.reset
          rw [hg]
          have : L.any (fun b => decide (1024 < b.length)) = true := by
            rw [List.any_eq_true]
            exact ⟨x, HX.out.2.2.1, by have := HX.out.2.1; simp; omega⟩
          simp [this]
        have HR := hid hr
        clear hr
        go_wp2_with (at_builtin; refine stopAt ?_; intro q hq)
        refine (put_long wr 2 ao' m c' hlong).mono ?_
        rintro e w4 ⟨rfl, rfl⟩
        go_wp2_with (at_builtin; refine stopAt ?_; intro q hq)
        go_ret
        rw [HR.out]
        exact ⟨rfl, HH.out.toLater HI.out.keep⟩
      · go_wp2_with (at_builtin; refine stopAt ?_; intro q hq)
        refine (put_any wr 2 ao' m c' x (HX.out.1.keep HI.out.keep fun _ _ h => h) (by omega)).mono ?_
        rintro e w4 ⟨v4, rfl, hf4⟩
        have hfl4 : (frame 2 x).length = m + 10 := by rw [frame_length, HX.out.2.1]
        obtain ⟨ad4, c4, hv4, -⟩ := hf4.row.form
        rw [hfl4] at hv4
        subst hv4
        have HF4 := hid hf4
        have HFL := hid hfl4
        clear hf4 hfl4
        go_wp2_with (at_builtin; refine stopAt ?_; intro q hq)
        (refine hq.out ?_; clear hq q)
        refine wpList_plain rfl (fun K hK => ?_)
        refine wp_append_fresh2 (r := frame 2 x) _ _ rfl rfl (HI.out.bytes.later HF4.out.keep) ad4 (m + 10) c4 rfl (by have h := Cells.of_row (show Row w4 _ 1 (.slice ad4 (m + 10) c4) (m + 10) _ from HFL.out ▸ HF4.out.row); exact h) (by have := HI.out.fit; omega) ?_
        intro v5 w5 hf5 hk5 hv5own'
        have hv5own : ∀ k, v5.ownBlock = some k → bv.ownBlock = some k ∨ wr.heap.size ≤ k := fun k e => (hv5own' k e).imp id fun h => Nat.le_trans HF4.out.keep.size h
        clear hv5own'
        have e5 : flat (L.take i) ++ frame 2 x = flat (L.take (i + 1)) := by rw [HX.out.2.2.2.1, flat_append]; simp [flat]
        rw [e5] at hf5
        obtain ⟨fl, hfl⟩ : ∃ fl, fl = (flat (L.take (i + 1))).length := ⟨_, rfl⟩
        obtain ⟨ad5, c5, hv5, -⟩ := hf5.row.form
        rw [← hfl] at hv5
        subst hv5
        refine hK _ _ ?_
        clear hK K
        have hk05 : Keep (fun _ => False) w w5 := hf5.keep
        have hb5 := hk05.get Hh.out id
        obtain ⟨h0, h1, h2, h3, h4, h5, h6, h7, hf, hb⟩ := cells8 hb5
        have hfl5 : fl ≤ 50000 := by rw [hfl, HX.out.2.2.2.1, flat_snoc]; have := HI.out.fit; have := HX.out.2.1; omega
        have H5 := hid (And.intro hf5 (And.intro hk5 (And.intro hk05 hfl)))
        clear hf5 hk5 hk05 hb5 hfl e5 h0 h1 h2 h4 h5 h6 h7
        by_cases hov : nn < fl
        · have q4 : (nn : Int) < (fl : Int) := by omega
          have hr : WM.reset D G L = ((if L.any (fun x => decide (1024 < x.length)) then 3 else 5), D, G) := by
            unfold WM.reset
            rw [hg]
            have h1 := flat_take_le L (i + 1)
            have h2 := H5.out.2.2.2
            have h3 := HE.out.2.2.1
            by_cases h4 : L.any (fun x => decide (1024 < x.length)) = true
            · simp [h4]
            · have h5 : 32 * half D < (flat L).length ∨ G.ep + 1 = 4611686018427387904 := .inl (by omega)
              rw [if_neg (by simp), if_neg h4, if_pos h5, if_neg h4]
          have hfull := full_any w5 (.pointer (some ⟨b, 0, none⟩)) (some ad) c L (HLs.out.keep H5.out.2.2.1) (by have := HN.out; omega)
          obtain ⟨R, hR⟩ : ∃ R : Int, R = if L.any (fun x => decide (1024 < x.length)) then 3 else 5 := ⟨_, rfl⟩
          rw [← hR] at hr hfull
          rw [← HN.out] at hfull
          have HR := hid hr
          clear hr hR
          go_wp2_with (at_builtin; refine stopAt ?_; intro q hq)
          refine hfull.mono ?_
          rintro e w6 ⟨rfl, rfl⟩
          go_wp2_with (at_builtin; refine stopAt ?_; intro q hq)
          go_ret
          rw [HR.out]
          exact ⟨rfl, HH.out.toLater H5.out.2.2.1⟩
        · have q4 : ¬ (nn : Int) < (fl : Int) := by omega
          have q5 : decide ((nn : Int) < (fl : Int)) = false := decide_eq_false q4
          have q6 : decide (nn < fl) = false := decide_eq_false hov
          obtain ⟨vli, vsi, hnew, hrecs⟩ := HI.out.new
          obtain ⟨adi, ci, rfl, -⟩ := hrecs.row.form
          have hl1 : (L.take i).length = i := by rw [List.length_take]; omega
          have hk45 : Keep (fun k => bv.ownBlock = some k) wr w5 := HF4.out.keep.next H5.out.2.1 (fun _ _ x => x.elim) (fun _ _ x => x)
          have hnew5 := hk45.get hnew (fun e => HI.out.off _ e rfl)
          have hrecs5 := hrecs.bound.keep hk45 (fun k _ h1 h2 => h1 (.inr h2))
          rw [hl1] at hnew5
          have hs05 := HI.out.keep.size
          have hs45 := hk45.size
          have hnbl := heap_lt hnew
          have hnb0 := H2.out.2.2
          have hnv5 : ∀ k, (Value.slice ad5 fl c5).ownBlock = some k → w.heap.size ≤ k := H5.out.1.own
          have hv5n : ∀ k, (Value.slice ad5 fl c5).ownBlock = some k → bv.ownBlock = some k ∨ wr.heap.size ≤ k := hv5own
          obtain ⟨i0, i1, i2, i3, i4, i5, i6, i7, if1, ib1⟩ := cells8 (show w5.heap[nb]? = some (.cells #[_, _, _, _, _, _, _, _] _ (0, 0)) from hnew5)
          have HM := hid (And.intro hnew5 (And.intro hrecs5 (And.intro hl1 (And.intro hs05 (And.intro hs45 (And.intro hnbl (And.intro hnb0 (And.intro hnv5 hv5n))))))))
          clear hnew hrecs hk45 hnew5 hrecs5 hl1 hs05 hs45 hnbl hnb0 hnv5 hv5n
          go_wp2_with (at_builtin; refine stopAt ?_; intro q hq)
          refine wp_region_canon [62] (by kernel_rfl) (by kernel_rfl) ?_
          repeat (first | (apply wpC_pure (by rfl); (intro K w'; go_simp; exact id)) | (apply wpC_load (by rfl); (intro K; go_simp; exact id)))
          (refine wpC_new (by rfl) (by rfl) (fun K hK => ?_); go_simp; refine hK _ _ (Pre.push _ rfl) ?_; clear hK K)
          have hf6 : Fresh w5 (.slice (some ⟨w5.heap.size, 0, none⟩) 0 0) [] (w5.alloc (.cells #[] 5)).drew := FreshU.later (fresh_build rfl rfl rfl (by unfold maxLen; decide)) (Keep.refl _ _).drew
          obtain ⟨w6, hw6⟩ : ∃ w6, w6 = (w5.alloc (.cells #[] 5)).drew := ⟨_, rfl⟩
          rw [← hw6] at hf6 ⊢
          clear hw6
          have HF6 := hid hf6
          clear hf6 i0 i1 i2 i3 i4 i5 i6 i7 if1
          repeat (first | (apply wpC_pure (by rfl); (intro K w'; go_simp; exact id)) | (apply wpC_load (by rfl); (intro K; go_simp; exact id)))
          refine wpC_new (by rfl) (by rfl) (fun K hK => ?_)
          refine wp_append_new (r := x) _ _ rfl rfl HF6.out ao' m c' rfl ((HX.out.1.keep H5.out.2.2.1 fun _ _ x => x).keep HF6.out.keep fun _ _ x => x) (by omega) ?_
          intro v7 w7 hf7 hk7
          obtain ⟨ad7, c7, hv7, -⟩ := hf7.row.form
          rw [← HX.out.2.1] at hv7
          subst hv7
          refine hK _ _ (Pre.of_keep hk7) ?_
          clear hK K
          have HF7 := hid hf7
          clear hf7 hk7
          go_simp
          (refine wpC_new (by rfl) (by rfl) (fun K hK => ?_); go_simp; refine hK _ _ (Pre.push _ rfl) ?_; clear hK K)
          obtain ⟨w8, hw8⟩ : ∃ w8, w8 = w7.alloc (.cells #[.slice ad7 m c7] 36) := ⟨_, rfl⟩
          have hnew8 : w8.heap[w7.heap.size]? = some (.cells #[.slice ad7 m c7] 36) := by rw [hw8]; exact heap_alloc_new w7 _
          have hk78 : Keep (fun _ => False) w7 w8 := by rw [hw8]; exact (Keep.refl _ _).alloc _
          rw [← hw8]
          clear hw8
          have hk58 : Keep (fun _ => False) w5 w8 := HF7.out.keep.next hk78 (fun _ _ x => x) (fun _ _ x => x)
          have H8 := hid (And.intro hnew8 (And.intro hk78 hk58))
          clear hnew8 hk78 hk58
          refine wpC_act (by rfl) (by rfl) (fun K hK => ?_)
          have hr8 := HM.out.2.1.keep H8.out.2.2 (fun _ _ _ x => x)
          have hrow8 := hr8.row
          rw [HM.out.2.2.1] at hrow8
          refine wp_append ty_recs _ _ rfl rfl hrow8 (some ⟨w7.heap.size, 0, none⟩) 1 1 [.slice ad7 m c7] rfl
            ⟨rfl, fun _ => ⟨_, rfl, fun j u hu => by rw [addr_add, Nat.zero_add, cell_of_row _ _ _ _ _ _ H8.out.1]; simpa using hu⟩⟩ (by intro u hu; simp at hu; subst hu; rfl) (by unfold maxLen; omega) (by omega) ?_
          intro v9 w9 hr9 hk9 hv9
          obtain ⟨ad9, c9, rfl, -⟩ := hr9.form
          refine hK _ _ ?_
          clear hK K
          have hnbv : (Value.slice adi (List.take i L).length ci).ownBlock ≠ some nb := fun e => (HM.out.2.1.own nb e).2 (.inl rfl)
          have hh9 := hk9.get (H8.out.2.2.get HM.out.1 id) (fun e => hnbv (by rw [← e]; exact ownBlock_len _ _ _ _))
          obtain ⟨i0, i1, i2, i3, i4, i5, i6, i7, if1, ib1⟩ := cells8 (show w9.heap[nb]? = some (.cells #[_, _, _, _, _, _, _, _] _ (0, 0)) from hh9)
          have H9 := hid (And.intro hr9 (And.intro hk9 (And.intro hv9 hh9)))
          clear hr9 hk9 hv9 hh9 hr8 hrow8 hnbv
          repeat (apply wpC_pure (by rfl); (intro K w'; go_simp; exact id))
          (refine wpC_act (by rfl) (by rfl) (fun K hK => ?_); go_simp; refine hK _ _ ?_; clear hK K)
          refine wpC_nil ?_
          have hk10 : Keep (fun k => k = nb) w9 (w9.setCell ⟨nb, 4, none⟩ (.slice ad9 (i + 1) c9)) := by refine Keep.setCell (Keep.refl _ _) (.inl ?_) _; rfl
          have hh10 := heap_setCell6 H9.out.2.2.2 4 (.slice ad9 (i + 1) c9)
          obtain ⟨w10, hw10⟩ : ∃ w10, w10 = w9.setCell ⟨nb, 4, none⟩ (.slice ad9 (i + 1) c9) := ⟨_, rfl⟩
          rw [← hw10] at hk10 hh10 ⊢
          clear hw10 i0 i1 i2 i3 i4 i5 i6 i7 if1
          have HZ := hid (show RstRel w nb d ep1 (half D) (.slice (some ⟨ga, 0, none⟩) nn ca) n en false L (i + 1) (.slice ad5 fl c5) w10 by
            obtain ⟨m1, m2, m3, m4, m5, m6, m7, m8, m9⟩ := HM.out
            obtain ⟨n1, n2, n3, n4⟩ := H9.out
            obtain ⟨o1, o2, o3⟩ := H8.out
            have s58 := o3.size
            have s89 := n2.size
            have s910 := hk10.size
            have s78 := o2.size
            have hvl : ∀ k, (Value.slice adi (List.take i L).length ci).ownBlock = some k → w.heap.size ≤ k ∧ k < wr.heap.size ∧ ¬ (k = nb ∨ bv.ownBlock = some k) := fun k e => ⟨(m2.own k e).1.1, (m2.own k e).1.2, (m2.own k e).2⟩
            have hcase : ∀ k, (Value.slice adi i ci).ownBlock = some k → (Value.slice adi (List.take i L).length ci).ownBlock = some k := fun k e => by rw [← e]; exact ownBlock_len _ _ _ _
            have hA' : ∀ k, (w.heap.size ≤ k ∧ k < wr.heap.size) → ¬ (k = nb ∨ bv.ownBlock = some k) → w.heap.size ≤ k ∧ ¬ (k = nb ∨ (Value.slice ad5 fl c5).ownBlock = some k) := fun k h1 h2 => by
              refine ⟨h1.1, ?_⟩
              rintro (h3 | h3)
              · exact h2 (.inl h3)
              · rcases m9 k h3 with h4 | h4
                · exact h2 (.inr h4)
                · omega
            have v5l : ∀ k, (Value.slice ad5 fl c5).ownBlock = some k → k < w5.heap.size := fun k e => H5.out.1.row.lt e
            have hk510 : Keep (fun k => (Value.slice adi (List.take i L).length ci).ownBlock = some k ∨ k = nb) w5 w10 :=
              (o3.next n2 (H := fun k => (Value.slice adi (List.take i L).length ci).ownBlock = some k) (fun _ _ x => x.elim) (fun _ _ x => hcase _ x)).next hk10 (fun _ _ x => .inl x) (fun _ _ x => .inr x)
            refine ⟨?_, ⟨?_, ?_, m8⟩, ?_, ⟨.slice ad9 (i + 1) c9, vsi ++ [.slice ad7 m c7], ?_, ?_⟩, ?_, ?_⟩
            · refine H5.out.2.2.1.next hk510 (fun _ _ x => x) fun k hk x => ?_
              rcases x with x | x
              · have := (hvl k x).1; omega
              · omega
            · refine H5.out.1.row.keep hk510 fun k e x => ?_
              rcases x with x | x
              · obtain ⟨h1, h2, h3⟩ := hvl k x
                rcases m9 k e with h4 | h4
                · exact h3 (.inr h4)
                · omega
              · rcases m9 k e with h4 | h4
                · exact HI.out.off k h4 x
                · omega
            · refine H5.out.2.2.1.next hk510 (fun _ _ x => x) fun k hk x => ?_
              rcases x with x | x
              · have := (hvl k x).1; omega
              · omega
            · intro k e x
              rcases m9 k e with h4 | h4
              · exact HI.out.off k h4 x
              · omega
            · rw [hh10]; rfl
            · rw [HX.out.2.2.2.1]
              have h1 := (m2.keep o3 (fun _ _ _ x => x)).mono hA'
              refine (h1.push (HF7.out.row.keep o2 fun _ _ x => x) (F' := fun k => w.heap.size ≤ k) (fun k e => ?_) ?_ (n2.mono fun k _ x => hcase k x) (fun k x => x) (fun k e => ?_)).keep hk10 (fun k _ h2 h3 => h2 (.inl h3))
              · have h2 := HF7.out.own k e
                refine ⟨by omega, ?_, fun e' => ?_⟩
                · rintro (h3 | h3)
                  · omega
                  · have := v5l k h3; omega
                · have := (hvl k e').2.1; omega
              · rw [m3]; exact n1
              · rcases n3 with ⟨_, h0⟩ | ⟨k', h2, h3⟩
                · omega
                · rw [e] at h2; cases h2
                  rcases h3 with h3 | h3
                  · exact .inl (hcase k h3)
                  · refine .inr ⟨by omega, by omega, ?_⟩
                    rintro (h4 | h4)
                    · omega
                    · have := v5l k h4; omega
            · intro y hy
              rw [HX.out.2.2.2.1] at hy
              rcases List.mem_append.1 hy with hy | hy
              · exact HI.out.small y hy
              · simp at hy; subst hy; have := HX.out.2.1; omega
            · have h1 := H5.out.2.2.2
              have h2 := HE.out.2.2.1
              omega)
          clear hk10 hh10
          go_wp2_with (at_builtin; refine stopAt ?_; intro q hq)
          go_roundw
          case rel => exact ⟨i + 1, _, by omega, by go_num, rfl, HZ⟩
          case measure => simp [intOf]; omega
    · obtain rfl : n = i := by omega
      have hlt : ¬ (n : Int) < (n : Int) := by omega
      have HR0 := HI.out
      have htl : L.take n = L := by rw [HN.out, List.take_length]
      obtain ⟨vl2, vs2, hnew, hrecs⟩ := HR0.new
      have hbytes := HR0.bytes
      have hsmall := HR0.small
      have hfit := HR0.fit
      rw [htl] at hrecs hbytes hsmall hfit
      have hkeep := HR0.keep
      have hoff := HR0.off
      clear HR0 HI
      have hany : L.any (fun b => decide (1024 < b.length)) = false := by
        rw [List.any_eq_false]
        intro x hx
        have := hsmall x hx
        simpa using this
      obtain ⟨adz, cz, rfl, -⟩ := hrecs.row.form
      obtain ⟨i0, i1, i2, i3, i4, i5, i6, i7, if1, ib1⟩ := cells8 (show wr.heap[nb]? = some (.cells #[_, _, _, _, _, _, _, _] _ (0, 0)) from hnew)
      obtain ⟨h0, h1, h2, h3, h4, h5, h6, h7, hf, hb⟩ := cells8 (hkeep.get Hh.out id)
      obtain ⟨fl, hfl⟩ : ∃ fl, fl = (flat L).length := ⟨_, rfl⟩
      obtain ⟨ad5, c5, hv5, -⟩ := hbytes.row.form
      rw [← hfl] at hv5
      subst hv5
      have HB := hid (And.intro hnew (And.intro hrecs (And.intro hbytes (And.intro hsmall (And.intro hfit (And.intro hkeep (And.intro hoff (And.intro hany hfl))))))))
      clear hnew hrecs hbytes hsmall hkeep hoff hany htl
      by_cases hlast : ep1 = 4611686018427387904
      · have hr : WM.reset D G L = (5, D, G) := by
          unfold WM.reset
          have h5 : 32 * half D < (flat L).length ∨ G.ep + 1 = 4611686018427387904 := .inr (by have := HE.out.1; omega)
          rw [hg, if_neg (by simp), if_neg (by rw [HB.out.2.2.2.2.2.2.2.1]; simp), if_pos h5]
        have HR := hid hr
        have q4 : ((ep1 : Int) == 4611686018427387904) = true := by rw [hlast]; rfl
        clear hr hfl hfit
        go_wp2_with (at_builtin; refine stopAt ?_; intro q hq)
        go_ret
        rw [HR.out]
        exact ⟨rfl, HH.out.toLater HB.out.2.2.2.2.2.1⟩
      have hr : WM.reset D G L = if (turnW ep1 (areaH (half D) L) D).1 = 0 then (0, (turnW ep1 (areaH (half D) L) D).2, ⟨ep1, L, L.length, false⟩) else ((turnW ep1 (areaH (half D) L) D).1, (turnW ep1 (areaH (half D) L) D).2, { G with dead := true }) := by
        have h6 := HE.out.1
        unfold WM.reset
        have h5 : ¬ (32 * half D < (flat L).length ∨ G.ep + 1 = 4611686018427387904) := by omega
        rw [hg, if_neg (by simp), if_neg (by rw [HB.out.2.2.2.2.2.2.2.1]; simp), if_neg h5, h6]
        rfl
      have HR := hid hr
      have q4 : ((ep1 : Int) == 4611686018427387904) = false := by simp; omega
      have q5 : decide (ep1 = 4611686018427387904) = false := decide_eq_false hlast
      have hflnn : fl ≤ nn := by have := HE.out.2.2.1; omega
      have hnn2 : nn ≤ 40000 := by have := HE.out.2.2.1; omega
      obtain ⟨k, hk⟩ : ∃ k, k = nn - fl := ⟨_, rfl⟩
      have q6 : (nn : Int) - (fl : Int) = (k : Int) := by omega
      have q7 := wi64 k (by omega)
      have hk2 : Keep (fun k => k = nb) wr (wr.setCell ⟨nb, 6, none⟩ (.int .i64 (fl : Nat))) := by refine Keep.setCell (Keep.refl _ _) (.inl ?_) _; rfl
      have hh2 := heap_setCell6 HB.out.1 6 (.int .i64 (fl : Nat))
      have HQ := hid (And.intro hk2 (And.intro hh2 hk))
      clear hr hfl hfit hlast hflnn hk2 hh2 hk
      go_wp2_with (at_builtin; refine stopAt ?_; intro q hq)
      (refine hq.out ?_; clear hq q)
      obtain ⟨w2, hw2⟩ : ∃ w2, w2 = wr.setCell ⟨nb, 6, none⟩ (.int .i64 (fl : Nat)) := ⟨_, rfl⟩
      obtain ⟨hk2, hh2, hk⟩ := HQ.out
      rw [← hw2] at hk2 hh2 ⊢
      clear hw2
      have hnb0 := H2.out.2.2
      have hkw := HB.out.2.2.2.2.2.1
      have hnl := heap_lt HB.out.1
      have hkw2 : Keep (fun _ => False) w w2 := hkw.next hk2 (fun _ _ x => x) (fun k hk x => by omega)
      have hoff := HB.out.2.2.2.2.2.2.1
      have hfl := HB.out.2.2.2.2.2.2.2.2
      have hf2 : Fresh w (.slice ad5 fl c5) (flat L) w2 := ⟨HB.out.2.2.1.row.keep hk2 fun k e x => hoff k e x, hkw2, HB.out.2.2.1.own⟩
      have hfit := HB.out.2.2.2.2.1
      have hnn3 := HE.out.2.2.1
      obtain ⟨v3, w3, hr3, hf3, hk3, hv3o⟩ := run_append_zeros (ty := 36) hf2 k (by omega)
      have har : flat L ++ List.replicate k 0 = areaH (half D) L := by unfold areaH; rw [hk, hnn3, hfl]
      rw [har] at hf3
      have hal : (areaH (half D) L).length = nn := by rw [areaH_length hfit, hnn3]
      have hrow3 := hf3.row
      rw [hal] at hrow3
      have htwo : 2 ≤ half D := HH.out.ok.two
      obtain ⟨ga2, ca2, cur3, fz3, rfl, -⟩ := hrow3.some (by omega)
      have hh3 := hk3.get hh2 (fun e => hoff nb e rfl)
      have hkw3 : Keep (fun _ => False) w w3 := hf3.keep
      have hg2 := hf3.own ga2 rfl
      have hg2o : (Value.slice ad5 fl c5).ownBlock = some ga2 ∨ w2.heap.size ≤ ga2 := hv3o ga2 rfl
      have hs2 := hk2.size
      have hg2n : ga2 ≠ nb := fun e => by
        subst e
        rcases hg2o with h | h
        · exact hoff _ h rfl
        · omega
      have HG := hid (And.intro hg2o (And.intro hs2 hnl))
      have H3 := hid (And.intro hh3 (And.intro hkw3 (And.intro hrow3 (And.intro hk2 (And.intro hk3 (And.intro hg2 (And.intro hg2n hnb0)))))))
      refine wpList_plain rfl (fun K hK => ?_)
      refine Lib.wp_append_run _ _ _ _ _ rfl _ _ rfl rfl _ _ hr3 ?_
      refine hK _ _ ?_
      clear hg2o hs2 hv3o
      clear hK K hk2 hh2 hk hkw hkw2 hoff hfl hf2 hfit hnn3 hr3 hf3 hk3 har hal hrow3 hh3 hkw3 hg2 hg2n i0 i1 i2 i3 i4 i5 i6 i7 if1 ib1 h0 h1 h2 h3 h4 h5 h6 h7 hf hb hnb0 hnl
      obtain ⟨i0, i1, i2, i3, i4, i5, i6, i7, if1, ib1⟩ := cells8 (show w3.heap[nb]? = some (.cells #[_, _, _, _, _, _, _, _] _ (0, 0)) from H3.out.1)
      have H4 := hid (And.intro (show Keep (fun k => k = nb) w3 (w3.setCell ⟨nb, 3, none⟩ (.slice (some ⟨ga2, 0, none⟩) nn ca2)) by refine Keep.setCell (Keep.refl _ _) (.inl ?_) _; rfl) (heap_setCell6 H3.out.1 3 (.slice (some ⟨ga2, 0, none⟩) nn ca2)))
      go_wp2_with (at_builtin; refine stopAt ?_; intro q hq)
      clear i0 i1 i2 i3 i4 i5 i6 i7 if1 ib1
      obtain ⟨w4, hw4⟩ : ∃ w4, w4 = w3.setCell ⟨nb, 3, none⟩ (.slice (some ⟨ga2, 0, none⟩) nn ca2) := ⟨_, rfl⟩
      obtain ⟨hk4, hh4⟩ := H4.out
      clear H4
      rw [← hw4] at hk4 hh4 ⊢
      clear hw4
      obtain ⟨p1, p2, p3, p4, p5, p6, p7, p8⟩ := H3.out
      obtain ⟨e1, e2, e3, e4⟩ := HE.out
      have hkw4 : Keep (fun _ => False) w w4 := p2.next hk4 (fun _ _ x => x) (fun k hk x => by omega)
      have hr4 := p3.keep hk4 (fun k e x => by simp [Value.ownBlock] at e; omega)
      have hb4 := hkw4.get Hh.out id
      have hFw : ∀ k, F k → k < w.heap.size := by obtain ⟨_, _, _, _, h⟩ := HH.out; exact h.wal.lt
      have hDw : ∀ k, Fd k → k < w.heap.size := by obtain ⟨_, _, _, _, h⟩ := HH.out; exact h.disk.lt
      have hap : ∀ k, F k → ¬ Fd k := by obtain ⟨_, _, _, _, h⟩ := HH.out; exact h.apart
      have hFb := HL.out.wal.self
      have hD4 : DiskAt w4 d Fd D := by obtain ⟨_, _, _, _, h⟩ := HH.out; exact h.disk.keep hkw4 fun _ _ x => x
      rw [e3] at hr4
      have hturn := turn_any w4 b d ga2 ca2 ep1 n fl Fd D (areaH (half D) L) (.slice adz L.length cz) false [.pointer (some ⟨d, 0, none⟩), .int .u64 (G.ep : Nat), .int .i64 (half D : Nat), .slice (some ⟨ga, 0, none⟩) nn ca, .slice adl G.l.length cl, .int .i64 (G.safe : Nat), .int .i64 (en : Nat), .bool false] hb4 rfl hD4 hr4
        (fun x => hap b hFb x) (fun x => by have := hDw _ x; omega) (by omega) hfew rfl
      obtain ⟨R, hR⟩ : ∃ R, R = turnW ep1 (areaH (half D) L) D := ⟨_, rfl⟩
      have hRl : R.2.safe.length = D.safe.length := by rw [hR, turnW_len]
      rw [← hR] at hturn HR
      rw [← e3] at hturn
      have HT := hid hturn
      have H4 := hid (And.intro hk4 (And.intro hh4 (And.intro hkw4 (And.intro hr4 (And.intro hFw (And.intro hDw (And.intro hap (And.intro hFb hRl))))))))
      clear hk4 hh4 hkw4 hr4 hFw hDw hap hFb hRl hturn hR p1 p2 p3 p4 p5 p6 p7 p8 e1 e2 e3 e4 hb4 hD4
      refine HT.out.mono ?_
      rintro e w5 ⟨rfl, Fd', hD5, hk5, hF5, hh5⟩
      have H5 := hid (And.intro hD5 (And.intro hk5 hF5))
      have hFb' : ¬ Fd' b := fun x => by
        rcases hF5 b x with y | y
        · exact H4.out.2.2.2.2.2.2.1 b H4.out.2.2.2.2.2.2.2.1 y
        · have h1 := H4.out.2.2.2.2.1 b H4.out.2.2.2.2.2.2.2.1
          have h2 := H4.out.2.2.1.size
          omega
      clear hD5 hk5 hF5
      by_cases r0 : R.1 = 0
      · rw [if_pos r0] at hh5
        rw [r0]
        have hfl5 := fails_any w5 b d _ _ _ _ _ _ _ hh5 0
        have HF := hid hfl5
        have Hh5 := hid hh5
        clear hh5 hfl5
        go_wp2_with (at_builtin; refine stopAt ?_; intro q hq)
        refine HF.out.mono ?_
        rintro e w6 ⟨rfl, hw6⟩
        have Hw6 := hid hw6
        clear hw6
        go_wp2_with (at_builtin; refine stopAt ?_; intro q hq)
        go_ret
        rw [HR.out, if_pos r0]
        refine ⟨rfl, ?_⟩
        have hw6 := Hw6.out
        rw [show (false || decide ((0 : Int) ≠ 0)) = false from rfl] at hw6
        have hk6 : Keep (fun k => k = b) w5 w6 := by rw [hw6]; refine Keep.setCell (Keep.refl _ _) (.inl ?_) _; rfl
        have hh6 := heap_setCell6 Hh5.out 7 (.bool false)
        rw [← hw6] at hh6
        obtain ⟨hk4, hh4, hkw4, hr4, hFw, hDw, hap, hFb, hRl⟩ := H4.out
        obtain ⟨p1, p2, p3, p4, p5, p6, p7, p8⟩ := H3.out
        obtain ⟨hD5, hk5, hF5⟩ := H5.out
        obtain ⟨g1, g2, g3⟩ := HG.out
        obtain ⟨e1, e2, e3, e4⟩ := HE.out
        have s4 := hkw4.size
        have s34 := hk4.size
        have s23 := p5.size
        have s45 := hk5.size
        have s56 := hk6.size
        have hbl := hFw b hFb
        have hok : LgOk (half D) ⟨ep1, L, L.length, false⟩ := ⟨HB.out.2.2.2.2.1, HH.out.ok.two, HH.out.ok.few, by have := of_decide_eq_false q5; show ep1 < _; omega, HB.out.2.2.2.1, Nat.le_refl _⟩
        have hk46 : Keep (fun k => Fd k ∨ k = b) w4 w6 := hk5.next hk6 (fun _ _ x => x) (fun _ _ x => .inr x)
        have hrec3 := (HB.out.2.1.bound.keep p4 (fun k _ h x => h (.inl x))).keep p5 (fun k _ h x => h (.inr x))
        have hrec4 := hrec3.keep hk4 (fun k _ h x => h (.inl x))
        have hwal : WalIs w6 b d (fun k => k = b ∨ (w.heap.size ≤ k ∧ k < w4.heap.size)) (half D) ⟨ep1, L, L.length, false⟩ ga2 ca2 (.slice adz L.length cz) vs2 := by
          refine ⟨?_, ?_, ?_, .inl rfl, .inr ⟨p6, by have := hr4.lt (k := ga2) (by simp [Value.ownBlock]); omega⟩, by omega, fun k x => ?_, hok⟩
          · rw [hh6, ← HN.out, ← e3, ← HB.out.2.2.2.2.2.2.2.2]; rfl
          · refine hr4.keep hk46 fun k e x => ?_
            simp [Value.ownBlock] at e
            subst e
            rcases x with x | x
            · have := hDw _ x; omega
            · omega
          · refine (hrec4.mono (F' := fun k => k = b ∨ (w.heap.size ≤ k ∧ k < w4.heap.size)) (A' := fun k => k = b ∨ k = ga2) fun k h1 h2 => ?_).keep hk46 fun k h1 h2 h3 => ?_
            · refine ⟨.inr ⟨h1.1, by omega⟩, ?_⟩
              rintro (h3 | h3)
              · omega
              · subst h3
                rcases g1 with h4 | h4
                · exact h2 (.inr h4)
                · omega
            · rcases h3 with h3 | h3
              · have := hDw k h3
                rcases h1 with h1 | h1
                · exact h2 (.inl h1)
                · omega
              · exact h2 (.inl h3)
          · rcases x with x | x
            · omega
            · omega
        rw [← half_len hRl] at hwal
        refine ⟨_, Fd', ⟨ga2, ca2, _, _, hwal, hD5.keep hk6 fun k x y => by subst y; exact hFb' x, fun k x y => ?_⟩, ?_, fun k x => ?_, fun k x => ?_⟩
        · rcases x with x | x
          · subst x; exact hFb' y
          · rcases hF5 k y with z | z
            · have := hDw k z; omega
            · omega
        · refine hkw4.next hk46 (fun _ _ x => x.elim) fun k _ x => ?_
          rcases x with x | x
          · exact .inr x
          · subst x; exact .inl hFb
        · rcases x with x | x
          · subst x; exact .inl hFb
          · exact .inr x.1
        · rcases hF5 k x with z | z
          · exact .inl z
          · right; omega
      · rw [if_neg r0] at hh5
        have hfl5 := fails_any w5 b d G.ep (half D) (.slice (some ⟨ga, 0, none⟩) nn ca) (.slice adl G.l.length cl) G.safe en false hh5 R.1
        have HF := hid hfl5
        have Hh5 := hid hh5
        clear hh5 hfl5
        go_wp2_with (at_builtin; refine stopAt ?_; intro q hq)
        refine HF.out.mono ?_
        rintro e w6 ⟨rfl, hw6⟩
        have Hw6 := hid hw6
        clear hw6
        go_wp2_with (at_builtin; refine stopAt ?_; intro q hq)
        go_ret
        rw [HR.out, if_neg r0]
        refine ⟨rfl, ?_⟩
        have hw6 := Hw6.out
        rw [show (false || decide (R.1 ≠ 0)) = true by simp [r0]] at hw6
        have hk6 : Keep (fun k => k = b) w5 w6 := by rw [hw6]; refine Keep.setCell (Keep.refl _ _) (.inl ?_) _; rfl
        have hh6 := heap_setCell6 Hh5.out 7 (.bool true)
        rw [← hw6] at hh6
        obtain ⟨hk4, hh4, hkw4, hr4, hFw, hDw, hap, hFb, hRl⟩ := H4.out
        obtain ⟨hD5, hk5, hF5⟩ := H5.out
        obtain ⟨e1, e2, e3, e4⟩ := HE.out
        have s4 := hkw4.size
        have hk46 : Keep (fun k => Fd k ∨ k = b) w4 w6 := hk5.next hk6 (fun _ _ x => x) (fun _ _ x => .inr x)
        have hk06 : Keep (fun k => Fd k ∨ k = b) w w6 := hkw4.next hk46 (fun _ _ x => x.elim) (fun _ _ x => x)
        have hwal : WalIs w6 b d F (half D) { G with dead := true } ga ca (.slice adl G.l.length cl) vs := by
          refine HL.out.wal.head2 hk06 (fun k x y => y.elim (fun z => absurd z (hap k x)) id) rfl ?_ (HH.out.ok.die true)
          rw [hh6, ← e3]
          show _ = some (Obj.cells (walCells d G.ep (half D) _ _ G.safe (flat G.l).length true) _ _)
          rw [← e2]
          rfl
        rw [← half_len hRl] at hwal
        refine ⟨F, Fd', ⟨ga, ca, _, _, hwal, hD5.keep hk6 fun k x y => by subst y; exact hFb' x, fun k x y => ?_⟩, hk06.mono fun k _ x => ?_, fun k x => .inl x, fun k x => ?_⟩
        · rcases hF5 k y with z | z
          · exact hap k x z
          · have := hFw k x; omega
        · rcases x with x | x
          · exact .inr x
          · subst x; exact .inl hFb
        · rcases hF5 k x with z | z
          · exact .inl z
          · right; omega
end Go.Proofs.Yteemekckiafnfaa
/- The program's log: a contract for head. Conditions: as the contract names them. -/
namespace Go.Proofs.Yteemekckiafnfaa
open Go.RowKit
open DM BM WM

theorem get_no {l : List UInt8} {a m : Nat} (h : BM.get l a = .no m) : m ≠ 0 := by
  unfold BM.get at h
  repeat' split at h
  all_goals cases h
  all_goals decide
theorem digits_no : ∀ (f i v : Nat) {l : List UInt8} {a m : Nat}, digits l a f i v = .no m → m ≠ 0
  | 0, i, v, l, a, m, h => by simp only [digits] at h; cases h; decide
  | f + 1, i, v, l, a, m, h => by
    rw [digits] at h
    simp only at h
    repeat' split at h
    all_goals first | (cases h; done) | (cases h; decide) | exact digits_no f _ _ h
theorem uint_no {l : List UInt8} {a m : Nat} (h : BM.uint l a = .no m) : m ≠ 0 := by
  unfold BM.uint at h
  split at h
  · cases h; decide
  · exact digits_no _ _ _ h
theorem digits_yes : ∀ (f i v : Nat) {l : List UInt8} {a n t : Nat}, digits l a f i v = .yes n t → n < 18446744073709551616 ∨ 18446744073709551616 ≤ n
  | _, _, _, _, _, n, _, _ => by omega

/-- What head says. -/
def HeadPost (D : Dk) (i : Nat) (w : World) (e : Ending) (w' : World) : Prop :=
  ∃ n : Nat, e = .returned (.tuple #[.int .u64 (n : Nat), .bool (WM.head D i).isSome]) ∧ (∀ m, WM.head D i = some m → n = m) ∧ Keep (fun _ => False) w w'

theorem read_one (D : Dk) (i : Nat) (hd : D.down = false) (hi : i < D.safe.length) (ok : Ok D) : (DM.read D (i : Int)).2 = 0 ∧ (DM.read D (i : Int)).1.length = 32 := by
  have h : DM.read D (i : Int) = ((DM.now D).getD i [], 0) := by
    unfold DM.read
    rw [hd]
    simp
    omega
  rw [h]
  refine ⟨rfl, ?_⟩
  have hil : i < (DM.now D).length := by rw [now_length]; omega
  have := ok.now _ (List.getElem_mem hil)
  simpa [List.getD, List.getElem?_eq_getElem hil] using this

set_option maxRecDepth 20000 in
set_option maxHeartbeats 1000000 in
theorem head_any (w : World) (d : Nat) (Fd : Nat → Prop) (D : Dk) (i : Nat) (hD : DiskAt w d Fd D) (hd : D.down = false) (hi : i < D.safe.length) (hi2 : i < 2) :
    Calls Try.prog 67 #[.pointer (some ⟨d, 0, none⟩), .int .i64 (i : Nat)] w (HeadPost D i w) := by
  have hfew := hD.ok.few
  have hr := read_any w d Fd D (i : Int) hD (by omega)
  obtain ⟨r1, r2⟩ := read_one D i hd hi hD.ok
  rw [r1, r2] at hr
  obtain ⟨B, hB⟩ : ∃ B, B = (DM.read D (i : Int)).1 := ⟨_, rfl⟩
  rw [← hB] at hr r2
  have HHd := hid (show WM.head D i = match BM.get B 0 with | .no _ => none | .yes k body _ => if k ≠ 1 then none else match BM.uint body 0 with | .no _ => none | .yes n t => if t = body.length ∧ n < 4611686018427387904 ∧ n % 2 = i then some n else none by rw [hB]; rfl)
  have no : WM.head D i = none → ∀ w', Keep (fun _ => False) w w' → ∀ n : Nat, HeadPost D i w (.returned (.tuple #[.int .u64 (n : Nat), .bool false])) w' := fun h w' hk n =>
    ⟨n, by rw [h]; rfl, fun m hm => (by rw [h] at hm; cases hm), hk⟩
  have No := hid no
  have yes : ∀ n, WM.head D i = some n → ∀ w', Keep (fun _ => False) w w' → HeadPost D i w (.returned (.tuple #[.int .u64 (n : Nat), .bool true])) w' := fun n h w' hk =>
    ⟨n, by rw [h]; rfl, fun m hm => (by rw [h] at hm; cases hm; rfl), hk⟩
  have Yes := hid yes
  have R2 := hid r2
  obtain ⟨Post, hPost⟩ : ∃ Post, Post = HeadPost D i w := ⟨_, rfl⟩
  rw [← hPost] at No Yes ⊢
  clear no yes hB r1 r2 hD hPost
  go_enter Try.func67, Try.ntmps67
  go_wp2_with (at_builtin; refine stopAt ?_; intro q hq)
  refine hr.mono ?_
  rintro e w1 ⟨v1, rfl, hrow1, hk1, hown1⟩
  obtain ⟨ad1, c1, rfl, hc1, -⟩ := hrow1.form
  have hget := get_any w1 ad1 32 c1 0 B (by have h := Cells.of_row hrow1; exact h) (Nat.zero_le _) hc1 (by decide)
  have HK1 := hid hk1
  clear hr hrow1 hk1 hown1 hc1
  go_wp2_with (at_builtin; refine stopAt ?_; intro q hq)
  obtain ⟨gt, hgt⟩ : ∃ gt, gt = BM.get B 0 := ⟨_, rfl⟩
  rw [← hgt] at hget HHd
  refine hget.mono ?_
  clear hget
  intro e w2 hp
  cases gt with
  | no m =>
    obtain ⟨rfl, hk2⟩ := hp
    have hm := get_no hgt.symm
    have hz : WM.head D i = none := HHd.out
    have hk12 : Keep (fun _ => False) w w2 := HK1.out.next hk2 (fun _ _ x => x) (fun _ _ x => x)
    have u1 : ((m : Int) != 0) = true := by simp; omega
    have u2 : ((m : Int) == 0) = false := by simp; omega
    have hN := fun w' (h : Keep (fun _ => False) w2 w') => No.out hz w' (hk12.next h (fun _ _ x => x) (fun _ _ x => x)) 0
    have HN := hid hN
    clear hgt hm hz hk12 hk2 hN
    go_wp2_with (at_builtin; refine stopAt ?_; intro q hq)
    refine HN.out _ ?_
    first | exact (Keep.refl _ _).alloc _ | exact (((Keep.refl _ _).alloc _).setCell (.inr (Nat.le_refl _)) _).setCell (.inr (Nat.le_refl _)) _
  | yes k body q =>
    obtain ⟨v, rfl, hf2⟩ := hp
    obtain ⟨ad2, c2, rfl, hc2, -⟩ := hf2.row.form
    obtain ⟨-, -, hb1, -⟩ := get_frame hgt.symm
    have hk12 : Keep (fun _ => False) w w2 := HK1.out.next hf2.keep (fun _ _ x => x) (fun _ _ x => x)
    by_cases hk : k = 1
    rotate_left
    · have hz : WM.head D i = none := by rw [HHd.out]; simp [hk]
      have u1 : ((k.toNat : Int) != 1) = true := by
        have : k.toNat ≠ 1 := fun e => hk (UInt8.toNat_inj.1 e)
        simp; omega
      have hN := fun w' (h : Keep (fun _ => False) w2 w') => No.out hz w' (hk12.next h (fun _ _ x => x) (fun _ _ x => x)) 0
      have HN := hid hN
      clear hgt hz hk12 hN hk hf2
      generalize k.toNat = kk at *
      go_wp2_with (at_builtin; refine stopAt ?_; intro q hq)
      refine HN.out _ ?_
      first | exact (Keep.refl _ _).alloc _ | exact (((Keep.refl _ _).alloc _).setCell (.inr (Nat.le_refl _)) _).setCell (.inr (Nat.le_refl _)) _
    · subst hk
      have HHe := hid (show WM.head D i = match BM.uint body 0 with | .no _ => none | .yes n t => if t = body.length ∧ n < 4611686018427387904 ∧ n % 2 = i then some n else none by rw [HHd.out]; simp)
      have HF2 := hid hf2
      have HK12 := hid hk12
      clear hgt hk12 hf2 HHd
      rw [show ((1 : UInt8).toNat : Int) = 1 from rfl]
      go_wp2_with (at_builtin; refine stopAt ?_; intro q hq)
      obtain ⟨w3, hw3⟩ : ∃ w3, w3 = w2.alloc (.cells #[.int .u8 1, .slice ad2 body.length c2] 115) := ⟨_, rfl⟩
      have hh3 : w3.heap[w2.heap.size]? = some (.cells #[.int .u8 1, .slice ad2 body.length c2] 115) := by rw [hw3]; exact heap_alloc_new w2 _
      have hk3 : Keep (fun _ => False) w2 w3 := by rw [hw3]; exact (Keep.refl _ _).alloc _
      rw [← hw3]
      clear hw3
      refine (uint_any w3 ad2 body.length c2 0 body ((Cells.of_row HF2.out.row).keep hk3 fun _ _ x => x) (Nat.zero_le _) (by omega)).mono ?_
      rintro e w4 ⟨rfl, hk4⟩
      have hh4 := hk4.get hh3 id
      obtain ⟨a0, a1, af, -⟩ := cells2 (show w4.heap[w2.heap.size]? = some (.cells #[_, _] _ (0, 0)) from hh4)
      have HK4 := hid ((HK12.out.next hk3 (H := fun _ => False) (fun _ _ x => x) (fun _ _ x => x)).next hk4 (H := fun _ => False) (fun _ _ x => x) (fun _ _ x => x))
      clear hh3 hk3 hk4 hh4
      generalize hu : BM.uint body 0 = un at *
      cases un with
      | no m =>
        have hm := uint_no hu
        have hz : WM.head D i = none := HHe.out
        have u1 : ((m : Int) != 0) = true := by simp; omega
        have u2 : ((m : Int) == 0) = false := by simp; omega
        have u3 : decide (m = 0) = false := by simp; omega
        have HN := hid (No.out hz w4 HK4.out 0)
        clear hm hz hu
        unfold numV
        go_wp2_with (at_builtin; refine stopAt ?_; intro q hq)
        exact HN.out
      | yes n t =>
        have hz := HHe.out
        simp only at hz
        obtain ⟨bl, hbl⟩ : ∃ bl, bl = body.length := ⟨_, rfl⟩
        obtain ⟨r, hr⟩ : ∃ r, r = n % 2 := ⟨_, rfl⟩
        rw [← hbl] at hz a1 ⊢
        have q1 : ((n : Int) % 2) = (r : Int) := by omega
        have q2 : ((n : Int).tmod 2) = (r : Int) := by rw [Int.tmod_eq_emod_of_nonneg (by omega)]; exact q1
        have q3 := wi64 r (by omega)
        rw [← hr] at hz
        unfold numV
        by_cases c1 : t = bl
        rotate_left
        · have HN := hid (No.out (by rw [hz, if_neg (fun h => c1 h.1)]) w4 HK4.out n)
          have u1 : ((t : Int) == (bl : Int)) = false := by simp; omega
          have u2 : decide (t = bl) = false := decide_eq_false c1
          clear hz hbl hr hu c1
          go_wp2_with (at_builtin; refine stopAt ?_; intro q hq)
          exact HN.out
        · have u1 : ((t : Int) == (bl : Int)) = true := by simp; omega
          by_cases c2 : n < 4611686018427387904
          rotate_left
          · have HN := hid (No.out (by rw [hz, if_neg (fun h => c2 h.2.1)]) w4 HK4.out n)
            have u3 : decide ((n : Int) < 4611686018427387904) = false := decide_eq_false (by omega)
            have u4 : decide (n < 4611686018427387904) = false := decide_eq_false c2
            clear hz hbl hr hu c2 c1
            go_wp2_with (at_builtin; refine stopAt ?_; intro q hq)
            exact HN.out
          · have u3 : (n : Int) < 4611686018427387904 := by omega
            by_cases c3 : r = i
            rotate_left
            · have HN := hid (No.out (by rw [hz, if_neg (fun h => c3 h.2.2)]) w4 HK4.out n)
              have u5 : ((r : Int) == (i : Int)) = false := by simp; omega
              have u6 : decide (r = i) = false := decide_eq_false c3
              clear hz hbl hr hu c2 c1 c3
              go_wp2_with (at_builtin; refine stopAt ?_; intro q hq)
              exact HN.out
            · have HN := hid (Yes.out n (by rw [hz, if_pos ⟨c1, c2, c3⟩]) w4 HK4.out)
              have u5 : ((r : Int) == (i : Int)) = true := by simp; omega
              clear hz hbl hr hu c2 c1 c3
              go_wp2_with (at_builtin; refine stopAt ?_; intro q hq)
              exact HN.out
end Go.Proofs.Yteemekckiafnfaa
/- The program's log: a contract for scan. Conditions: as the contract names them. -/
namespace Go.Proofs.Yteemekckiafnfaa
open Go.RowKit
open DM BM WM

/-- While the area is read. -/
structure ScanRel (w : World) (b d ep h ga : Nat) (va : Value) (bs : List UInt8) (wr : World) : Prop where
  ex : ∃ (f a : Nat) (L : List (List UInt8)) (vl : Value) (vs : List Value), scan bs (bs.length + 1) 0 = (L ++ (scan bs f a).1, (scan bs f a).2) ∧ a ≤ bs.length ∧ bs.length < a + f ∧ 10 * L.length ≤ a ∧
    wr.heap[b]? = some (.cells (walCells d ep h va vl 0 a false) 75 (0, 0)) ∧ Recs wr (fun k => w.heap.size ≤ k) (fun k => k = b ∨ k = ga) vl L vs
  keep : Keep (fun k => k = b) w wr

/-- What the round has read. -/
def GotAt (wr : World) (s2 s3 s4 : Value) (g : Got) (wx : World) : Prop :=
  ∃ f c0 c1, s2 = .pointer (some ⟨f, 0, none⟩) ∧ wx.heap[f]? = some (.cells #[c0, c1] 115 (0, 0)) ∧ Keep (fun _ => False) wr wx ∧ wr.heap.size ≤ f ∧
    match g with
    | .no m => s4 = .int .i64 (m : Nat)
    | .yes k body q => ∃ ad c, c0 = .int .u8 (k.toNat : Nat) ∧ c1 = .slice ad body.length c ∧ Row wx 5 1 c1 body.length (bytesV body) ∧ (∀ j, c1.ownBlock = some j → wr.heap.size ≤ j ∧ j ≠ f) ∧ s3 = .int .i64 (q : Nat) ∧ s4 = .int .i64 0

theorem Keep.undrew {F : Nat → Prop} {a b : World} (h : Keep F a.drew b) : Keep F a b := ⟨h.os, h.tape, h.output, h.size, h.block⟩
theorem got_new {wr w2 : World} (hk : Keep (fun _ => False) wr w2) (c0 c1 : Value) :
    (w2.alloc (.cells #[c0, c1] 115)).heap[w2.heap.size]? = some (Obj.cells #[c0, c1] 115 (0, 0)) ∧ Keep (fun _ => False) wr (w2.alloc (.cells #[c0, c1] 115)) ∧ wr.heap.size ≤ w2.heap.size ∧ Keep (fun _ => False) w2 (w2.alloc (.cells #[c0, c1] 115)) :=
  ⟨heap_alloc_new w2 _, hk.alloc _, hk.size, (Keep.refl _ _).alloc _⟩
theorem got_old {wr w2 : World} (hk : Keep (fun _ => False) (wr.alloc (.cells #[.int .u8 0, .slice none 0 0] 115)) w2) (c0 c1 : Value) :
    ((w2.setCell ⟨wr.heap.size, 0, none⟩ c0).setCell ⟨wr.heap.size, 1, none⟩ c1).heap[wr.heap.size]? = some (Obj.cells #[c0, c1] 115 (0, 0)) ∧ Keep (fun _ => False) wr ((w2.setCell ⟨wr.heap.size, 0, none⟩ c0).setCell ⟨wr.heap.size, 1, none⟩ c1) ∧
      Keep (fun k => k = wr.heap.size) w2 ((w2.setCell ⟨wr.heap.size, 0, none⟩ c0).setCell ⟨wr.heap.size, 1, none⟩ c1) := by
  have h := hk.get (heap_alloc_new wr _) id
  have h2 := heap_setCell_same _ wr.heap.size 1 _ _ c1 (heap_setCell_same w2 wr.heap.size 0 _ _ c0 h)
  have hk2 : Keep (fun k => k = wr.heap.size) w2 ((w2.setCell ⟨wr.heap.size, 0, none⟩ c0).setCell ⟨wr.heap.size, 1, none⟩ c1) := by refine Keep.setCell (Keep.setCell (Keep.refl _ _) (.inl ?_) _) (.inl ?_) _ <;> rfl
  exact ⟨h2, (((Keep.refl _ wr).alloc _).next hk (H := fun _ => False) (fun _ _ x => x) (fun _ _ x => x)).next hk2 (fun _ _ x => x) (fun k hk x => by omega), hk2⟩

set_option maxRecDepth 20000 in
set_option maxHeartbeats 2000000 in
theorem scan_any (w : World) (b d ep h ga ca nn : Nat) (bs : List UInt8) (H : w.heap[b]? = some (.cells (walCells d ep h (.slice (some ⟨ga, 0, none⟩) nn ca) (.slice none 0 0) 0 0 false) 75 (0, 0)))
    (hrow : Row w 5 1 (.slice (some ⟨ga, 0, none⟩) nn ca) nn (bytesV bs)) (hnn : nn ≤ 40000) (hne : b ≠ ga) :
    Calls Try.prog 68 #[.pointer (some ⟨b, 0, none⟩)] w fun e w' => e = .returned (.tuple #[]) ∧ Keep (fun k => k = b) w w' ∧
      ∃ vl vs, w'.heap[b]? = some (.cells (walCells d ep h (.slice (some ⟨ga, 0, none⟩) nn ca) vl (scan bs (bs.length + 1) 0).1.length (scan bs (bs.length + 1) 0).2 false) 75 (0, 0)) ∧ Recs w' (fun k => w.heap.size ≤ k) (fun k => k = b ∨ k = ga) vl (scan bs (bs.length + 1) 0).1 vs := by
  have hbl : bs.length = nn := by have := hrow.1; rw [bytesV_length] at this; omega
  have H0 := hid (show ScanRel w b d ep h ga (.slice (some ⟨ga, 0, none⟩) nn ca) bs w from ⟨⟨bs.length + 1, 0, [], .slice none 0 0, [], rfl, Nat.zero_le _, by omega, Nat.zero_le _, H, Recs.nil _ _ _⟩, Keep.refl _ _⟩)
  obtain ⟨adx, cax, hvx, hnca, hca, -⟩ := hrow.form
  simp at hvx
  obtain ⟨rfl, rfl⟩ := hvx
  have HR := hid hrow
  have hblt := heap_lt H
  have hgalt := hrow.lt (k := ga) (by simp [Value.ownBlock])
  clear H hrow
  go_enter Try.func68, Try.ntmps68
  go_wp2_with (at_builtin; refine stopAt ?_; intro q hq)
  go_loopw [3] (fun _ wr => Hid (ScanRel w b d ep h ga (.slice (some ⟨ga, 0, none⟩) nn ca) bs wr)) (fun _ wr => bs.length + 10 - (intOf ((wr.cell? ⟨b, 6, none⟩).getD undef)).toNat)
  case atStart => exact H0
  case round =>
    clear H0
    obtain ⟨f, a, L, vl, vs, hs, ha, hf, hc, hh, hrec⟩ := hrel.out.ex
    have hk := hrel.out.keep
    obtain ⟨i0, i1, i2, i3, i4, i5, i6, i7, if1, ib1⟩ := cells8 (show wr.heap[b]? = some (.cells #[_, _, _, _, _, _, _, _] _ (0, 0)) from hh)
    have hbw : b ≠ wr.heap.size := by omega
    have hbw2 : wr.heap.size ≠ b := by omega
    have hcells : ∀ wX, Keep (fun _ => False) wr wX → Cells wX (some ⟨ga, 0, none⟩) nn 1 (bytesV bs) := fun wX hX => ((Cells.of_row HR.out).keep hk fun x hx y => by cases hx; exact hne y.symm).keep hX fun _ _ x => x
    have hget : ∀ wX, Keep (fun _ => False) wr wX → Calls Try.prog 84 #[.slice (some ⟨ga, 0, none⟩) nn ca, .int .i64 (a : Nat)] wX (GetPost wX (BM.get bs a)) := fun wX hX => get_any wX _ nn ca a bs (hcells wX hX) (by omega) hnca (by omega)
    have HX := hid (And.intro hs (And.intro ha (And.intro hf (And.intro hc (And.intro hh (And.intro hrec hk))))))
    obtain ⟨g, hg⟩ : ∃ g, g = BM.get bs a := ⟨_, rfl⟩
    rw [← hg] at hget
    have HGt := hid hg
    have HGet := hid hget
    clear hs hf hc hh hrec hk hcells hget hg hrel
    go_wp2_with (at_builtin; refine stopAt ?_; intro q hq)
    go_cut [2, 3, 4] (fun s2 s3 s4 wx => Hid (GotAt wr s2 s3 s4 g wx))
    case first =>
      cases g with
      | no m =>
        have hget2 : ∀ wX, Keep (fun _ => False) wr wX → Calls Try.prog 84 #[.slice (some ⟨ga, 0, none⟩) nn ca, .int .i64 (a : Nat)] wX fun e w' => e = .returned (.tuple #[.agg #[.int .u8 0, .slice none 0 0], .int .i64 0, .int .i64 (m : Nat)]) ∧ (w'.cell? ⟨b, 3, none⟩ = some (.slice (some ⟨ga, 0, none⟩) nn ca) ∧ w'.cell? ⟨b, 6, none⟩ = some (.int .i64 (a : Nat))) ∧ Hid (Keep (fun _ => False) wX w') ∧ Hid (∀ g : Nat, wX.heap[g]? = some (Obj.cells #[.int .u8 0, .slice none 0 0] 115 (0, 0)) → w'.heap[g]? = some (Obj.cells #[.int .u8 0, .slice none 0 0] 115 (0, 0))) := fun wX hX => (HGet.out wX hX).mono fun e w' ⟨h1, h2⟩ => by
          have hk' := hX.next h2 (H := fun _ => False) (fun _ _ x => x) (fun _ _ x => x)
          exact ⟨h1, ⟨by rw [World.cell?_of_block (hk'.block _ (World.block_lt_of_cell? _ _ i3) id)]; exact i3, by rw [World.cell?_of_block (hk'.block _ (World.block_lt_of_cell? _ _ i6) id)]; exact i6⟩, hid h2, hid fun g hg => h2.get hg id⟩
        have HG2 := hid hget2
        clear hget2
        go_region_held3 (fun w' => w'.cell? ⟨b, 3, none⟩ = some (.slice (some ⟨ga, 0, none⟩) nn ca) ∧ w'.cell? ⟨b, 6, none⟩ = some (.int .i64 (a : Nat)))
          (first | exact ⟨i3, i6⟩ | assumption | go_keep)
          (first | (go_simp; go_at_call 84; refine (HG2.out _ (by first | exact (Keep.refl _ _).drew | exact (Keep.refl _ _).drew.alloc _ | exact ((Keep.refl _ _).alloc _).drew)).mono ?_; rintro e w2 ⟨rfl, hz2, HK2, HZ3⟩; (first | (have hz9 : w2.heap[wr.heap.size]? = some (Obj.cells #[.int .u8 0, .slice none 0 0] 115 (0, 0)) := by (apply HZ3.out; exact heap_alloc_new wr _)); (obtain ⟨z0, z1, zf, zl⟩ := cells2 hz9); (clear hz9) | skip); go_simp))
        all_goals (go_wp2_with (at_builtin; refine stopAt ?_; intro q hq); go_meet)
        · obtain ⟨h1, h2, h3, -⟩ := got_new (show Keep (fun _ => False) wr w2 from HK2.out.undrew) (.int .u8 0) (.slice none 0 0)
          exact hid ⟨_, _, _, rfl, h1, h2, h3, rfl⟩
        · obtain ⟨h1, h2, -⟩ := got_old (show Keep (fun _ => False) (wr.alloc (.cells #[.int .u8 0, .slice none 0 0] 115)) w2 from HK2.out.undrew) (.int .u8 0) (.slice none 0 0)
          exact hid ⟨_, _, _, rfl, h1, h2, Nat.le_refl _, rfl⟩
      | yes k body q =>
        have hget2 : ∀ wX, Keep (fun _ => False) wr wX → Calls Try.prog 84 #[.slice (some ⟨ga, 0, none⟩) nn ca, .int .i64 (a : Nat)] wX fun e w' => ∃ ad c, e = .returned (.tuple #[.agg #[.int .u8 (k.toNat : Nat), .slice ad body.length c], .int .i64 (q : Nat), .int .i64 0]) ∧ (w'.cell? ⟨b, 3, none⟩ = some (.slice (some ⟨ga, 0, none⟩) nn ca) ∧ w'.cell? ⟨b, 6, none⟩ = some (.int .i64 (a : Nat))) ∧ Hid (Fresh wX (.slice ad body.length c) body w') ∧ Hid (∀ g : Nat, wX.heap[g]? = some (Obj.cells #[.int .u8 0, .slice none 0 0] 115 (0, 0)) → w'.heap[g]? = some (Obj.cells #[.int .u8 0, .slice none 0 0] 115 (0, 0))) := fun wX hX => (HGet.out wX hX).mono fun e w' ⟨v, h1, h2⟩ => by
          have hk' := hX.next h2.keep (H := fun _ => False) (fun _ _ x => x) (fun _ _ x => x)
          obtain ⟨ad, c, rfl, -⟩ := h2.row.form
          exact ⟨ad, c, h1, ⟨by rw [World.cell?_of_block (hk'.block _ (World.block_lt_of_cell? _ _ i3) id)]; exact i3, by rw [World.cell?_of_block (hk'.block _ (World.block_lt_of_cell? _ _ i6) id)]; exact i6⟩, hid h2, hid fun g hg => h2.keep.get hg id⟩
        have HG2 := hid hget2
        clear hget2
        generalize hkk : k.toNat = kk at *
        obtain ⟨bl, hbl2⟩ : ∃ bl, bl = body.length := ⟨_, rfl⟩
        rw [← hbl2] at HG2
        have HBL := hid (And.intro hkk hbl2)
        clear hkk hbl2
        go_region_held3 (fun w' => w'.cell? ⟨b, 3, none⟩ = some (.slice (some ⟨ga, 0, none⟩) nn ca) ∧ w'.cell? ⟨b, 6, none⟩ = some (.int .i64 (a : Nat)))
          (first | exact ⟨i3, i6⟩ | assumption | go_keep)
          (first | (go_simp; go_at_call 84; refine (HG2.out _ (by first | exact (Keep.refl _ _).drew | exact (Keep.refl _ _).drew.alloc _ | exact ((Keep.refl _ _).alloc _).drew)).mono ?_; rintro e w2 ⟨ad2, c2, rfl, hz2, HF2, HZ3⟩; (first | (have hz9 : w2.heap[wr.heap.size]? = some (Obj.cells #[.int .u8 0, .slice none 0 0] 115 (0, 0)) := by (apply HZ3.out; exact heap_alloc_new wr _)); (obtain ⟨z0, z1, zf, zl⟩ := cells2 hz9); (clear hz9) | skip); go_simp))
        all_goals (go_wp2_with (at_builtin; refine stopAt ?_; intro q hq); go_meet)
        · obtain ⟨h1, h2, h3, h4⟩ := got_new (show Keep (fun _ => False) wr w2 from HF2.out.keep.undrew) (.int .u8 (kk : Nat)) (.slice ad2 bl c2)
          refine hid ⟨_, _, _, rfl, h1, h2, h3, ad2, c2, by rw [HBL.out.1], by rw [HBL.out.2], HF2.out.row.keep h4 (fun _ _ x => x), fun j e => ⟨HF2.out.own j e, fun e2 => ?_⟩, rfl, rfl⟩
          have := HF2.out.row.lt e
          omega
        · obtain ⟨h1, h2, h3⟩ := got_old (show Keep (fun _ => False) (wr.alloc (.cells #[.int .u8 0, .slice none 0 0] 115)) w2 from HF2.out.keep.undrew) (.int .u8 (kk : Nat)) (.slice ad2 bl c2)
          have hsz : (wr.alloc (.cells #[.int .u8 0, .slice none 0 0] 115)).heap.size = wr.heap.size + 1 := by simp
          have hown : ∀ j, (Value.slice ad2 bl c2).ownBlock = some j → wr.heap.size + 1 ≤ j := fun j e => by have : (wr.alloc (.cells #[.int .u8 0, .slice none 0 0] 115)).heap.size ≤ j := HF2.out.own j e; omega
          refine hid ⟨_, _, _, rfl, h1, h2, Nat.le_refl _, ad2, c2, by rw [HBL.out.1], by rw [HBL.out.2], HF2.out.row.keep h3 (fun j e x => by have := hown j e; omega), fun j e => ⟨by have := hown j e; omega, by have := hown j e; omega⟩, rfl, rfl⟩
    case rest =>
      obtain ⟨f2, c0, c1, rfl, hh2, hk2, hlt2, hm⟩ := hcut.out
      obtain ⟨hs, ha', hf, hc, hh, hrec, hk⟩ := HX.out
      obtain ⟨a0, a1, af, hfl⟩ := cells2 hh2
      have hhc := hk2.get hh id
      have HM0 := hid i6
      clear i0 i1 i2 i3 i4 i5 i6 i7 if1 hcut
      obtain ⟨i0, i1, i2, i3, i4, i5, i6, i7, if1, ib2⟩ := cells8 (show wc.heap[b]? = some (.cells #[_, _, _, _, _, _, _, _] _ (0, 0)) from hhc)
      obtain ⟨fp, hfp⟩ : ∃ fp, f = fp + 1 := ⟨f - 1, by omega⟩
      have hkc : Keep (fun k => k = b) w wc := hk.next hk2 (fun _ _ x => x) (fun _ _ x => x.elim)
      obtain ⟨adl, cl, rfl, -⟩ := hrec.row.form
      -- the ways out
      have out : (scan bs f a = ([], a)) → ∀ wX, wX = wc.setCell ⟨b, 5, none⟩ (.int .i64 (L.length : Nat)) → Keep (fun k => k = b) w wX ∧
          ∃ vl vs, wX.heap[b]? = some (.cells (walCells d ep h (.slice (some ⟨ga, 0, none⟩) nn ca) vl (scan bs (bs.length + 1) 0).1.length (scan bs (bs.length + 1) 0).2 false) 75 (0, 0)) ∧ Recs wX (fun k => w.heap.size ≤ k) (fun k => k = b ∨ k = ga) vl (scan bs (bs.length + 1) 0).1 vs := by
        rintro h0 wX rfl
        have hk5 : Keep (fun k => k = b) wc (wc.setCell ⟨b, 5, none⟩ (.int .i64 (L.length : Nat))) := by refine Keep.setCell (Keep.refl _ _) (.inl ?_) _; rfl
        rw [hs, h0, List.append_nil]
        refine ⟨hkc.next hk5 (fun _ _ x => x) (fun _ _ x => x), _, vs, ?_, (hrec.keep hk2 fun _ _ _ x => x).keep hk5 fun k _ h1 h2 => h1 (.inl h2)⟩
        rw [heap_setCell6 hhc 5 (.int .i64 (L.length : Nat))]
        rfl
      have Out := hid out
      clear out
      cases g with
      | no m =>
        have hm0 := get_no HGt.out.symm
        have hz : scan bs f a = ([], a) := by rw [hfp, scan, ← HGt.out]
        have u1 : ((m : Int) != 0) = true := by simp; omega
        have u2 : ((m : Int) == 0) = false := by simp; omega
        have HO := hid (Out.out hz _ rfl)
        subst hm
        clear hz hm0 hs hf hc hh hrec hk hh2 hk2 hhc hkc hfp
        go_wp2_with (at_builtin; refine stopAt ?_; intro q hq)
        go_end0
        exact ⟨rfl, HO.out⟩
      | yes k body q =>
        obtain ⟨ad2, c2, rfl, rfl, hrow2, hown2, rfl, rfl⟩ := hm
        obtain ⟨-, hq, hb1024, hqle⟩ := get_frame HGt.out.symm
        have HQ := hid hq
        clear hq
        by_cases hk2' : k = 2
        rotate_left
        · have hz : scan bs f a = ([], a) := by rw [hfp, scan, ← HGt.out]; simp [hk2']
          have u1 : ((k.toNat : Int) != 2) = true := by
            have : k.toNat ≠ 2 := fun e => hk2' (UInt8.toNat_inj.1 e)
            simp; omega
          have HO := hid (Out.out hz _ rfl)
          clear hz hs hf hc hh hrec hk hh2 hk2 hhc hkc hfp hk2' hrow2
          generalize k.toNat = kk at *
          go_wp2_with (at_builtin; refine stopAt ?_; intro q hq)
          go_end0
          exact ⟨rfl, HO.out⟩
        · subst hk2'
          have hz : scan bs f a = (body :: (scan bs fp q).1, (scan bs fp q).2) := by rw [hfp, scan, ← HGt.out]; rfl
          have hrecc := hrec.keep hk2 (fun _ _ _ x => x)
          have hvb := hrec.own
          have hvl : ∀ k, (Value.slice adl L.length cl).ownBlock = some k → k < wr.heap.size := fun k e => hrec.row.lt e
          have HY := hid (And.intro hs (And.intro hf (And.intro hc (And.intro hz (And.intro hhc (And.intro hkc (And.intro hrecc (And.intro hrow2 (And.intro hown2 (And.intro hvl (And.intro hk.size (And.intro hk2 hfp))))))))))))
          clear hs hf hc hh hrec hk hh2 hk2 hhc hkc hfp hz hrecc hvb hvl hrow2 hown2 Out
          obtain ⟨bl, hbl2⟩ : ∃ bl, bl = body.length := ⟨_, rfl⟩
          rw [← hbl2] at a1 HY
          have HB := hid hbl2
          clear hbl2
          rw [show ((2 : UInt8).toNat : Int) = 2 from rfl] at a0
          go_wp2_with (at_builtin; refine stopAt ?_; intro q hq)
          refine wp_region_canon [] (by kernel_rfl) (by kernel_rfl) ?_
          repeat (first | (apply wpC_pure (by rfl); (intro K w'; go_simp; exact id)) | (apply wpC_load (by rfl); (intro K; go_simp; exact id)))
          (refine wpC_new (by rfl) (by rfl) (fun K hK => ?_); go_simp; refine hK _ _ (Pre.push _ rfl) ?_; clear hK K)
          obtain ⟨w3, hw3⟩ : ∃ w3, w3 = (wc.alloc (.cells #[.slice ad2 bl c2] 36)).drew := ⟨_, rfl⟩
          have hnew3 : w3.heap[wc.heap.size]? = some (.cells #[.slice ad2 bl c2] 36) := by rw [hw3]; exact heap_alloc_new wc _
          have hk3 : Keep (fun _ => False) wc w3 := by rw [hw3]; exact ((Keep.refl _ _).alloc _).drew
          rw [← hw3]
          clear hw3
          refine wpC_act (by rfl) (by rfl) (fun K hK => ?_)
          obtain ⟨y1, y2, y3, y4, y5, y6, y7, y8, y9, y10, y11, y12, y13⟩ := HY.out
          have hr3 := y7.keep hk3 (fun _ _ _ x => x)
          refine wp_append ty_recs _ _ rfl rfl hr3.row (some ⟨wc.heap.size, 0, none⟩) 1 1 [.slice ad2 bl c2] rfl
            ⟨rfl, fun _ => ⟨_, rfl, fun j u hu => by rw [addr_add, Nat.zero_add, cell_of_row _ _ _ _ _ _ hnew3]; simpa using hu⟩⟩ (by intro u hu; simp at hu; subst hu; rfl) (by unfold maxLen; omega) (by omega) ?_
          intro v4 w4 hr4 hk4 hv4
          obtain ⟨ad4, c4, rfl, -⟩ := hr4.form
          refine hK _ _ ?_
          clear hK K
          have hh4 := hk4.get (hk3.get y5 id) (fun e => (y7.own b e).2 (.inl rfl))
          clear i0 i1 i2 i3 i4 i5 i6 i7 if1 ib2 a0 a1 af
          obtain ⟨i0, i1, i2, i3, i4, i5, i6, i7, if1, ib2⟩ := cells8 (show w4.heap[b]? = some (.cells #[_, _, _, _, _, _, _, _] _ (0, 0)) from hh4)
          have H4 := hid (And.intro hr4 (And.intro hk4 (And.intro hv4 (And.intro hh4 (And.intro hk3 hr3)))))
          clear hr4 hk4 hv4 hh4 hk3 hr3 y1 y2 y3 y4 y5 y6 y7 y8 y9 y10 y11 y12 y13 hnew3
          repeat (apply wpC_pure (by rfl); (intro K w'; go_simp; exact id))
          (refine wpC_act (by rfl) (by rfl) (fun K hK => ?_); go_simp; refine hK _ _ ?_; clear hK K)
          refine wpC_nil ?_
          go_wp2_with (at_builtin; refine stopAt ?_; intro q hq)
          have hk6 : Keep (fun k => k = b) w4 ((w4.setCell ⟨b, 4, none⟩ (.slice ad4 (L.length + 1) c4)).setCell ⟨b, 6, none⟩ (.int .i64 (q : Nat))) := by refine Keep.setCell (Keep.setCell (Keep.refl _ _) (.inl ?_) _) (.inl ?_) _ <;> rfl
          have hh6 := heap_setCell6 (heap_setCell6 H4.out.2.2.2.1 4 (.slice ad4 (L.length + 1) c4)) 6 (.int .i64 (q : Nat))
          obtain ⟨w6, hw6⟩ : ∃ w6, w6 = (w4.setCell ⟨b, 4, none⟩ (.slice ad4 (L.length + 1) c4)).setCell ⟨b, 6, none⟩ (.int .i64 (q : Nat)) := ⟨_, rfl⟩
          rw [← hw6] at hk6 hh6 ⊢
          clear hw6
          obtain ⟨y1, y2, y3, y4, y5, y6, y7, y8, y9, y10, y11, y12, y13⟩ := HY.out
          obtain ⟨z1, z2, z3, z4, z5, z6⟩ := H4.out
          have hb1 := HB.out
          have hq := HQ.out
          have s1 := y12.size
          have s2 := z5.size
          have s3 := z2.size
          have HZ := hid (show ScanRel w b d ep h ga (.slice (some ⟨ga, 0, none⟩) nn ca) bs w6 by
            refine ⟨⟨fp, q, L ++ [body], .slice ad4 (L.length + 1) c4, vs ++ [.slice ad2 bl c2], ?_, hqle, by omega, by simp; omega, ?_, ?_⟩, ?_⟩
            · rw [y1, y4, List.append_assoc]; rfl
            · rw [hh6]; rfl
            · refine (z6.push (by have := y8.keep z5 (fun _ _ x => x); rw [hb1] at this ⊢; exact this) (F' := fun k => w.heap.size ≤ k) (fun k e => ?_) z1 z2 (fun k x => x) (fun k e => ?_)).keep hk6 (fun k _ h2 h3 => h2 (.inl h3))
              · have h1 := (y9 k e).1
                refine ⟨by omega, ?_, fun e' => ?_⟩
                · rintro (h3 | h3) <;> omega
                · have := y10 k e'; omega
              · rcases z3 with ⟨_, h0⟩ | ⟨k', h2, h3⟩
                · omega
                · rw [e] at h2; cases h2
                  rcases h3 with h3 | h3
                  · exact .inl h3
                  · refine .inr ⟨by omega, by omega, ?_⟩
                    rintro (h4 | h4) <;> omega
            · refine ((y6.next z5 (H := fun k => k = b) (fun _ _ x => x) (fun _ _ x => x.elim)).next z2 (H := fun k => k = b) (fun _ _ x => x) (fun k hk x => ?_)).next hk6 (fun _ _ x => x) (fun _ _ x => x)
              have := (y7.own k x).1
              omega)
          clear hq
          have hm6 : w6.cell? ⟨b, 6, none⟩ = some (.int .i64 (q : Nat)) := by rw [cell_of_row _ _ _ _ _ _ hh6]; simp [walCells]
          go_roundw
          case rel => exact HZ
          case measure => rw [hm6, HM0.out]; have hq := HQ.out; simp [intOf]; omega
end Go.Proofs.Yteemekckiafnfaa
/- The program's log: contracts for wipe and what it hands over. Conditions: as the contracts name them. -/
namespace Go.Proofs.Yteemekckiafnfaa
open Go.RowKit
open DM BM WM

/-- An area whose first p bytes are cleaned. -/
def mixA (B : List UInt8) (en p : Nat) : List UInt8 := (clean B en).take p ++ B.drop p
theorem clean_length (B : List UInt8) (en : Nat) : (clean B en).length = B.length := by simp [clean]; omega
theorem mixA_length (B : List UInt8) (en p : Nat) : (mixA B en p).length = B.length := by
  unfold mixA; rw [List.length_append, List.length_take, clean_length, List.length_drop]; omega
theorem clean_getD (B : List UInt8) (en j : Nat) : (clean B en).getD j 0 = if j < en then B.getD j 0 else 0 := by
  unfold clean
  by_cases h : j < en
  · rw [if_pos h]
    by_cases h2 : j < B.length
    · rw [List.getD_eq_getElem?_getD, List.getElem?_append_left (by rw [List.length_take]; omega), List.getElem?_take, if_pos h, ← List.getD_eq_getElem?_getD]
    · rw [List.getD_eq_getElem?_getD, List.getElem?_eq_none (by simp; omega), List.getD_eq_getElem?_getD, List.getElem?_eq_none (by omega)]
  · rw [if_neg h]
    rw [List.getD_eq_getElem?_getD]
    by_cases h2 : j < B.length
    · rw [List.getElem?_append_right (by rw [List.length_take]; omega), List.getElem?_replicate]
      split <;> rfl
    · rw [List.getElem?_eq_none (by simp; omega)]; rfl
theorem mixA_getD (B : List UInt8) (en p j : Nat) (hj : p ≤ j) (hp : p ≤ B.length) : (mixA B en p).getD j 0 = B.getD j 0 := by
  unfold mixA
  have hl : ((clean B en).take p).length = p := by rw [List.length_take, clean_length]; omega
  rw [List.getD_eq_getElem?_getD, List.getElem?_append_right (by omega), hl, List.getElem?_drop, List.getD_eq_getElem?_getD, show p + (j - p) = j by omega]
theorem mixA_succ (B : List UInt8) (en p : Nat) (hp : p < B.length) : mixA B en (p + 1) = (mixA B en p).set p ((clean B en).getD p 0) := by
  unfold mixA
  have hcl := clean_length B en
  have hl : ((clean B en).take p).length = p := by rw [List.length_take]; omega
  rw [List.set_append_right _ _ (by omega), hl, Nat.sub_self, List.drop_eq_getElem_cons hp, List.set_cons_zero, List.take_add_one, List.getElem?_eq_getElem (by omega), Option.toList_some, List.append_assoc]
  congr 2
  rw [List.getD_eq_getElem?_getD, List.getElem?_eq_getElem (by omega)]
  rfl
theorem set_same (l : List UInt8) (p : Nat) (h : p < l.length) : l.set p (l.getD p 0) = l := by
  rw [List.getD_eq_getElem?_getD, List.getElem?_eq_getElem h]
  exact List.set_getElem_self h
theorem mixA_zero (B : List UInt8) (en p : Nat) (h : p ≤ en) : mixA B en p = B := by
  unfold mixA clean
  rw [List.take_append, List.take_take, Nat.min_eq_left h]
  by_cases h2 : en ≤ B.length
  · rw [List.length_take, Nat.min_eq_left h2, show p - en = 0 by omega, List.take_zero, List.append_nil, List.take_append_drop]
  · rw [List.length_take, List.take_replicate, show min (p - min en B.length) (B.length - en) = 0 by omega, List.replicate_zero, List.append_nil, List.take_append_drop]
theorem mixA_all (B : List UInt8) (en : Nat) : mixA B en B.length = clean B en := by
  unfold mixA
  rw [List.drop_length, List.append_nil, List.take_of_length_le (by rw [clean_length]; exact Nat.le_refl _)]
/-- A sector that is done reads as it will at the end. -/
theorem mixA_sec (B : List UInt8) (en i : Nat) : secOf (mixA B en ((i + 1) * 32)) i = secOf (clean B en) i := by
  unfold secOf mixA
  by_cases h : (i + 1) * 32 ≤ B.length
  · have hl : ((clean B en).take ((i + 1) * 32)).length = (i + 1) * 32 := by rw [List.length_take, clean_length]; omega
    rw [List.drop_append_of_le_length (by omega), List.take_append_of_le_length (by rw [List.length_drop]; omega), List.drop_take, List.take_take]
    congr 1
    omega
  · have e : List.take ((i + 1) * 32) (clean B en) = clean B en := List.take_of_length_le (by rw [clean_length]; omega)
    rw [List.drop_of_length_le (by omega : B.length ≤ (i + 1) * 32), List.append_nil, e]

/-- The first j places of a sector. -/
def dirtyTo (B : List UInt8) (en i j : Nat) : Bool := (List.range j).any fun k => decide (en ≤ 32 * i + k) && decide (B.getD (32 * i + k) 0 ≠ 0)
theorem dirtyTo_succ (B : List UInt8) (en i j : Nat) : dirtyTo B en i (j + 1) = (dirtyTo B en i j || (decide (en ≤ 32 * i + j) && decide (B.getD (32 * i + j) 0 ≠ 0))) := by
  simp [dirtyTo, List.range_succ]

structure WipeRel (w : World) (ga ca nn : Nat) (B : List UInt8) (en i j : Nat) (wr : World) : Prop where
  row : Row wr 5 1 (.slice (some ⟨ga, 0, none⟩) nn ca) nn (bytesV (mixA B en (i * 32 + j)))
  keep : Keep (fun k => k = ga) w wr

/-- What the handed function leaves. -/
def Wiped (w : World) (d ga ca nn y : Nat) (Fd : Nat → Prop) (B : List UInt8) (en i : Nat) (wr0 : Bool) (R : Int × Dk) (e : Ending) (w' : World) : Prop :=
  e = .returned (.int .i64 R.1) ∧ Keep (fun k => Fd k ∨ k = ga ∨ k = y) w w' ∧ (∃ Fd', DiskAt w' d Fd' R.2 ∧ ∀ k, Fd' k → Fd k ∨ w.heap.size ≤ k) ∧
    Row w' 5 1 (.slice (some ⟨ga, 0, none⟩) nn ca) nn (bytesV (mixA B en ((i + 1) * 32))) ∧ w'.heap[y]? = some (.cells #[.bool (wr0 || dirty B en i)] 4 (0, 0))

set_option maxRecDepth 20000 in
set_option maxHeartbeats 2000000 in
theorem wipe1_any (w : World) (x y b d ga ca ep en nn i : Nat) (Fd : Nat → Prop) (D : Dk) (B : List UInt8) (vl : Value) (sf : Nat) (dead wr0 : Bool) (hx : w.cell? ⟨x, 0, none⟩ = some (.pointer (some ⟨b, 0, none⟩)))
    (hy : w.heap[y]? = some (.cells #[.bool wr0] 4 (0, 0))) (H : w.heap[b]? = some (.cells (walCells d ep (half D) (.slice (some ⟨ga, 0, none⟩) nn ca) vl sf en dead) 75 (0, 0)))
    (hrow : Row w 5 1 (.slice (some ⟨ga, 0, none⟩) nn ca) nn (bytesV (mixA B en (i * 32)))) (hnn : nn = 32 * half D) (hi : i < half D) (hD : DiskAt w d Fd D)
    (_hxF : ¬ Fd x) (hyF : ¬ Fd y) (_hbF : ¬ Fd b) (hgF : ¬ Fd ga) (hyx : y ≠ x) (hyb : y ≠ b) (hyg : y ≠ ga) (hgb : ga ≠ b) (hgx : ga ≠ x) (hfew : D.waits.length ≤ 900000) :
    Calls Try.prog 86 #[.int .i64 (i : Nat), .slice (some ⟨ga, i * 32, none⟩) 32 (ca - i * 32), .pointer (some ⟨x, 0, none⟩), .pointer (some ⟨y, 0, none⟩)] w
      (Wiped w d ga ca nn y Fd B en i wr0 (if dirty B en i then DM.write D ((WM.first D ep + i : Nat) : Int) (secOf (clean B en) i) else (0, D))) := by
  have hBl : B.length = nn := by have := hrow.1; rw [bytesV_length, mixA_length] at this; omega
  obtain ⟨R, hR⟩ : ∃ R, R = if dirty B en i then DM.write D ((WM.first D ep + i : Nat) : Int) (secOf (clean B en) i) else (0, D) := ⟨_, rfl⟩
  rw [← hR]
  have HR := hid hR
  clear hR
  have hfewD := hD.ok.few
  have hhalf : half D ≤ 1023 := by unfold half; omega
  obtain ⟨p, hp⟩ : ∃ p, p = i * 32 := ⟨_, rfl⟩
  have e1 : (i : Int) * 32 = (p : Int) := by omega
  have e2 := wi64 p (by omega)
  have H0 := hid (WipeRel.mk (w := w) (ga := ga) (ca := ca) (nn := nn) (B := B) (en := en) (i := i) (j := 0) hrow (Keep.refl _ _))
  have HH := hid (And.intro H (And.intro hx (And.intro hy hD)))
  have HP := hid (And.intro hp (And.intro hBl hnn))
  rw [← hp]
  obtain ⟨cc, hcc⟩ : ∃ cc, cc = ca - p := ⟨_, rfl⟩
  rw [← hcc]
  clear hp hBl hrow hcc hnn H hx hy
  go_enter Try.func86, Try.ntmps86
  go_wp2_with (at_builtin; refine stopAt ?_; intro q hq)
  go_loopw [7, 8, 11] (fun dv _ jv wr => ∃ j : Nat, j ≤ 32 ∧ jv = .int .i64 j ∧ dv = .bool (dirtyTo B en i j) ∧ Hid (WipeRel w ga ca nn B en i j wr)) (fun _ _ jv _ => 32 - (intOf jv).toNat)
  case atStart => exact ⟨0, Nat.zero_le _, rfl, rfl, H0⟩
  case round =>
    clear H0
    obtain ⟨j, hj, rfl, rfl, HI⟩ := hrel
    obtain ⟨h1, h2, h3, h4⟩ := HH.out
    have hh := HI.out.keep.get h1 (fun e => hgb e.symm)
    obtain ⟨i0, i1, i2, i3, i4, i5, i6, i7, if1, ib1⟩ := cells8 (show wr.heap[b]? = some (.cells #[_, _, _, _, _, _, _, _] _ (0, 0)) from hh)
    have hxr := h2
    rw [← World.cell?_of_block (HI.out.keep.block _ (World.block_lt_of_cell? _ _ h2) (fun e => hgx e.symm))] at hxr
    have Hhr := hid hh
    clear h1 h2 h3 h4 hh
    by_cases hj32 : j < 32
    · obtain ⟨hp, hBl, hnn⟩ := HP.out
      obtain ⟨q, hq⟩ : ∃ q, q = p + j := ⟨_, rfl⟩
      have hqn : q < nn := by omega
      have hrow := HI.out.row
      rw [← hp, ← hq] at hrow
      obtain ⟨u, hu⟩ : ∃ u, u = B.getD q 0 := ⟨_, rfl⟩
      have hc : wr.cell? ⟨ga, p + j, none⟩ = some (.int .u8 (u.toNat : Int)) := by
        rw [← hq, hrow.cell q (by omega)]
        have hlt : q < (mixA B en q).length := by rw [mixA_length]; omega
        have hg := mixA_getD B en q q (Nat.le_refl _) (by omega)
        rw [List.getD_eq_getElem?_getD, List.getElem?_eq_getElem hlt] at hg
        simp only [Option.getD_some] at hg
        rw [bytesV, List.getElem?_map, List.getElem?_eq_getElem hlt, hg, ← hu]
        rfl
      have hfz := hrow.frozen q (by omega)
      rw [hq] at hfz
      have q1 : (p : Int) + (j : Int) = (q : Int) := by omega
      have q2 : (j : Int) < 32 := by omega
      have q3 := wi64 q (by omega)
      have HS := hid (And.intro (dirtyTo_succ B en i j) (And.intro (mixA_succ B en q (by omega)) (And.intro (clean_getD B en q) (And.intro hrow (And.intro hq hu)))))
      have hu256 := u.toNat_lt
      have hu0 : u = 0 ↔ u.toNat = 0 := ⟨fun h => by rw [h]; rfl, fun h => UInt8.toNat_inj.1 h⟩
      have HU := hid hu0
      clear hp hBl hnn hrow hu hq hu0
      generalize hub : u.toNat = ub at *
      have HUB := hid hub
      clear hub
      -- nothing is to be done
      have stay : (q < en ∨ ub = 0) → Hid (dirtyTo B en i (j + 1) = dirtyTo B en i j ∧ WipeRel w ga ca nn B en i (j + 1) wr) := fun h => by
        obtain ⟨s1, s2, s3, s4, s5, s6⟩ := HS.out
        have hp := HP.out.1
        have hqi : 32 * i + j = q := by omega
        have hqi2 : i * 32 + (j + 1) = q + 1 := by omega
        have e0 : (clean B en).getD q 0 = B.getD q 0 := by
          rw [s3]
          rcases h with h | h
          · rw [if_pos h]
          · split
            · rfl
            · rw [← s6]; exact (HU.out.2 h).symm
        refine hid ⟨?_, ?_, HI.out.keep⟩
        · rw [s1, hqi]
          rcases h with h | h
          · rw [decide_eq_false (show ¬ en ≤ q by omega)]; simp
          · rw [← s6, HU.out.2 h]; simp
        · rw [hqi2, s2, e0]
          have hl : q < (mixA B en q).length := by rw [mixA_length]; have := HP.out.2.1; omega
          have hg := mixA_getD B en q q (Nat.le_refl _) (by have := HP.out.2.1; omega)
          have h5 := set_same (mixA B en q) q hl
          rw [hg] at h5
          rw [h5]
          exact s4
      by_cases c1 : q < en
      · have HZ := stay (.inl c1)
        have t1 : decide ((en : Int) ≤ (q : Int)) = false := decide_eq_false (by omega)
        have t2 : decide (en ≤ q) = false := decide_eq_false (by omega)
        clear stay hc hfz
        rw [← HZ.out.1]
        go_wp2_with (at_builtin; refine stopAt ?_; intro q hq)
        go_roundw
        case rel => exact ⟨j + 1, by omega, by go_num, by first | trivial | rfl, hid HZ.out.2⟩
        case measure => simp [intOf]; omega
      · by_cases c2 : ub = 0
        · have HZ := stay (.inr c2)
          have t1 : (en : Int) ≤ (q : Int) := by omega
          have t2 : ((ub : Int) != 0) = false := by simp [c2]
          have t3 : ((ub : Int) == 0) = true := by simp [c2]
          clear stay hfz
          subst c2
          rw [← HZ.out.1]
          go_wp2_with (at_builtin; refine stopAt ?_; intro q hq)
          go_roundw
          case rel => exact ⟨j + 1, by omega, by go_num, by first | trivial | rfl, hid HZ.out.2⟩
          case measure => simp [intOf]; omega
        · have t1 : (en : Int) ≤ (q : Int) := by omega
          have t2 : ((ub : Int) != 0) = true := by simp; omega
          have t3 : ((ub : Int) == 0) = false := by simp; omega
          clear stay
          go_wp2_with (at_builtin; refine stopAt ?_; intro q hq)
          have hkS : Keep (fun k => k = ga) wr (wr.setCell ⟨ga, p + j, none⟩ (.int .u8 0)) := by refine Keep.setCell (Keep.refl _ _) (.inl ?_) _; rfl
          have HZ := hid (show dirtyTo B en i (j + 1) = true ∧ WipeRel w ga ca nn B en i (j + 1) (wr.setCell ⟨ga, p + j, none⟩ (.int .u8 0)) by
            obtain ⟨s1, s2, s3, s4, s5, s6⟩ := HS.out
            have hp := HP.out.1
            have hqi : 32 * i + j = q := by omega
            have hqi2 : i * 32 + (j + 1) = q + 1 := by omega
            refine ⟨?_, ?_, HI.out.keep.next hkS (fun _ _ x => x) (fun _ _ x => x)⟩
            · rw [s1, hqi]
              have hb0 : B.getD q 0 ≠ 0 := fun e => c2 (HU.out.1 (by rw [s6]; exact e))
              have hen : en ≤ q := by omega
              rw [decide_eq_true hen, decide_eq_true hb0]
              simp
            · rw [hqi2, s2, s3, if_neg c1]
              have h5 := s4.setOne q (by have := HP.out.2; omega) (.int .u8 0) rfl
              have h6 : bytesV ((mixA B en q).set q 0) = (bytesV (mixA B en q)).set q (.int .u8 0) := (bytesV_set _ q 0 (by decide)).symm
              rw [h6, ← s5]
              exact h5)
          go_roundw
          case rel => exact ⟨j + 1, by omega, by go_num, by rw [HZ.out.1], hid HZ.out.2⟩
          case measure => simp [intOf]; omega
    · obtain rfl : j = 32 := by omega
      have hdd : dirtyTo B en i 32 = dirty B en i := rfl
      rw [hdd]
      obtain ⟨h1, h2, h3, h4⟩ := HH.out
      have hyr := HI.out.keep.get h3 (fun e => hyg e)
      have hDr := h4.keep HI.out.keep (fun k e c => by subst c; exact hgF e)
      have hrowr := HI.out.row
      rw [show i * 32 + 32 = (i + 1) * 32 by omega] at hrowr
      have hkr := HI.out.keep
      have hylt := heap_lt h3
      clear h1 h2 h3 h4 hdd
      cases hdi : dirty B en i with
      | false =>
        have hr : R = (0, D) := by rw [HR.out, hdi]; rfl
        have HW := hid (show Wiped w d ga ca nn y Fd B en i wr0 R (.returned (.int .i64 0)) wr from
          ⟨by rw [hr], hkr.mono fun _ _ x => .inr (.inl x), ⟨Fd, by rw [hr]; exact hDr, fun _ x => .inl x⟩, hrowr, by rw [hyr, hdi, Bool.or_false]⟩)
        clear hr hyr hDr hrowr hkr hdi HI
        go_wp2_with (at_builtin; refine stopAt ?_; intro q hq)
        go_ret
        exact HW.out
      | true =>
        have hr : R = DM.write D ((WM.first D ep + i : Nat) : Int) (secOf (clean B en) i) := by rw [HR.out, hdi]; rfl
        have y0 : wr.cell? ⟨y, 0, none⟩ = some (.bool wr0) := by rw [cell_of_row _ _ _ _ _ _ hyr]; rfl
        have yf : ∀ o, wr.frozen? ⟨y, o, none⟩ = false := fun o => by simp [World.frozen?, hyr]
        have HX := hid (And.intro hr (And.intro hyr (And.intro hDr (And.intro hrowr (And.intro hkr hdi)))))
        clear hr hyr hDr hrowr hkr hdi HI HR
        go_wp2_with (at_builtin; refine stopAt ?_; intro q hq)
        obtain ⟨hr, hyr, hDr, hrowr, hkr, hdi⟩ := HX.out
        have hk2 : Keep (fun k => k = y) wr (wr.setCell ⟨y, 0, none⟩ (.bool true)) := by refine Keep.setCell (Keep.refl _ _) (.inl ?_) _; rfl
        have hy2 := heap_setCell_same wr y 0 _ _ (.bool true) hyr
        obtain ⟨w2, hw2⟩ : ∃ w2, w2 = wr.setCell ⟨y, 0, none⟩ (.bool true) := ⟨_, rfl⟩
        rw [← hw2] at hk2 hy2 ⊢
        clear hw2 y0 yf i0 i1 i2 i3 i4 i5 i6 i7 if1
        have hx2 := hxr
        rw [← World.cell?_of_block (hk2.block _ (World.block_lt_of_cell? _ _ hxr) (fun e => hyx e.symm))] at hx2
        have hh2 := hk2.get Hhr.out (fun e => hyb e.symm)
        have hD2 := hDr.keep hk2 (fun k e c => by subst c; exact hyF e)
        have hrow2 := hrowr.keep hk2 (fun k e c => by simp [Value.ownBlock] at e; omega)
        obtain ⟨i0, i1, i2, i3, i4, i5, i6, i7, if1, ib2⟩ := cells8 (show w2.heap[b]? = some (.cells #[_, _, _, _, _, _, _, _] _ (0, 0)) from hh2)
        have j0 := fun s : Later w2 => s.cell hx2
        have j1 := fun s : Later w2 => s.cell i0
        have j2 := fun s : Later w2 => s.cell i1
        have HF := hid (show ∀ s : Later w2, Calls Try.prog 48 #[.pointer (some ⟨b, 0, none⟩), .int .u64 (ep : Nat)] s.val fun e w' => e = .returned (.int .i64 (2 + ep % 2 * half D : Nat)) ∧ Keep (fun _ => False) s.val w' from
          fun s => (wfirst_any s.val b d ep (half D) _ vl sf en dead (s.keep.get hh2 id) hhalf ep).mono fun e w' ⟨h1, h2⟩ => ⟨h1, by rw [h2]; exact Keep.refl _ _⟩)
        obtain ⟨q, hq⟩ : ∃ q, q = 2 + ep % 2 * half D := ⟨_, rfl⟩
        have hq2 : q ≤ 3000 := by
          have : ep % 2 = 0 ∨ ep % 2 = 1 := by omega
          rcases this with h | h <;> rw [h] at hq <;> omega
        have hfi : WM.first D ep = q := hq.symm
        rw [hfi] at hr
        rw [← hq] at HF
        obtain ⟨t, ht⟩ : ∃ t, t = q + i := ⟨_, rfl⟩
        have g1 : (q : Int) + (i : Int) = (t : Int) := by omega
        have g2 := wi64 t (by omega)
        rw [← ht] at hr
        obtain ⟨hp, hBl, hnn⟩ := HP.out
        have hcs : Cells w2 (some ⟨ga, p, none⟩) 32 1 (bytesV (secOf (clean B en) i)) := by
          obtain ⟨adx, cax, hvx, hnca, -⟩ := hrow2.form
          simp at hvx
          obtain ⟨rfl, rfl⟩ := hvx
          have h := (Cells.tail (Cells.of_row hrow2) (i * 32) (by omega) hnca (by decide)).take 32 (by omega)
          have e : tailAt (some ⟨ga, 0, none⟩) ca (i * 32) 1 = some ⟨ga, p, none⟩ := by
            unfold tailAt
            rw [if_neg (by omega)]
            simp [addr_add, hp]
          rw [e] at h
          have hsec : List.take (32 * 1) (List.drop (i * 32 * 1) (bytesV (mixA B en ((i + 1) * 32)))) = bytesV (secOf (mixA B en ((i + 1) * 32)) i) := by
            unfold secOf
            simp [bytesV, List.map_take, List.map_drop, Nat.mul_comm]
          rw [hsec, mixA_sec] at h
          exact h
        have HW := hid (show ∀ s : Later w2, Calls Try.prog 47 #[.pointer (some ⟨d, 0, none⟩), .int .i64 (t : Nat), .slice (some ⟨ga, p, none⟩) 32 cc] s.val fun e w' => e = .returned (.int .i64 R.1) ∧ DiskTo d Fd s.val R.2 w' from
          fun s => by rw [hr]; exact write_any s.val d Fd D (t : Int) _ 32 cc _ (hD2.keep s.keep fun _ _ x => x) (hcs.later s) (fun _ x hx => by cases hx; exact hgF) (by omega) (by decide) (by omega))
        have HZ := hid (And.intro hk2 (And.intro hy2 (And.intro hrow2 (And.intro hkr hdi))))
        clear hr hyr hDr hrowr hkr hdi hk2 hy2 hrow2 hD2 hcs hh2 hx2 i0 i1 i2 i3 i4 i5 i6 i7 if1 ib2 hq hfi ht hp hBl hnn HX hxr
        go_wp2_with (at_builtin; refine stopAt ?_; intro q hq)
        (refine wp_region_tail 13 (by kernel_rfl) (by kernel_rfl) ?_; simp only [List.take_succ_cons, List.take_zero, List.drop_succ_cons, List.drop_zero]; (repeat (go_big_quiet_step ((go_at_call 48; exact Later.call (HF.out _))))); refine wpQuiet_nil ?_; rintro _ ⟨sq, rfl⟩)
        clear j0 j1 j2
        go_wp2_with (at_builtin; refine stopAt ?_; intro q hq)
        refine (HW.out sq).mono ?_
        rintro e w3 ⟨rfl, ht⟩
        have HT := hid (ht.since sq.keep)
        clear ht
        go_wp2_with (at_builtin; refine stopAt ?_; intro q hq)
        go_ret
        obtain ⟨hk2, hy2, hrow2, hkr, hdi⟩ := HZ.out
        obtain ⟨F', t1, t2, t3⟩ := HT.out
        refine ⟨rfl, ((hkr.next hk2 (H := fun k => Fd k ∨ k = ga ∨ k = y) (fun _ _ x => .inr (.inl x)) (fun _ _ x => .inr (.inr x))).next t2 (fun _ _ x => x) (fun _ _ x => .inl x)), ⟨F', t1, fun k x => (t3 k x).imp id fun h => Nat.le_trans (Nat.le_trans hkr.size hk2.size) h⟩, ?_, ?_⟩
        · exact hrow2.keep t2 (fun k e x => by simp [Value.ownBlock] at e; subst e; exact hgF x)
        · rw [hdi, Bool.or_true]
          exact t2.get hy2 hyF
end Go.Proofs.Yteemekckiafnfaa
/- The program's log: a contract for wipe. Conditions: as the contract names them. -/
namespace Go.Proofs.Yteemekckiafnfaa
open Go.RowKit
open DM BM WM

theorem wipe_skip (ep : Nat) (B : List UInt8) (en : Nat) : ∀ (k i m : Nat) (wr : Bool) (D : Dk), (∀ j, i ≤ j → j < i + k → dirty B en j = false) → WM.wipe ep B en i (k + m) wr D = WM.wipe ep B en (i + k) m wr D
  | 0, i, m, wr, D, _ => by rw [Nat.zero_add, Nat.add_zero]
  | k + 1, i, m, wr, D, h => by
    rw [show k + 1 + m = (k + m) + 1 by omega, WM.wipe, h i (Nat.le_refl _) (by omega)]
    simp only
    rw [if_neg (by simp), wipe_skip ep B en k (i + 1) m wr D (fun j h1 h2 => h j (by omega) (by omega)), show i + 1 + k = i + (k + 1) by omega]
theorem wipe_waits (ep : Nat) (B : List UInt8) (en : Nat) : ∀ k i wr D, (WM.wipe ep B en i k wr D).2.2.waits.length ≤ D.waits.length + k
  | 0, i, wr, D => Nat.le_refl _
  | k + 1, i, wr, D => by
    have h := write_waits D ((WM.first D ep + i : Nat) : Int) (secOf (clean B en) i)
    rw [WM.wipe]
    split
    · simp only
      split
      · have := wipe_waits ep B en k (i + 1) true (DM.write D ((WM.first D ep + i : Nat) : Int) (secOf (clean B en) i)).2
        omega
      · show (DM.write D ((WM.first D ep + i : Nat) : Int) (secOf (clean B en) i)).2.waits.length ≤ _
        omega
    · have := wipe_waits ep B en k (i + 1) wr D
      omega
theorem wipe_len (ep : Nat) (B : List UInt8) (en : Nat) : ∀ k i wr D, (WM.wipe ep B en i k wr D).2.2.safe.length = D.safe.length
  | 0, i, wr, D => rfl
  | k + 1, i, wr, D => by
    rw [WM.wipe]
    split
    · simp only
      split
      · rw [wipe_len ep B en k, write_len]
      · exact write_len _ _ _
    · rw [wipe_len ep B en k]
theorem dirty_before (B : List UInt8) (en i : Nat) (h : i < en / 32) : dirty B en i = false := by
  unfold dirty
  rw [List.any_eq_false]
  intro k hk
  rw [List.mem_range] at hk
  simp
  intro h2
  omega

/-- wipe, with its sync. -/
def wipeS (ep : Nat) (B : List UInt8) (en : Nat) (D : Dk) : Int × Dk :=
  let r := WM.wipe ep B en 0 (half D) false D
  if r.1 = 0 ∧ r.2.1 = true then DM.sync r.2.2 else (r.1, r.2.2)

def WipeTo (w : World) (d ga ca nn : Nat) (Fd : Nat → Prop) (B : List UInt8) (en : Nat) (Y : Int × Dk) (e : Ending) (w' : World) : Prop :=
  e = .returned (.int .i64 Y.1) ∧ Keep (fun k => Fd k ∨ k = ga) w w' ∧ (∃ Fd', DiskAt w' d Fd' Y.2 ∧ ∀ k, Fd' k → Fd k ∨ w.heap.size ≤ k) ∧
    (Y.1 = 0 → Row w' 5 1 (.slice (some ⟨ga, 0, none⟩) nn ca) nn (bytesV (clean B en)))

set_option maxRecDepth 20000 in
set_option maxHeartbeats 2000000 in
theorem wipe_any (w : World) (b d ga ca ep en nn : Nat) (Fd : Nat → Prop) (D : Dk) (B : List UInt8) (vl : Value) (sf : Nat)
    (H : w.heap[b]? = some (.cells (walCells d ep (half D) (.slice (some ⟨ga, 0, none⟩) nn ca) vl sf en false) 75 (0, 0)))
    (hrow : Row w 5 1 (.slice (some ⟨ga, 0, none⟩) nn ca) nn (bytesV B)) (hnn : nn = 32 * half D) (hen : en ≤ nn) (hD : DiskAt w d Fd D)
    (hbF : ¬ Fd b) (hgF : ¬ Fd ga) (hgb : ga ≠ b) (hfew : D.waits.length ≤ 800000) :
    Calls Try.prog 69 #[.pointer (some ⟨b, 0, none⟩)] w (WipeTo w d ga ca nn Fd B en (wipeS ep B en D)) := by
  have hBl : B.length = nn := by have := hrow.1; rw [bytesV_length] at this; omega
  have hfewD := hD.ok.few
  have hhalf : half D ≤ 1023 := by unfold half; omega
  obtain ⟨adx, cax, hvx, hnca, hca, -⟩ := hrow.form
  simp at hvx
  obtain ⟨rfl, rfl⟩ := hvx
  have hblt := heap_lt H
  have hglt := hrow.lt (k := ga) (by simp [Value.ownBlock])
  have hDlt := hD.lt
  -- the two variables that are handed over
  obtain ⟨w1, hw1⟩ : ∃ w1, w1 = (w.alloc (.cells #[.pointer (some ⟨b, 0, none⟩)] 28)).alloc (.cells #[.bool false] 4) := ⟨_, rfl⟩
  have hk1 : Keep (fun _ => False) w w1 := by rw [hw1]; exact ((Keep.refl _ _).alloc _).alloc _
  have hsz : (w.alloc (.cells #[.pointer (some ⟨b, 0, none⟩)] 28)).heap.size = w.heap.size + 1 := by simp
  have hx1 : w1.cell? ⟨w.heap.size, 0, none⟩ = some (.pointer (some ⟨b, 0, none⟩)) := by
    have h1 := heap_alloc_new w (.cells #[.pointer (some ⟨b, 0, none⟩)] 28)
    have h2 := ((Keep.refl (fun _ => False) (w.alloc (.cells #[.pointer (some ⟨b, 0, none⟩)] 28))).alloc (.cells #[.bool false] 4)).get h1 id
    rw [hw1, cell_of_row _ _ _ _ _ _ h2]
    rfl
  have hy1 : w1.heap[w.heap.size + 1]? = some (.cells #[.bool false] 4 (0, 0)) := by
    have h1 := heap_alloc_new (w.alloc (.cells #[.pointer (some ⟨b, 0, none⟩)] 28)) (.cells #[.bool false] 4)
    rw [hsz] at h1
    rw [hw1]; exact h1
  have hs1 : w1.heap.size = w.heap.size + 2 := by rw [hw1]; simp
  obtain ⟨x, hx⟩ : ∃ x, x = w.heap.size := ⟨_, rfl⟩
  rw [← hx] at hx1 hy1
  obtain ⟨y, hy⟩ : ∃ y, y = x + 1 := ⟨_, rfl⟩
  rw [← hy] at hy1
  have hh1 := hk1.get H id
  have hr1 := hrow.keep hk1 fun _ _ x => x
  have hD1 := hD.keep hk1 fun _ _ x => x
  have hxF : ¬ Fd x := fun h => by have := hDlt x h; omega
  have hyF : ¬ Fd y := fun h => by have := hDlt y h; omega
  have hskip : WM.wipe ep B en 0 (half D) false D = WM.wipe ep B en (en / 32) (half D - en / 32) false D := by
    have h := wipe_skip ep B en (en / 32) 0 (half D - en / 32) false D (fun j _ h2 => dirty_before B en j (by omega))
    rwa [show en / 32 + (half D - en / 32) = half D by omega, Nat.zero_add] at h
  obtain ⟨i0, i1, i2, i3, i4, i5, i6, i7, if1, ib1⟩ := cells8 (show w1.heap[b]? = some (.cells #[_, _, _, _, _, _, _, _] _ (0, 0)) from hh1)
  have heach := each_any w1.drew b 86 #[.pointer (some ⟨x, 0, none⟩), .pointer (some ⟨y, 0, none⟩)] en (en / 32) (half D) nn nn ca (.slice (some ⟨ga, 0, none⟩) nn ca)
    (fun i wr => en / 32 ≤ i ∧ i ≤ half D ∧ ∃ F' D' wf, WM.wipe ep B en 0 (half D) false D = WM.wipe ep B en i (half D - i) wf D' ∧ Keep (fun k => Fd k ∨ k = ga ∨ k = y) w1 wr ∧ DiskAt wr d F' D' ∧ (∀ k, F' k → Fd k ∨ w1.heap.size ≤ k) ∧ D'.safe.length = D.safe.length ∧ D'.waits.length ≤ D.waits.length + (i - en / 32) ∧
      Row wr 5 1 (.slice (some ⟨ga, 0, none⟩) nn ca) nn (bytesV (mixA B en (i * 32))) ∧ wr.heap[y]? = some (.cells #[.bool wf] 4 (0, 0)))
    (fun c wr => ∃ F' D', WM.wipe ep B en 0 (half D) false D = (c, true, D') ∧ Keep (fun k => Fd k ∨ k = ga ∨ k = y) w1 wr ∧ DiskAt wr d F' D' ∧ (∀ k, F' k → Fd k ∨ w1.heap.size ≤ k) ∧ wr.heap[y]? = some (.cells #[.bool true] 4 (0, 0)))
    rfl (fun i => by omega) (by omega) (by omega) hnca hca (by omega) (Nat.le_refl _) (by omega) (some ⟨ga, 0, none⟩) rfl ?_ ?_
    (enters_of Try.func86 (by kernel_rfl) rfl) ?_
  · have HE := hid heach
    obtain ⟨Y, hY⟩ : ∃ Y, Y = wipeS ep B en D := ⟨_, rfl⟩
    rw [← hY]
    have HY := hid hY
    obtain ⟨Post, hPost⟩ : ∃ Post, Post = WipeTo w d ga ca nn Fd B en Y := ⟨_, rfl⟩
    have fin : ∀ wX, WipeTo w d ga ca nn Fd B en Y (.returned (.int .i64 Y.1)) wX → Post (.returned (.int .i64 Y.1)) wX := fun wX h => by rw [hPost]; exact h
    rw [← hPost]
    have Fin := hid fin
    clear fin hPost
    have H1 := hid (And.intro hk1 (And.intro hs1 (And.intro hx (And.intro hy (And.intro hh1 (And.intro hx1 hy1))))))
    have HNN := hid hnn
    clear hnn heach hY hskip hk1 hs1 hh1 hr1 hD1 hD hrow H hsz
    go_enter Try.func69, Try.ntmps69
    go_wp2_with (at_builtin; refine stopAt ?_; intro q hq)
    rw [← hw1, ← hx, ← hy]
    clear hw1 hx hy
    obtain ⟨Z, hZ⟩ : ∃ Z, Z = WM.wipe ep B en 0 (half D) false D := ⟨_, rfl⟩
    -- what each leaves, in one form
    have he2 : Calls Try.prog 45 #[.pointer (some ⟨b, 0, none⟩), .int .i64 (en : Nat), .int .i64 (nn : Nat), .func (.func 86) #[] #[.pointer (some ⟨x, 0, none⟩), .pointer (some ⟨y, 0, none⟩)]] w1.drew fun e w' =>
        e = .returned (.int .i64 Z.1) ∧ (w'.cell? ⟨x, 0, none⟩ = some (.pointer (some ⟨b, 0, none⟩)) ∧ w'.cell? ⟨b, 3, none⟩ = some (.slice (some ⟨ga, 0, none⟩) nn ca) ∧ w'.cell? ⟨b, 6, none⟩ = some (.int .i64 (en : Nat))) ∧
          Hid (Keep (fun k => Fd k ∨ k = ga ∨ k = y) w1 w' ∧ (∃ F', DiskAt w' d F' Z.2.2 ∧ (∀ k, F' k → Fd k ∨ w1.heap.size ≤ k) ∧ Z.2.2.waits.length ≤ 900000) ∧ w'.heap[y]? = some (.cells #[.bool Z.2.1] 4 (0, 0)) ∧ (Z.1 = 0 → Row w' 5 1 (.slice (some ⟨ga, 0, none⟩) nn ca) nn (bytesV (clean B en)))) := by
      refine HE.out.mono ?_
      have hnn := HNN.out
      rintro e w' ⟨c, rfl, g1, g2⟩
      have key : Keep (fun k => Fd k ∨ k = ga ∨ k = y) w1 w' → (w'.cell? ⟨x, 0, none⟩ = some (.pointer (some ⟨b, 0, none⟩)) ∧ w'.cell? ⟨b, 3, none⟩ = some (.slice (some ⟨ga, 0, none⟩) nn ca) ∧ w'.cell? ⟨b, 6, none⟩ = some (.int .i64 (en : Nat))) := fun hk => by
        obtain ⟨-, hs1, hx, hy, -, hx1, -⟩ := H1.out
        refine ⟨?_, ?_, ?_⟩
        · rw [World.cell?_of_block (hk.block _ (World.block_lt_of_cell? _ _ hx1) (fun h => by rcases h with h | h | h; exact hxF h; (have h' : x = ga := h; omega); (have h' : x = y := h; omega)))]; exact hx1
        · rw [World.cell?_of_block (hk.block _ ib1 (fun h => by rcases h with h | h | h; exact hbF h; exact hgb h.symm; (have h' : b = y := h; omega)))]; exact i3
        · rw [World.cell?_of_block (hk.block _ ib1 (fun h => by rcases h with h | h | h; exact hbF h; exact hgb h.symm; (have h' : b = y := h; omega)))]; exact i6
      by_cases h0 : c = 0
      · obtain ⟨_, _, F', D', wf, hl, hkp, hD', hF', hs', hw', hrow', hy'⟩ := g1 h0
        rw [Nat.sub_self] at hl
        have hz : Z = (0, wf, D') := by rw [hZ, hl]; rfl
        rw [hz, h0]
        refine ⟨rfl, key hkp, hid ⟨hkp, ⟨F', hD', hF', by show D'.waits.length ≤ _; omega⟩, hy', fun _ => ?_⟩⟩
        rw [show half D * 32 = nn by omega] at hrow'
        rw [← mixA_all, hBl]
        exact hrow'
      · obtain ⟨F', D', hl, hkp, hD', hF', hy'⟩ := g2 h0
        have hz : Z = (c, true, D') := by rw [hZ, hl]
        rw [hz]
        refine ⟨rfl, key hkp, hid ⟨hkp, ⟨F', hD', hF', ?_⟩, hy', fun h => absurd h h0⟩⟩
        have := wipe_waits ep B en (half D) 0 false D
        rw [hl] at this
        show D'.waits.length ≤ _
        have h9 : D'.waits.length ≤ D.waits.length + half D := this
        omega
    have HE2 := hid he2
    have HY2 := hid (show Y = if Z.1 = 0 ∧ Z.2.1 = true then DM.sync Z.2.2 else (Z.1, Z.2.2) by rw [hZ]; exact HY.out)
    have hx1 := H1.out.2.2.2.2.2.1
    clear HE he2 hZ HY i0 i1 i2 i4 i5 i7 if1
    clear hDlt hxF hyF hfewD hBl
    go_region_held3 (fun w' => w'.cell? ⟨x, 0, none⟩ = some (.pointer (some ⟨b, 0, none⟩)) ∧ w'.cell? ⟨b, 3, none⟩ = some (.slice (some ⟨ga, 0, none⟩) nn ca) ∧ w'.cell? ⟨b, 6, none⟩ = some (.int .i64 (en : Nat)))
      (first | exact ⟨hx1, i3, i6⟩ | assumption)
      (first | (go_simp; go_at_call 45; refine HE2.out.mono ?_; rintro e w2 ⟨rfl, hz2, HZ2⟩; go_simp))
    obtain ⟨hk1, hs1, hx, hy, hh1, -, hy1⟩ := H1.out
    obtain ⟨zk, ⟨F2, zD, zF, zw⟩, zy, zr⟩ := HZ2.out
    have y0 : w2.cell? ⟨y, 0, none⟩ = some (.bool Z.2.1) := by rw [cell_of_row _ _ _ _ _ _ zy]; rfl
    have d0 : w2.cell? ⟨b, 0, none⟩ = some (.pointer (some ⟨d, 0, none⟩)) := by
      rw [World.cell?_of_block (zk.block _ ib1 (fun h => by rcases h with h | h | h; exact hbF h; exact hgb h.symm; (have h' : b = y := h; omega)))]
      rw [cell_of_row _ _ _ _ _ _ hh1]; rfl
    have x0 := hz2.1
    have hk02 : Keep (fun k => Fd k ∨ k = ga) w w2 := hk1.next zk (fun _ _ x => x.elim) (fun k hk x => by
      rcases x with x | x | x
      · exact .inl x
      · exact .inr x
      · have h' : k = y := x
        omega)
    have hF02 : ∀ k, F2 k → Fd k ∨ w.heap.size ≤ k := fun k x => (zF k x).imp id fun h => by omega
    have HW2 := hid (And.intro hk02 (And.intro zD (And.intro hF02 (And.intro zr zw))))
    clear zk zD zF zw zy zr hk02 hF02 hk1 hs1 hx hy hh1 hy1 hz2 HZ2
    by_cases z0 : Z.1 = 0
    rotate_left
    · have hy : Y = (Z.1, Z.2.2) := by rw [HY2.out, if_neg (fun h => z0 h.1)]
      have hf := Fin.out w2 (by rw [hy]; exact ⟨rfl, HW2.out.1, ⟨F2, HW2.out.2.1, HW2.out.2.2.1⟩, fun h => absurd h z0⟩)
      rw [hy] at hf
      have HF := hid hf
      have u1 : (Z.1 == 0) = false := by simp [z0]
      have u3 : decide (Z.1 = 0) = false := by simp [z0]
      clear hf hy z0
      go_wp2_with (at_builtin; refine stopAt ?_; intro q hq)
      exact HF.out
    · rw [z0]
      cases hwf : Z.2.1 with
      | false =>
        have hy : Y = (0, Z.2.2) := by rw [HY2.out, if_neg (by rw [hwf]; simp), z0]
        have hf := Fin.out w2 (by rw [hy]; exact ⟨rfl, HW2.out.1, ⟨F2, HW2.out.2.1, HW2.out.2.2.1⟩, fun _ => HW2.out.2.2.2.1 z0⟩)
        rw [hy] at hf
        have HF := hid hf
        rw [hwf] at y0
        clear hf hy z0
        go_wp2_with (at_builtin; refine stopAt ?_; intro q hq)
        exact HF.out
      | true =>
        have hy : Y = DM.sync Z.2.2 := by rw [HY2.out, if_pos ⟨z0, hwf⟩]
        rw [hwf] at y0
        have Hz0 := hid z0
        have HYs := hid hy
        clear z0 hy
        go_wp2_with (at_builtin; refine stopAt ?_; intro q hq)
        refine (sync_any w2 d F2 Z.2.2 HW2.out.2.1 (by have := HW2.out.2.2.2.2; omega)).mono ?_
        rintro e w3 ⟨rfl, F3, s1, s2, s3⟩
        have hgF2 : ¬ F2 ga := fun h => (HW2.out.2.2.1 ga h).elim hgF fun h => by omega
        have hf := Fin.out w3 (by
          rw [HYs.out]
          refine ⟨rfl, HW2.out.1.next s2 (fun _ _ x => x) (fun k hk x => (HW2.out.2.2.1 k x).elim .inl fun h => by omega), ⟨F3, s1, fun k x => (s3 k x).elim (HW2.out.2.2.1 k) fun h => .inr (Nat.le_trans HW2.out.1.size h)⟩, fun _ => (HW2.out.2.2.2.1 Hz0.out).keep s2 fun k e x => ?_⟩
          simp [Value.ownBlock] at e
          subst e
          exact hgF2 x)
        rw [HYs.out] at hf
        have HF := hid hf
        clear hf s1 s2 s3
        go_wp2_with (at_builtin; refine stopAt ?_; intro q hq)
        exact HF.out
  · rintro i wr ⟨_, _, F', D', wf, _, hkp, _⟩
    rw [World.cell?_of_block (hkp.block b ib1 (by rintro (h | h | h); exact hbF h; exact hgb h.symm; omega))]
    exact i3
  · exact ⟨Nat.le_refl _, by omega, Fd, D, false, hskip, (Keep.refl _ _).drew, hD1.keep (Keep.refl (fun _ => False) _).drew (fun _ _ x => x), fun _ x => .inl x, rfl, by omega, by rw [mixA_zero _ _ _ (by omega)]; exact hr1.keep (F := fun _ => False) (Keep.refl _ _).drew (fun _ _ x => x), hy1⟩
  · rintro i wr hi1 hi2 ⟨_, _, F', D', wf, hl, hkp, hD', hF', hs', hw', hrow', hy'⟩
    have hhl := half_len hs'
    have hxr : wr.cell? ⟨x, 0, none⟩ = some (.pointer (some ⟨b, 0, none⟩)) := by
      rw [World.cell?_of_block (hkp.block _ (World.block_lt_of_cell? _ _ hx1) (fun h => by rcases h with h | h | h; exact hxF h; (have h' : x = ga := h; omega); (have h' : x = y := h; omega)))]; exact hx1
    have hhr := hkp.get hh1 (by rintro (h | h | h); exact hbF h; exact hgb h.symm; omega)
    rw [← hhl] at hhr
    have nF : ∀ k, ¬ Fd k → k < w1.heap.size → ¬ F' k := fun k h1 h2 h3 => (hF' k h3).elim h1 fun h => by omega
    have hcall := wipe1_any wr x y b d ga ca ep en nn i F' D' B vl sf false wf hxr hy' hhr hrow' (by rw [hhl]; exact hnn) (by rw [hhl]; exact hi2) hD'
      (nF x hxF (by omega)) (nF y hyF (by omega)) (nF b hbF ib1) (nF ga hgF (by omega)) (by omega) (by omega) (by omega) hgb (by omega) (by omega)
    have ht : tailAt (some ⟨ga, 0, none⟩) ca (i * 32) 1 = some ⟨ga, i * 32, none⟩ := by
      unfold tailAt
      rw [if_neg (by omega)]
      simp [addr_add]
    rw [ht]
    refine hcall.mono ?_
    rintro e w' ⟨rfl, hk2, ⟨F2, hD2, hF2⟩, hrow2, hy2⟩
    obtain ⟨j, hj⟩ : ∃ j, half D - i = j + 1 := ⟨half D - i - 1, by omega⟩
    have hkw : Keep (fun k => Fd k ∨ k = ga ∨ k = y) w1 w' := hkp.next hk2 (fun _ _ x => x) fun k hk x => by
      rcases x with x | x
      · rcases hF' k x with z | z
        · exact .inl z
        · omega
      · exact .inr x
    have hFw : ∀ k, F2 k → Fd k ∨ w1.heap.size ≤ k := fun k x => (hF2 k x).elim (hF' k) fun z => .inr (Nat.le_trans hkp.size z)
    rw [first_len hs'] at hD2 ⊢
    cases hdi : dirty B en i with
    | false =>
      rw [hdi] at hD2 hy2
      rw [if_neg (by simp)] at hD2 ⊢
      rw [Bool.or_false] at hy2
      refine ⟨0, rfl, fun _ => ⟨by omega, by omega, F2, D', wf, ?_, hkw, hD2, hFw, hs', by omega, hrow2, hy2⟩, fun h => absurd rfl h⟩
      rw [hl, hj, WM.wipe, hdi]
      simp only
      rw [if_neg (by simp), show half D - (i + 1) = j by omega]
    | true =>
      rw [hdi] at hD2 hy2
      rw [if_pos rfl] at hD2 ⊢
      rw [Bool.or_true] at hy2
      have hst : WM.wipe ep B en i (half D - i) wf D' = if (DM.write D' ((WM.first D ep + i : Nat) : Int) (secOf (clean B en) i)).1 = 0 then WM.wipe ep B en (i + 1) j true (DM.write D' ((WM.first D ep + i : Nat) : Int) (secOf (clean B en) i)).2 else ((DM.write D' ((WM.first D ep + i : Nat) : Int) (secOf (clean B en) i)).1, true, (DM.write D' ((WM.first D ep + i : Nat) : Int) (secOf (clean B en) i)).2) := by
        rw [hj, WM.wipe, hdi, first_len hs']; rfl
      have hwl := write_len D' ((WM.first D ep + i : Nat) : Int) (secOf (clean B en) i)
      have hww := write_waits D' ((WM.first D ep + i : Nat) : Int) (secOf (clean B en) i)
      refine ⟨_, rfl, fun h0 => ⟨by omega, by omega, F2, _, true, ?_, hkw, hD2, hFw, by rw [hwl]; exact hs', by omega, hrow2, hy2⟩, fun h0 => ⟨F2, _, ?_, hkw, hD2, hFw, hy2⟩⟩
      · rw [hl, hst, if_pos h0, show half D - (i + 1) = j by omega]
      · rw [hl, hst, if_neg h0]
end Go.Proofs.Yteemekckiafnfaa
/- The program's log: a contract for Open. Conditions: as the contract names them. -/
namespace Go.Proofs.Yteemekckiafnfaa
open Go.RowKit
open DM BM WM

theorem max64_any (w : World) (a b : Nat) : (Builtin.max_ #[60, 60] 60 #[.int .u64 (a : Int), .int .u64 (b : Int)]).run Try.prog w = .ok (.int .u64 ((max a b : Nat) : Int)) w := by
  rcases Nat.lt_or_ge a b with q | q
  · rw [Nat.max_eq_right (by omega)]
    simp [Builtin.max_, Builtin.max2]
    omega
  · rw [Nat.max_eq_left q]
    simp [Builtin.max_, Builtin.max2]
    omega

/-- The epoch behind i of the two heads. -/
def epTo (D : Dk) : Nat → Nat
  | 0 => 0
  | i + 1 => max (epTo D i) ((WM.head D i).getD 0)
theorem epTo_two (D : Dk) : epTo D 2 = epoch D := by simp [epTo, epoch]
theorem head_lt {D : Dk} {i n : Nat} (h : WM.head D i = some n) : n < 4611686018427387904 := by
  unfold WM.head at h
  split at h
  · cases h
  · split at h
    · cases h
    · split at h
      · cases h
      · split at h
        · rename_i hc
          cases h
          exact hc.2.1
        · cases h
theorem epTo_lt (D : Dk) : ∀ i, epTo D i < 4611686018427387904
  | 0 => by show 0 < _; decide
  | i + 1 => by
    have h1 := epTo_lt D i
    have h2 : (WM.head D i).getD 0 < 4611686018427387904 := by
      cases h : WM.head D i with
      | none => decide
      | some n => exact head_lt h
    unfold epTo
    omega

/-- The bytes of the first i sectors. -/
def bytesTo (D : Dk) (ep i : Nat) : List UInt8 := ((List.range i).map fun i => (DM.read D ((WM.first D ep + i : Nat) : Int)).1).flatten
theorem bytesTo_succ (D : Dk) (ep i : Nat) : bytesTo D ep (i + 1) = bytesTo D ep i ++ (DM.read D ((WM.first D ep + i : Nat) : Int)).1 := by simp [bytesTo, List.range_succ]
theorem first_lt {D : Dk} (ep i : Nat) (h6 : 6 ≤ D.safe.length) (hi : i < half D) : WM.first D ep + i < D.safe.length := by
  unfold WM.first
  unfold half at *
  have : ep % 2 = 0 ∨ ep % 2 = 1 := by omega
  rcases this with h | h <;> rw [h] <;> omega
theorem bytesTo_length {D : Dk} (ep : Nat) (h6 : 6 ≤ D.safe.length) (hd : D.down = false) (ok : Ok D) : ∀ i, i ≤ half D → (bytesTo D ep i).length = 32 * i
  | 0, _ => rfl
  | i + 1, hi => by
    rw [bytesTo_succ, List.length_append, bytesTo_length ep h6 hd ok i (by omega), (read_one D _ hd (first_lt ep i h6 (by omega)) ok).2]
    omega
theorem clean_area {D : Dk} {B : List UInt8} (hB : B.length = 32 * half D) : clean B (scan B (B.length + 1) 0).2 = areaH (half D) (scan B (B.length + 1) 0).1 := by
  obtain ⟨h1, h2, h3, -⟩ := scan_spec B (B.length + 1) 0 (Nat.zero_le _)
  unfold clean areaH
  rw [List.drop_zero] at h3
  rw [h1, Nat.zero_add, h3, hB]

theorem wipeS_len (ep : Nat) (B : List UInt8) (en : Nat) (D : Dk) : (wipeS ep B en D).2.safe.length = D.safe.length := by
  unfold wipeS
  simp only
  split
  · rw [sync_len, wipe_len]
  · exact wipe_len _ _ _ _ _ _ _

/-- What Open leaves. -/
def OpenTo (d : Nat) (Fd : Nat → Prop) (w : World) (R : Int × Option Lg × Dk) (e : Ending) (w' : World) : Prop :=
  match R.2.1 with
  | none => e = .returned (.tuple #[.pointer none, .int .i64 R.1]) ∧ DiskTo d Fd w R.2.2 w'
  | some g => ∃ b F Fd', e = .returned (.tuple #[.pointer (some ⟨b, 0, none⟩), .int .i64 R.1]) ∧ LogAt w' b d F Fd' R.2.2 g ∧ Keep Fd w w' ∧ (∀ k, F k → w.heap.size ≤ k) ∧ ∀ k, Fd' k → Fd k ∨ w.heap.size ≤ k

set_option maxRecDepth 20000 in
theorem open_nil (w : World) : Calls Try.prog 38 #[.pointer none] w fun e w' => e = .returned (.tuple #[.pointer none, .int .i64 1]) ∧ w' = w := by
  go_enter Try.func38, Try.ntmps38
  go_wp2_with (at_builtin; refine stopAt ?_; intro q hq)
  go_ret2
  exact ⟨rfl, rfl⟩

structure OpRel (w : World) (b d ep h ga ca nn : Nat) (bs : List UInt8) (wr : World) : Prop where
  head : wr.heap[b]? = some (.cells (walCells d ep h (.slice (some ⟨ga, 0, none⟩) nn ca) (.slice none 0 0) 0 0 false) 75 (0, 0))
  row : Row wr 5 1 (.slice (some ⟨ga, 0, none⟩) nn ca) nn (bytesV bs)
  keep : Keep (fun _ => False) w wr

set_option maxRecDepth 20000 in
set_option maxHeartbeats 2000000 in
theorem open_any (w : World) (d : Nat) (Fd : Nat → Prop) (D : Dk) (hD : DiskAt w d Fd D) (hfew : D.waits.length ≤ 800000) :
    Calls Try.prog 38 #[.pointer (some ⟨d, 0, none⟩)] w (OpenTo d Fd w (openW D)) := by
  obtain ⟨R, hR⟩ : ∃ R, R = openW D := ⟨_, rfl⟩
  rw [← hR]
  have no : ∀ c, R = (c, none, D) → ∀ w', Keep (fun _ => False) w w' → OpenTo d Fd w R (.returned (.tuple #[.pointer none, .int .i64 c])) w' := fun c h w' hk => by
    rw [h]
    exact ⟨rfl, Fd, hD.keep hk fun _ _ x => x, hk.mono fun _ _ x => x.elim, fun _ x => .inl x⟩
  obtain ⟨Post, hPost⟩ : ∃ Post, Post = OpenTo d Fd w R := ⟨_, rfl⟩
  have HPost := hid hPost
  rw [← hPost] at no ⊢
  have No := hid no
  have HR := hid hR
  have HD := hid hD
  clear no hR hD hPost
  have hfewD := HD.out.ok.few
  obtain ⟨ns, hns⟩ : ∃ ns, ns = D.safe.length := ⟨_, rfl⟩
  by_cases h6 : ns < 6
  · have hN := No.out 40 (by rw [HR.out]; unfold openW; rw [if_pos (by omega)]) w (Keep.refl _ _)
    have HN := hid hN
    have q1 : (ns : Int) < 6 := by omega
    have hsec := sectors_any w d Fd D HD.out
    rw [← hns] at hsec
    clear hN hns
    go_enter Try.func38, Try.ntmps38
    go_wp2_with (at_builtin; refine stopAt ?_; intro q hq)
    refine hsec.mono ?_
    rintro e w2 ⟨rfl, rfl⟩
    go_wp2_with (at_builtin; refine stopAt ?_; intro q hq)
    exact HN.out
  cases hd : D.down with
  | true =>
    have hN := No.out 6 (by rw [HR.out]; unfold openW; rw [if_neg (by omega), if_pos hd]) w (Keep.refl _ _)
    have HN := hid hN
    have q1 : ¬ (ns : Int) < 6 := by omega
    have hsec := sectors_any w d Fd D HD.out
    have hup := up_any w d Fd D HD.out
    rw [← hns] at hsec
    rw [hd] at hup
    clear hN hns
    go_enter Try.func38, Try.ntmps38
    go_wp2_with (at_builtin; refine stopAt ?_; intro q hq)
    refine hsec.mono ?_
    rintro e w2 ⟨rfl, rfl⟩
    go_wp2_with (at_builtin; refine stopAt ?_; intro q hq)
    refine hup.mono ?_
    rintro e w2 ⟨rfl, rfl⟩
    go_wp2_with (at_builtin; refine stopAt ?_; intro q hq)
    exact HN.out
  | false =>
    have q1 : ¬ (ns : Int) < 6 := by omega
    have hsec := sectors_any w d Fd D HD.out
    have hup := up_any w d Fd D HD.out
    rw [← hns] at hsec
    rw [hd] at hup
    obtain ⟨h, hh⟩ : ∃ h, h = half D := ⟨_, rfl⟩
    have hh2 : h = (ns - 2) / 2 := by rw [hh, hns]; rfl
    obtain ⟨n2, hn2⟩ : ∃ n2, n2 = ns - 2 := ⟨_, rfl⟩
    have q2 : (ns : Int) - 2 = (n2 : Int) := by omega
    have q3 : (n2 : Int).tdiv 2 = (h : Int) := by rw [Int.tdiv_eq_ediv_of_nonneg (by omega)]; omega
    have q4 : (n2 : Int) / 2 = (h : Int) := by omega
    have q5 := wi64 n2 (by omega)
    have q6 := wi64 h (by omega)
    have hH := hid (And.intro hh (And.intro hh2 hn2))
    have hns6 : 6 ≤ D.safe.length := by omega
    have hh1023 : h ≤ 1023 := by omega
    have Hns := hid hns
    clear hh hh2 hn2 hns
    go_enter Try.func38, Try.ntmps38
    go_wp2_with (at_builtin; refine stopAt ?_; intro q hq)
    refine hsec.mono ?_
    rintro e w2 ⟨rfl, rfl⟩
    go_wp2_with (at_builtin; refine stopAt ?_; intro q hq)
    refine hup.mono ?_
    rintro e w2 ⟨rfl, rfl⟩
    go_wp2_with (at_builtin; refine stopAt ?_; intro q hq)
    refine hsec.mono ?_
    rintro e w2 ⟨rfl, rfl⟩
    go_wp2_with (at_builtin; refine stopAt ?_; intro q hq)
    have hh1 := heap_alloc_new w (.cells #[.pointer (some ⟨d, 0, none⟩), .int .u64 0, .int .i64 (h : Nat), .slice none 0 0, .slice none 0 0, .int .i64 0, .int .i64 0, .bool false] 75)
    have hk1 : Keep (fun _ => False) w (w.alloc (.cells #[.pointer (some ⟨d, 0, none⟩), .int .u64 0, .int .i64 (h : Nat), .slice none 0 0, .slice none 0 0, .int .i64 0, .int .i64 0, .bool false] 75)) := (Keep.refl _ _).alloc _
    obtain ⟨w1, hw1⟩ : ∃ w1, w1 = w.alloc (.cells #[.pointer (some ⟨d, 0, none⟩), .int .u64 0, .int .i64 (h : Nat), .slice none 0 0, .slice none 0 0, .int .i64 0, .int .i64 0, .bool false] 75) := ⟨_, rfl⟩
    obtain ⟨b, hb⟩ : ∃ b, b = w.heap.size := ⟨_, rfl⟩
    rw [← hw1] at hh1 hk1 ⊢
    rw [← hb] at hh1 ⊢
    have H0 := hid (show w1.heap[b]? = some (.cells (walCells d (epTo D 0) h (.slice none 0 0) (.slice none 0 0) 0 0 false) 75 (0, 0)) ∧ Keep (fun _ => False) w w1 from ⟨hh1, hk1⟩)
    have Hb := hid hb
    have HS := hid (And.intro hsec hup)
    clear hw1 hh1 hk1 hb hsec hup q1 q2 q3 q4 q5
    go_loopw [5, 6, 7, 30] (fun _ _ _ iv wr => ∃ i : Nat, i ≤ 2 ∧ iv = .int .i64 i ∧ Hid (wr.heap[b]? = some (.cells (walCells d (epTo D i) h (.slice none 0 0) (.slice none 0 0) 0 0 false) 75 (0, 0)) ∧ Keep (fun _ => False) w wr)) (fun _ _ _ iv _ => 2 - (intOf iv).toNat)
    case atStart => exact ⟨0, by decide, rfl, H0⟩
    case round =>
      clear H0
      obtain ⟨i, hi, rfl, HI⟩ := hrel
      by_cases hi2 : i < 2
      · have t1 : (i : Int) < 2 := by omega
        have hhead := head_any wr d Fd D i (HD.out.keep HI.out.2 fun _ _ x => x) hd (by omega) hi2
        go_wp2_with (at_builtin; refine stopAt ?_; intro q hq)
        refine hhead.mono ?_
        clear hhead
        rintro e w2 ⟨n, rfl, hn, hk2⟩
        have hh2 := hk2.get HI.out.1 id
        obtain ⟨i0, i1, i2, i3, i4, i5, i6, i7, if1, ib1⟩ := cells8 (show w2.heap[b]? = some (.cells #[_, _, _, _, _, _, _, _] _ (0, 0)) from hh2)
        have hk02 : Keep (fun _ => False) w w2 := HI.out.2.next hk2 (fun _ _ x => x) (fun _ _ x => x)
        have H2 := hid (And.intro hh2 hk02)
        clear hh2 hk02 hk2
        cases hm : WM.head D i with
        | none =>
          have he : epTo D (i + 1) = epTo D i := by simp [epTo, hm]
          have HZ := hid (show w2.heap[b]? = some (.cells (walCells d (epTo D (i + 1)) h (.slice none 0 0) (.slice none 0 0) 0 0 false) 75 (0, 0)) ∧ Keep (fun _ => False) w w2 by rw [he]; exact H2.out)
          clear hm hn he
          rw [show (none : Option Nat).isSome = false from rfl]
          go_wp2_with (at_builtin; refine stopAt ?_; intro q hq)
          go_roundw
          case rel => exact ⟨i + 1, by omega, by go_num, HZ⟩
          case measure => simp [intOf]; omega
        | some m =>
          have hnm : n = m := hn m hm
          have he : epTo D (i + 1) = max (epTo D i) n := by simp [epTo, hm, hnm]
          have He := hid he
          have hmx := fun w : World => max64_any w (epTo D i) n
          obtain ⟨ep, hep⟩ : ∃ ep, ep = epTo D i := ⟨_, rfl⟩
          rw [← hep] at hmx i1 H2 He
          clear hm hn he hnm hep
          rw [show (some m : Option Nat).isSome = true from rfl]
          go_wp2_with (at_builtin; refine stopAt ?_; intro q hq)
          have hk3 : Keep (fun k => k = b) w2 (w2.setCell ⟨b, 1, none⟩ (.int .u64 ((max ep n : Nat) : Int))) := by refine Keep.setCell (Keep.refl _ _) (.inl ?_) _; rfl
          have hh3 := heap_setCell6 H2.out.1 1 (.int .u64 ((max ep n : Nat) : Int))
          have HZ := hid (show (w2.setCell ⟨b, 1, none⟩ (.int .u64 ((max ep n : Nat) : Int))).heap[b]? = some (.cells (walCells d (epTo D (i + 1)) h (.slice none 0 0) (.slice none 0 0) 0 0 false) 75 (0, 0)) ∧ Keep (fun _ => False) w (w2.setCell ⟨b, 1, none⟩ (.int .u64 ((max ep n : Nat) : Int))) by
            refine ⟨by rw [hh3, He.out]; rfl, H2.out.2.next hk3 (fun _ _ x => x) (fun k hk x => by have := Hb.out; omega)⟩)
          clear hk3 hh3
          go_roundw
          case rel => exact ⟨i + 1, by omega, by go_num, HZ⟩
          case measure => simp [intOf]; omega
      · obtain rfl : i = 2 := by omega
        have t1 : ¬ ((2 : Nat) : Int) < 2 := by omega
        obtain ⟨hh2, hk2⟩ := HI.out
        rw [epTo_two] at hh2
        obtain ⟨ep, hep⟩ : ∃ ep, ep = epoch D := ⟨_, rfl⟩
        rw [← hep] at hh2
        obtain ⟨i0, i1, i2, i3, i4, i5, i6, i7, if1, ib1⟩ := cells8 (show wr.heap[b]? = some (.cells #[_, _, _, _, _, _, _, _] _ (0, 0)) from hh2)
        obtain ⟨nn, hnn⟩ : ∃ nn, nn = 32 * h := ⟨_, rfl⟩
        have t2 : (h : Int) * 32 = (nn : Int) := by omega
        have t3 := wi64 nn (by omega)
        have hmk := fun w : World => run_make_n (P := Try.prog) ty_bytes .i64 .i64 nn (by omega) (by unfold maxLen; omega) w
        have H2 := hid (And.intro hh2 (And.intro hk2 (And.intro hep hnn)))
        clear hh2 hk2 hep hnn HI
        go_wp2_with (at_builtin; refine stopAt ?_; intro q hq)
        obtain ⟨ga, hga⟩ : ∃ ga, ga = wr.heap.size := ⟨_, rfl⟩
        have hkA : Keep (fun k => k = b) wr (wr.setCell ⟨b, 3, none⟩ (.slice (some ⟨wr.heap.size, 0, none⟩) nn nn)) := by refine Keep.setCell (Keep.refl _ _) (.inl ?_) _; rfl
        have hhA := heap_setCell6 H2.out.1 3 (.slice (some ⟨wr.heap.size, 0, none⟩) nn nn)
        have hszA : (wr.setCell ⟨b, 3, none⟩ (.slice (some ⟨wr.heap.size, 0, none⟩) nn nn)).heap.size = wr.heap.size := by simp [World.setCell]
        obtain ⟨wA, hwA⟩ : ∃ wA, wA = wr.setCell ⟨b, 3, none⟩ (.slice (some ⟨wr.heap.size, 0, none⟩) nn nn) := ⟨_, rfl⟩
        rw [← hwA] at hkA hhA hszA ⊢
        have hg3 := heap_alloc_new wA (.cells (madeCells #[.int .u8 0] nn) 5)
        have hk3 : Keep (fun _ => False) wA (wA.alloc (.cells (madeCells #[.int .u8 0] nn) 5)) := (Keep.refl _ _).alloc _
        obtain ⟨w3, hw3⟩ : ∃ w3, w3 = wA.alloc (.cells (madeCells #[.int .u8 0] nn) 5) := ⟨_, rfl⟩
        rw [← hw3] at hg3 hk3 ⊢
        rw [hszA, ← hga] at hg3
        rw [← hga] at hhA
        have hrow3 : Row w3 5 1 (.slice (some ⟨ga, 0, none⟩) nn nn) nn (bytesV (List.replicate nn 0)) := by
          have h1 := Row.made (w := w3) (e := 5) (size := 1) (g := ga) (n := nn) (z := (Value.int .u8 0).cells) (by rw [Nat.mul_one]; exact hg3) (by unfold maxLen; omega)
          rw [zeros_cells] at h1
          exact h1
        have hgab : ga ≠ b := fun e => by have := heap_lt H2.out.1; omega
        have hh3 := hk3.get hhA id
        have hkw3 : Keep (fun _ => False) w w3 := (H2.out.2.1.next hkA (fun _ _ x => x) (fun k hk x => by have := Hb.out; omega)).next hk3 (fun _ _ x => x) (fun _ _ x => x)
        have hga0 : w.heap.size ≤ ga := by have := H2.out.2.1.size; omega
        have hga3 := heap_lt hg3
        have R0 := hid (show OpRel w b d ep h ga nn nn (bytesTo D ep 0 ++ List.replicate (nn - 32 * 0) 0) w3 from ⟨hh3, by simpa [bytesTo] using hrow3, hkw3⟩)
        have HG := hid (And.intro hga0 hgab)
        have H2' := hid (And.intro H2.out.2.2.1 H2.out.2.2.2)
        clear hwA hw3 hkA hhA hszA hg3 hk3 hrow3 hh3 hkw3 hga i0 i1 i2 i3 i4 i5 i6 i7 if1 ib1 hmk H2 hga0 hga3
        go_loopw [8, 9, 10, 63] (fun _ _ _ iv wx => ∃ i : Nat, i ≤ h ∧ iv = .int .i64 i ∧ Hid (OpRel w b d ep h ga nn nn (bytesTo D ep i ++ List.replicate (nn - 32 * i) 0) wx)) (fun _ _ _ iv _ => h - (intOf iv).toNat)
        case atStart => exact ⟨0, Nat.zero_le _, rfl, R0⟩
        case round =>
          clear R0
          obtain ⟨i, hi, rfl, HI⟩ := hrel
          obtain ⟨i0, i1, i2, i3, i4, i5, i6, i7, if1, ib1⟩ := cells8 (show wr.heap[b]? = some (.cells #[_, _, _, _, _, _, _, _] _ (0, 0)) from HI.out.head)
          by_cases hih : i < h
          · have s1 : (i : Int) < (h : Int) := by omega
            have hfst := wfirst_any wr b d ep h _ _ 0 0 false HI.out.head hh1023 ep
            have hfi : 2 + ep % 2 * h = WM.first D ep := by rw [hH.out.1]; rfl
            have hfl := first_lt (D := D) ep i hns6 (by have := hH.out.1; omega)
            rw [hfi] at hfst
            obtain ⟨q, hq⟩ : ∃ q, q = WM.first D ep := ⟨_, rfl⟩
            rw [← hq] at hfst hfl
            obtain ⟨t, ht⟩ : ∃ t, t = q + i := ⟨_, rfl⟩
            have g1 : (q : Int) + (i : Int) = (t : Int) := by omega
            have g2 := wi64 t (by omega)
            have hrd := read_any wr d Fd D (t : Int) (HD.out.keep HI.out.keep fun _ _ x => x) (by omega)
            obtain ⟨r1, r2⟩ := read_one D t hd (by omega) HD.out.ok
            rw [r1, r2] at hrd
            have hsuc := bytesTo_succ D ep i
            rw [← hq, ← ht] at hsuc
            obtain ⟨S, hS⟩ : ∃ S, S = (DM.read D (t : Int)).1 := ⟨_, rfl⟩
            rw [← hS] at hrd hsuc r2
            have HS2 := hid (And.intro hsuc (And.intro r2 (bytesTo_length ep hns6 hd HD.out.ok i (by have := hH.out.1; omega))))
            obtain ⟨p, hp⟩ : ∃ p, p = i * 32 := ⟨_, rfl⟩
            have g3 : (i : Int) * 32 = (p : Int) := by omega
            have g4 := wi64 p (by omega)
            have Hnn := H2'.out.2
            have hsl : ∀ w, (Instr.sliceAt 36 (.slice (some ⟨ga, 0, none⟩) nn nn) (some (.int .i64 (p : Int))) none none).run Try.prog w = .ok (.slice (some ⟨ga, p, none⟩) (nn - p) (nn - p)) w := fun w => by
              have h := run_sliceAt_lo (P := Try.prog) ty_bytes (some ⟨ga, 0, none⟩) nn nn .i64 p (by omega) w
              have e : tailAt (some ⟨ga, 0, none⟩) nn p 1 = some ⟨ga, p, none⟩ := by
                unfold tailAt
                rw [if_neg (by omega)]
                simp [addr_add]
              rw [e] at h
              exact h
            have HP := hid (And.intro hp Hnn)
            clear hfi hfl hq ht r1 r2 hsuc hS hp Hnn
            go_wp2_with (at_builtin; refine stopAt ?_; intro q hq)
            refine hfst.mono ?_
            rintro e w4 ⟨rfl, rfl⟩
            go_wp2_with (at_builtin; refine stopAt ?_; intro q hq)
            refine hrd.mono ?_
            rintro e w5 ⟨v5, rfl, hrow5, hk5, hown5⟩
            obtain ⟨ad5, c5, rfl, -⟩ := hrow5.form
            have hh5 := hk5.get HI.out.head id
            have hga5 := HI.out.row.keep hk5 fun _ _ x => x
            clear i0 i1 i2 i3 i4 i5 i6 i7 if1 ib1
            obtain ⟨i0, i1, i2, i3, i4, i5, i6, i7, if1, ib1⟩ := cells8 (show w5.heap[b]? = some (.cells #[_, _, _, _, _, _, _, _] _ (0, 0)) from hh5)
            obtain ⟨gx, capx, cur, fz, hvx, hg5, hfz, hn5, hc5, hz5, ht5⟩ := hga5.some (by have := HP.out; omega)
            simp at hvx
            obtain ⟨rfl, rfl⟩ := hvx
            have hSl : (bytesV S).length = 32 := by rw [bytesV_length]; exact HS2.out.2.1
            have hcp := run_copy (P := Try.prog) (w := w5) (sT := 36) (ty := 3) ty_bytes ga p (nn - p) (nn - p) cur 5 fz hg5 hfz ad5 32 c5 (bytesV S) 32 (Nat.min_eq_left (by have := HP.out; omega)) (by have h := Cells.of_row hrow5; exact h) (by have := HP.out; omega) (bytesV_one _)
            have hr6 := Row.spliced hga5 hg5 p (bytesV S) (by have := HP.out; omega)
            have hk6 : Keep (fun k => k = ga) w5 (w5.setRow ga (splice cur.toList p (bytesV S)).toArray) := by refine Keep.setRow (Keep.refl _ _) (.inl ?_) _; rfl
            obtain ⟨w6, hw6⟩ : ∃ w6, w6 = w5.setRow ga (splice cur.toList p (bytesV S)).toArray := ⟨_, rfl⟩
            rw [← hw6] at hcp hr6 hk6
            have hh6 := hk6.get hh5 (fun e => HG.out.2 e.symm)
            have HZ := hid (show OpRel w b d ep h ga nn nn (bytesTo D ep (i + 1) ++ List.replicate (nn - 32 * (i + 1)) 0) w6 from
              ⟨hh6, by
                obtain ⟨z1, z2, z3⟩ := HS2.out
                obtain ⟨hp, hnn⟩ := HP.out
                rw [splice_bytes] at hr6
                have e : (bytesTo D ep i ++ List.replicate (nn - 32 * i) 0).take p ++ (S ++ (bytesTo D ep i ++ List.replicate (nn - 32 * i) 0).drop (p + S.length)) = bytesTo D ep (i + 1) ++ List.replicate (nn - 32 * (i + 1)) 0 := by
                  rw [z1, List.append_assoc, show p = (bytesTo D ep i).length by omega, List.take_left, z2, List.drop_append, List.drop_of_length_le (by omega), List.nil_append, List.drop_replicate]
                  congr 3
                  omega
                rw [e] at hr6
                exact hr6, (HI.out.keep.next hk5 (H := fun _ => False) (fun _ _ x => x) (fun _ _ x => x)).next hk6 (fun _ _ x => x) (fun k hk x => by have := HG.out.1; omega)⟩)
            clear hh5 hga5 hg5 hfz hn5 hc5 hz5 ht5 hr6 hk6 hw6 hh6 hrow5 hk5 hown5 hSl
            go_wp2_with (at_builtin; refine stopAt ?_; intro q hq)
            go_roundw
            case rel => exact ⟨i + 1, by omega, by go_num, HZ⟩
            case measure => simp [intOf]; omega
          · obtain rfl : h = i := by omega
            have s1 : ¬ (h : Int) < (h : Int) := by omega
            obtain ⟨z1, z2⟩ := H2'.out
            have hBe : bytesTo D ep h ++ List.replicate (nn - 32 * h) 0 = bytesTo D ep h := by rw [show nn - 32 * h = 0 by omega]; simp
            have hhead := HI.out.head
            have hrow := HI.out.row
            have hkeep := HI.out.keep
            rw [hBe] at hrow
            obtain ⟨B, hB⟩ : ∃ B, B = bytesTo D ep h := ⟨_, rfl⟩
            rw [← hB] at hrow
            have hBl : B.length = nn := by rw [hB, bytesTo_length ep hns6 hd HD.out.ok h (by have := hH.out.1; omega), z2]
            have hgab := HG.out.2
            have hscan := scan_any wr b d ep h ga nn nn B hhead hrow (by omega) (fun e => hgab e.symm)
            obtain ⟨L, hL⟩ : ∃ L, L = (scan B (B.length + 1) 0).1 := ⟨_, rfl⟩
            obtain ⟨en, hen⟩ : ∃ en, en = (scan B (B.length + 1) 0).2 := ⟨_, rfl⟩
            obtain ⟨sp1, sp2, sp3, sp4⟩ := scan_spec B (B.length + 1) 0 (Nat.zero_le _)
            rw [← hL, ← hen] at hscan sp1
            rw [← hL] at sp4
            rw [← hen] at sp2
            have hcl : clean B en = areaH (half D) L := by rw [hen, hL]; exact clean_area (by rw [hBl, z2, hH.out.1])
            have hRR : R = if (wipeS ep B en D).1 ≠ 0 then ((wipeS ep B en D).1, none, (wipeS ep B en D).2) else (0, some ⟨ep, L, L.length, false⟩, (wipeS ep B en D).2) := by
              rw [HR.out]
              unfold openW
              rw [if_neg (by have := Hns.out; omega), if_neg (by rw [hd]; simp)]
              have e1 : WM.bytes D (epoch D) = B := by rw [hB, ← z1, hH.out.1]; rfl
              simp only
              rw [e1, ← z1, ← hen, ← hL]
              unfold wipeS
              simp only
              generalize WM.wipe ep B en 0 (half D) false D = Z
              by_cases c1 : Z.1 = 0
              · rw [if_neg (by simp [c1])]
                by_cases c2 : Z.2.1 = true
                · have e : (if Z.1 = 0 ∧ Z.2.1 = true then DM.sync Z.2.2 else (Z.1, Z.2.2)) = DM.sync Z.2.2 := if_pos ⟨c1, c2⟩
                  rw [if_pos c2, e]
                · have e : (if Z.1 = 0 ∧ Z.2.1 = true then DM.sync Z.2.2 else (Z.1, Z.2.2)) = (Z.1, Z.2.2) := if_neg (fun h => c2 h.2)
                  rw [if_neg c2, e, if_neg (by simp [c1])]
              · have e : (if Z.1 = 0 ∧ Z.2.1 = true then DM.sync Z.2.2 else (Z.1, Z.2.2)) = (Z.1, Z.2.2) := if_neg (fun h => c1 h.1)
                rw [if_pos c1, e, if_pos c1]
            have HRR := hid hRR
            have HX := hid (And.intro hhead (And.intro hrow (And.intro hkeep (And.intro hBl (And.intro sp1 (And.intro sp2 (And.intro sp4 (And.intro hcl (And.intro z1 z2)))))))))
            clear hRR hhead hrow hkeep hBl sp1 sp2 sp3 sp4 hcl z1 z2 hBe hB hL hen i0 i1 i2 i3 i4 i5 i6 i7 if1 ib1
            go_wp2_with (at_builtin; refine stopAt ?_; intro q hq)
            refine hscan.mono ?_
            rintro e w4 ⟨rfl, hk4, vl, vs, hh4, hrec4⟩
            have hk04 : Keep (fun _ => False) w w4 := HX.out.2.2.1.next hk4 (fun _ _ x => x) (fun k hk x => by have := Hb.out; omega)
            have hrow4 := HX.out.2.1.keep hk4 (fun k e x => by simp [Value.ownBlock] at e; omega)
            have hDl := HD.out.lt
            have hbn : ¬ Fd b := fun x => by have := hDl b x; have := Hb.out; omega
            have hgn : ¬ Fd ga := fun x => by have := hDl ga x; have := HG.out.1; omega
            have hhh := hH.out.1
            have hwipe := wipe_any w4 b d ga nn ep en nn Fd D B vl L.length (by rw [← hhh]; exact hh4) hrow4 (by rw [← hhh]; exact HX.out.2.2.2.2.2.2.2.2.2) (by have h1 := HX.out.2.2.2.1; have h2 := HX.out.2.2.2.2.2.1; omega) (HD.out.keep hk04 fun _ _ x => x) hbn hgn hgab hfew
            obtain ⟨Y, hY⟩ : ∃ Y, Y = wipeS ep B en D := ⟨_, rfl⟩
            have hYl : Y.2.safe.length = D.safe.length := by rw [hY]; exact wipeS_len _ _ _ _
            rw [← hY] at hwipe HRR
            have H4 := hid (And.intro hk04 (And.intro hh4 (And.intro hrec4 (And.intro hYl (And.intro hhh (And.intro hbn (And.intro hgn (And.intro (heap_lt hh4) hk4.size))))))))
            have HWp := hid hwipe
            clear hwipe hk4 hh4 hrec4 hk04 hrow4 hDl hYl hhh hY hscan
            go_wp2_with (at_builtin; refine stopAt ?_; intro q hq)
            refine HWp.out.mono ?_
            rintro e w5 ⟨rfl, hk5, ⟨Fd', hD5, hF5⟩, hrow5⟩
            have hk05 : Keep Fd w w5 := H4.out.1.next hk5 (fun _ _ x => x.elim) (fun k hk x => x.elim id fun h => by have := HG.out.1; omega)
            have hF05 : ∀ k, Fd' k → Fd k ∨ w.heap.size ≤ k := fun k x => (hF5 k x).imp id fun h => Nat.le_trans H4.out.1.size h
            have hHP := HPost.out
            by_cases y0 : Y.1 = 0
            rotate_left
            · have hR2 : R = (Y.1, none, Y.2) := by rw [HRR.out, if_pos y0]
              have HF := hid (show Post (.returned (.tuple #[.pointer none, .int .i64 Y.1])) w5 by rw [hHP, hR2]; exact ⟨rfl, Fd', hD5, hk05, hF05⟩)
              have u1 : (Y.1 == 0) = false := by simp [y0]
              have u2 : (Y.1 != 0) = true := by simp [y0]
              have u3 : decide (Y.1 = 0) = false := by simp [y0]
              clear hHP hR2 hk5 hD5 hF5 hrow5 hk05 hF05 y0
              go_wp2_with (at_builtin; refine stopAt ?_; intro q hq)
              exact HF.out
            · have hR2 : R = (0, some ⟨ep, L, L.length, false⟩, Y.2) := by rw [HRR.out, if_neg (by simp [y0])]
              have HF := hid (show Post (.returned (.tuple #[.pointer (some ⟨b, 0, none⟩), .int .i64 0])) w5 by
                rw [hHP, hR2]
                obtain ⟨x1, x2, x3, x4, x5, x6, x7, x8, x9, x10⟩ := HX.out
                obtain ⟨t1, t2, t3, t4, t5, t6, t7, t8, t9⟩ := H4.out
                have hb0 := Hb.out
                have hg0 := HG.out.1
                have s05 := hk05.size
                have s45 := hk5.size
                have s04 := t1.size
                have s0r := x3.size
                have hrow := hrow5 y0
                rw [x8] at hrow
                have hgl := hrow.lt (k := ga) (by simp [Value.ownBlock])
                have hrec := (t3.bound.mono (F' := fun k => w.heap.size ≤ k ∧ k < w4.heap.size) (A' := fun k => k = b ∨ k = ga) (fun k h1 h2 => ⟨⟨Nat.le_trans s0r h1.1, h1.2⟩, h2⟩))
                refine ⟨b, fun k => w.heap.size ≤ k ∧ k < w4.heap.size, Fd', rfl, ⟨ga, nn, vl, vs, ?_, hD5, fun k h1 h2 => ?_⟩, hk05, fun k h1 => h1.1, hF05⟩
                · rw [half_len t4, ← t5]
                  rw [← t5] at hrow
                  refine ⟨?_, by rw [← x10]; exact hrow, hrec.keep hk5 fun k h1 h2 h3 => ?_, ⟨by omega, t8⟩, ⟨hg0, ?_⟩, fun e => hgab e.symm, fun k h1 => Nat.lt_of_lt_of_le h1.2 s45, ?_⟩
                  · have h9 := hk5.get t2 (fun h => h.elim t6 fun h => hgab h.symm)
                    rw [h9, ← x10]
                    have h10 : en = (flat L).length := by omega
                    rw [h10]
                  · rcases h3 with h3 | h3
                    · have := HD.out.lt k h3; omega
                    · exact h2 (.inr h3)
                  · have h11 := x2.lt (k := ga) (by simp [Value.ownBlock])
                    omega
                  · have he := epTo_lt D 2
                    rw [epTo_two, ← x9] at he
                    have h12 := hH.out.2.1
                    have h13 := Hns.out
                    exact ⟨by show (flat L).length ≤ _; omega, by omega, hh1023, he, x7, Nat.le_refl _⟩
                · rcases hF5 k h2 with h3 | h3
                  · have := HD.out.lt k h3; omega
                  · omega)
              rw [y0]
              clear hHP hR2 hk5 hD5 hF5 hrow5 hk05 hF05 y0
              go_wp2_with (at_builtin; refine stopAt ?_; intro q hq)
              exact HF.out
end Go.Proofs.Yteemekckiafnfaa
/- The document's log: half, first, head, bytes, frames. Conditions: as the contracts name them. -/
namespace Go.Proofs.Yteemekckiafnfaa
open Go.RowKit
open DM BM WM

set_option maxRecDepth 20000 in
set_option maxHeartbeats 400000 in
theorem rhalf_any (w : World) (d : Nat) (Fd : Nat → Prop) (D : Dk) (hD : RefAt w d Fd D) :
    Calls Try.prog 61 #[.pointer (some ⟨d, 0, none⟩)] w fun e w' => e = .returned (.int .i64 (half D : Nat)) ∧ w' = w := by
  obtain ⟨vs, vw, hI⟩ := hD
  have hh := hI.head
  unfold refCells at hh
  obtain ⟨h0, h1, h2, h3, hf, hb⟩ := cells4 hh
  have hpos := hI.ok.pos
  have hfew := hI.ok.few
  obtain ⟨ad, cap, rfl, -⟩ := hI.safe.form
  obtain ⟨ns, hns⟩ : ∃ ns, ns = D.safe.length := ⟨_, rfl⟩
  rw [← hns] at h0 hpos hfew
  obtain ⟨x, hx⟩ : ∃ x : Int, x = (ns : Int) - 2 := ⟨_, rfl⟩
  have q0 : (ns : Int) - 2 = x := hx.symm
  have q1 := show IntKind.i64.wrap x = x by simp [IntKind.wrap, IntKind.signed, IntKind.bits]; omega
  have q2 : x.tdiv 2 = (half D : Int) := by
    have e : half D = (ns - 2) / 2 := by rw [hns]; rfl
    rw [e]
    have : ns = 1 ∨ 2 ≤ ns := by omega
    rcases this with h | h
    · subst h; subst hx; rfl
    · rw [Int.tdiv_eq_ediv_of_nonneg (by omega)]; omega
  have q3 := wi64 (half D) (by unfold half; omega)
  clear hh hI hns hx h1 h2 h3
  generalize half D = hf2 at *
  go_enter Try.func61, Try.ntmps61
  go_wp2_with (at_builtin; refine stopAt ?_; intro q hq)
  go_ret
  exact ⟨rfl, rfl⟩

set_option maxRecDepth 20000 in
set_option maxHeartbeats 400000 in
theorem rfirst_any (w : World) (d : Nat) (Fd : Nat → Prop) (D : Dk) (hD : RefAt w d Fd D) (ep : Nat) :
    Calls Try.prog 76 #[.pointer (some ⟨d, 0, none⟩), .int .u64 (ep : Nat)] w fun e w' => e = .returned (.int .i64 (WM.first D ep : Nat)) ∧ w' = w := by
  have hfew := hD.ok.few
  have hh : half D ≤ 1023 := by unfold half; omega
  have hcall := rhalf_any w d Fd D hD
  have hfi : WM.first D ep = 2 + ep % 2 * half D := rfl
  rw [hfi]
  obtain ⟨h, hhd⟩ : ∃ h, h = half D := ⟨_, rfl⟩
  rw [← hhd] at hcall hh ⊢
  clear hhd hfi
  have e2 : ep % 2 < 2 := Nat.mod_lt _ (by decide)
  obtain ⟨r, hr⟩ : ∃ r, r = ep % 2 := ⟨_, rfl⟩
  have q1 : ((ep : Int) % 2) = (r : Int) := by omega
  have q2 : ((ep : Int).tmod 2) = (r : Int) := by rw [Int.tmod_eq_emod_of_nonneg (by omega)]; exact q1
  have q3 := wi64 r (by omega)
  obtain ⟨p, hp⟩ : ∃ p, p = r * h := ⟨_, rfl⟩
  have hp2 : p ≤ 1023 := by
    rw [hp]
    have : r = 0 ∨ r = 1 := by omega
    rcases this with rfl | rfl <;> omega
  have q4 : (r : Int) * (h : Int) = (p : Int) := by rw [hp]; push_cast; rfl
  have q5 := wi64 p (by omega)
  have HP := hid (show 2 + ep % 2 * h = 2 + p by rw [hp, hr])
  clear hr hp e2
  go_enter Try.func76, Try.ntmps76
  go_wp2_with (at_builtin; refine stopAt ?_; intro q hq)
  refine hcall.mono ?_
  rintro e w2 ⟨rfl, rfl⟩
  go_wp2_with (at_builtin; refine stopAt ?_; intro q hq)
  go_ret
  refine ⟨?_, rfl⟩
  rw [HP.out]
  push_cast
  rfl

set_option maxRecDepth 20000 in
set_option maxHeartbeats 1000000 in
theorem rhead_any (w : World) (d : Nat) (Fd : Nat → Prop) (D : Dk) (i : Nat) (hD : RefAt w d Fd D) (hd : D.down = false) (hi : i < D.safe.length) (hi2 : i < 2) (hfewW : D.waits.length ≤ 1000000) :
    Calls Try.prog 78 #[.pointer (some ⟨d, 0, none⟩), .int .i64 (i : Nat)] w (HeadPost D i w) := by
  have hfew := hD.ok.few
  have hr := ref_read w d Fd D (i : Int) hD (by omega) hfewW
  obtain ⟨r1, r2⟩ := read_one D i hd hi hD.ok
  rw [r1, r2] at hr
  obtain ⟨B, hB⟩ : ∃ B, B = (DM.read D (i : Int)).1 := ⟨_, rfl⟩
  rw [← hB] at hr r2
  have HHd := hid (show WM.head D i = match BM.get B 0 with | .no _ => none | .yes k body _ => if k ≠ 1 then none else match BM.uint body 0 with | .no _ => none | .yes n t => if t = body.length ∧ n < 4611686018427387904 ∧ n % 2 = i then some n else none by rw [hB]; rfl)
  have no : WM.head D i = none → ∀ w', Keep (fun _ => False) w w' → ∀ n : Nat, HeadPost D i w (.returned (.tuple #[.int .u64 (n : Nat), .bool false])) w' := fun h w' hk n =>
    ⟨n, by rw [h]; rfl, fun m hm => (by rw [h] at hm; cases hm), hk⟩
  have No := hid no
  have yes : ∀ n, WM.head D i = some n → ∀ w', Keep (fun _ => False) w w' → HeadPost D i w (.returned (.tuple #[.int .u64 (n : Nat), .bool true])) w' := fun n h w' hk =>
    ⟨n, by rw [h]; rfl, fun m hm => (by rw [h] at hm; cases hm; rfl), hk⟩
  have Yes := hid yes
  have R2 := hid r2
  obtain ⟨Post, hPost⟩ : ∃ Post, Post = HeadPost D i w := ⟨_, rfl⟩
  rw [← hPost] at No Yes ⊢
  clear no yes hB r1 r2 hD hPost
  go_enter Try.func78, Try.ntmps78
  go_wp2_with (at_builtin; refine stopAt ?_; intro q hq)
  refine hr.mono ?_
  rintro e w1 ⟨v1, rfl, hrow1, hk1, hown1⟩
  obtain ⟨ad1, c1, rfl, hc1, -⟩ := hrow1.form
  have hget := rget_any w1 ad1 32 c1 0 B (by have h := Cells.of_row hrow1; exact h) (Nat.zero_le _) hc1 (by decide)
  have HK1 := hid hk1
  clear hr hrow1 hk1 hown1 hc1
  go_wp2_with (at_builtin; refine stopAt ?_; intro q hq)
  obtain ⟨gt, hgt⟩ : ∃ gt, gt = BM.get B 0 := ⟨_, rfl⟩
  rw [← hgt] at hget HHd
  refine hget.mono ?_
  clear hget
  intro e w2 hp
  cases gt with
  | no m =>
    obtain ⟨rfl, hk2⟩ := hp
    have hm := get_no hgt.symm
    have hz : WM.head D i = none := HHd.out
    have hk12 : Keep (fun _ => False) w w2 := HK1.out.next hk2 (fun _ _ x => x) (fun _ _ x => x)
    have u1 : ((m : Int) != 0) = true := by simp; omega
    have u2 : ((m : Int) == 0) = false := by simp; omega
    have hN := fun w' (h : Keep (fun _ => False) w2 w') => No.out hz w' (hk12.next h (fun _ _ x => x) (fun _ _ x => x)) 0
    have HN := hid hN
    clear hgt hm hz hk12 hk2 hN
    go_wp2_with (at_builtin; refine stopAt ?_; intro q hq)
    refine HN.out _ ?_
    first | exact (Keep.refl _ _).alloc _ | exact (((Keep.refl _ _).alloc _).setCell (.inr (Nat.le_refl _)) _).setCell (.inr (Nat.le_refl _)) _
  | yes k body q =>
    obtain ⟨v, rfl, hf2⟩ := hp
    obtain ⟨ad2, c2, rfl, hc2, -⟩ := hf2.row.form
    obtain ⟨-, -, hb1, -⟩ := get_frame hgt.symm
    have hk12 : Keep (fun _ => False) w w2 := HK1.out.next hf2.keep (fun _ _ x => x) (fun _ _ x => x)
    by_cases hk : k = 1
    rotate_left
    · have hz : WM.head D i = none := by rw [HHd.out]; simp [hk]
      have u1 : ((k.toNat : Int) != 1) = true := by
        have : k.toNat ≠ 1 := fun e => hk (UInt8.toNat_inj.1 e)
        simp; omega
      have hN := fun w' (h : Keep (fun _ => False) w2 w') => No.out hz w' (hk12.next h (fun _ _ x => x) (fun _ _ x => x)) 0
      have HN := hid hN
      clear hgt hz hk12 hN hk hf2
      generalize k.toNat = kk at *
      go_wp2_with (at_builtin; refine stopAt ?_; intro q hq)
      refine HN.out _ ?_
      first | exact (Keep.refl _ _).alloc _ | exact (((Keep.refl _ _).alloc _).setCell (.inr (Nat.le_refl _)) _).setCell (.inr (Nat.le_refl _)) _
    · subst hk
      have HHe := hid (show WM.head D i = match BM.uint body 0 with | .no _ => none | .yes n t => if t = body.length ∧ n < 4611686018427387904 ∧ n % 2 = i then some n else none by rw [HHd.out]; simp)
      have HF2 := hid hf2
      have HK12 := hid hk12
      clear hgt hk12 hf2 HHd
      rw [show ((1 : UInt8).toNat : Int) = 1 from rfl]
      go_wp2_with (at_builtin; refine stopAt ?_; intro q hq)
      obtain ⟨w3, hw3⟩ : ∃ w3, w3 = w2.alloc (.cells #[.int .u8 1, .slice ad2 body.length c2] 115) := ⟨_, rfl⟩
      have hh3 : w3.heap[w2.heap.size]? = some (.cells #[.int .u8 1, .slice ad2 body.length c2] 115) := by rw [hw3]; exact heap_alloc_new w2 _
      have hk3 : Keep (fun _ => False) w2 w3 := by rw [hw3]; exact (Keep.refl _ _).alloc _
      rw [← hw3]
      clear hw3
      refine (ruint_any w3 ad2 body.length c2 0 body ((Cells.of_row HF2.out.row).keep hk3 fun _ _ x => x) (Nat.zero_le _) (by omega)).mono ?_
      rintro e w4 ⟨rfl, hk4⟩
      have hh4 := hk4.get hh3 id
      obtain ⟨a0, a1, af, -⟩ := cells2 (show w4.heap[w2.heap.size]? = some (.cells #[_, _] _ (0, 0)) from hh4)
      have HK4 := hid ((HK12.out.next hk3 (H := fun _ => False) (fun _ _ x => x) (fun _ _ x => x)).next hk4 (H := fun _ => False) (fun _ _ x => x) (fun _ _ x => x))
      clear hh3 hk3 hk4 hh4
      generalize hu : BM.uint body 0 = un at *
      cases un with
      | no m =>
        have hm := uint_no hu
        have hz : WM.head D i = none := HHe.out
        have u1 : ((m : Int) != 0) = true := by simp; omega
        have u2 : ((m : Int) == 0) = false := by simp; omega
        have u3 : decide (m = 0) = false := by simp; omega
        have HN := hid (No.out hz w4 HK4.out 0)
        clear hm hz hu
        unfold numV
        go_wp2_with (at_builtin; refine stopAt ?_; intro q hq)
        exact HN.out
      | yes n t =>
        have hz := HHe.out
        simp only at hz
        obtain ⟨bl, hbl⟩ : ∃ bl, bl = body.length := ⟨_, rfl⟩
        obtain ⟨r, hr⟩ : ∃ r, r = n % 2 := ⟨_, rfl⟩
        rw [← hbl] at hz a1 ⊢
        have q1 : ((n : Int) % 2) = (r : Int) := by omega
        have q2 : ((n : Int).tmod 2) = (r : Int) := by rw [Int.tmod_eq_emod_of_nonneg (by omega)]; exact q1
        have q3 := wi64 r (by omega)
        rw [← hr] at hz
        unfold numV
        by_cases c1 : t = bl
        rotate_left
        · have HN := hid (No.out (by rw [hz, if_neg (fun h => c1 h.1)]) w4 HK4.out n)
          have u1 : ((t : Int) == (bl : Int)) = false := by simp; omega
          have u2 : decide (t = bl) = false := decide_eq_false c1
          clear hz hbl hr hu c1
          go_wp2_with (at_builtin; refine stopAt ?_; intro q hq)
          exact HN.out
        · have u1 : ((t : Int) == (bl : Int)) = true := by simp; omega
          by_cases c2 : n < 4611686018427387904
          rotate_left
          · have HN := hid (No.out (by rw [hz, if_neg (fun h => c2 h.2.1)]) w4 HK4.out n)
            have u3 : decide ((n : Int) < 4611686018427387904) = false := decide_eq_false (by omega)
            have u4 : decide (n < 4611686018427387904) = false := decide_eq_false c2
            clear hz hbl hr hu c2 c1
            go_wp2_with (at_builtin; refine stopAt ?_; intro q hq)
            exact HN.out
          · have u3 : (n : Int) < 4611686018427387904 := by omega
            by_cases c3 : r = i
            rotate_left
            · have HN := hid (No.out (by rw [hz, if_neg (fun h => c3 h.2.2)]) w4 HK4.out n)
              have u5 : ((r : Int) == (i : Int)) = false := by simp; omega
              have u6 : decide (r = i) = false := decide_eq_false c3
              clear hz hbl hr hu c2 c1 c3
              go_wp2_with (at_builtin; refine stopAt ?_; intro q hq)
              exact HN.out
            · have HN := hid (Yes.out n (by rw [hz, if_pos ⟨c1, c2, c3⟩]) w4 HK4.out)
              have u5 : ((r : Int) == (i : Int)) = true := by simp; omega
              clear hz hbl hr hu c2 c1 c3
              go_wp2_with (at_builtin; refine stopAt ?_; intro q hq)
              exact HN.out
end Go.Proofs.Yteemekckiafnfaa
/- The document's log: bytes and frames. Conditions: as the contracts name them. -/
namespace Go.Proofs.Yteemekckiafnfaa
open Go.RowKit
open DM BM WM

def Gives (w : World) (l : List UInt8) (e : Ending) (w' : World) : Prop := ∃ v, e = .returned v ∧ Fresh w v l w'

set_option maxRecDepth 20000 in
set_option maxHeartbeats 1000000 in
theorem rbytes_any (w : World) (d : Nat) (Fd : Nat → Prop) (D : Dk) (hD : RefAt w d Fd D) (hd : D.down = false) (h6 : 6 ≤ D.safe.length) (ep : Nat) (hfewW : D.waits.length ≤ 1000000) :
    Calls Try.prog 79 #[.pointer (some ⟨d, 0, none⟩), .int .u64 (ep : Nat)] w (Gives w (bytesTo D ep (half D))) := by
  have hfew := hD.ok.few
  have HD := hid hD
  obtain ⟨h, hh⟩ : ∃ h, h = half D := ⟨_, rfl⟩
  have hh1023 : h ≤ 1023 := by rw [hh]; unfold half; omega
  have Hh := hid hh
  rw [← hh]
  have H0 := hid (Fresh.nil w)
  clear hD hh
  go_enter Try.func79, Try.ntmps79
  go_wp2_with (at_builtin; refine stopAt ?_; intro q hq)
  go_loopw [5, 6, 7, 8] (fun ov iv _ _ wr => ∃ (i : Nat) (ad : Option Addr) (c : Nat), i ≤ h ∧ iv = .int .i64 i ∧ ov = .slice ad (32 * i) c ∧ Hid (Fresh w (.slice ad (32 * i) c) (bytesTo D ep i) wr)) (fun _ iv _ _ _ => h - (intOf iv).toNat)
  case atStart => exact ⟨0, none, 0, Nat.zero_le _, rfl, rfl, H0⟩
  case round =>
    clear H0
    obtain ⟨i, ad, c, hi, rfl, rfl, HI⟩ := hrel
    have hcall := rhalf_any wr d Fd D (HD.out.keep HI.out.keep fun _ _ x => x)
    rw [← Hh.out] at hcall
    obtain ⟨m, hm⟩ : ∃ m, m = 32 * i := ⟨_, rfl⟩
    rw [← hm] at HI ⊢
    have Hm := hid hm
    clear hm
    by_cases hih : i < h
    · have s1 : (i : Int) < (h : Int) := by omega
      have hfst := rfirst_any wr d Fd D (HD.out.keep HI.out.keep fun _ _ x => x) ep
      have hfl := first_lt (D := D) ep i h6 (by have := Hh.out; omega)
      obtain ⟨q, hq⟩ : ∃ q, q = WM.first D ep := ⟨_, rfl⟩
      rw [← hq] at hfst hfl
      obtain ⟨t, ht⟩ : ∃ t, t = q + i := ⟨_, rfl⟩
      have g1 : (q : Int) + (i : Int) = (t : Int) := by omega
      have g2 := wi64 t (by omega)
      have hrd := ref_read wr d Fd D (t : Int) (HD.out.keep HI.out.keep fun _ _ x => x) (by omega) hfewW
      obtain ⟨r1, r2⟩ := read_one D t hd (by omega) HD.out.ok
      rw [r1, r2] at hrd
      have hsuc := bytesTo_succ D ep i
      rw [← hq, ← ht] at hsuc
      obtain ⟨S, hS⟩ : ∃ S, S = (DM.read D (t : Int)).1 := ⟨_, rfl⟩
      rw [← hS] at hrd hsuc r2
      have HS2 := hid (And.intro hsuc (And.intro r2 (bytesTo_length ep h6 hd HD.out.ok i (by have := Hh.out; omega))))
      clear hfl hq ht r1 r2 hsuc hS
      go_wp2_with (at_builtin; refine stopAt ?_; intro q hq)
      refine hcall.mono ?_
      rintro e w2 ⟨rfl, rfl⟩
      go_wp2_with (at_builtin; refine stopAt ?_; intro q hq)
      refine hfst.mono ?_
      rintro e w4 ⟨rfl, rfl⟩
      go_wp2_with (at_builtin; refine stopAt ?_; intro q hq)
      refine hrd.mono ?_
      rintro e w5 ⟨v5, rfl, hrow5, hk5, hown5⟩
      obtain ⟨ad5, c5, rfl, -⟩ := hrow5.form
      have H5 := hid (And.intro hrow5 hk5)
      clear hrow5 hk5 hown5
      go_wp2_with (at_builtin; refine stopAt ?_; intro q hq)
      (refine hq.out ?_; clear hq q)
      refine wpList_plain rfl (fun K hK => ?_)
      refine wp_append_fresh (r := S) _ _ rfl rfl (HI.out.later H5.out.2) ad5 32 c5 rfl (by have h := Cells.of_row H5.out.1; exact h) (by have := HS2.out.2.2; omega) ?_
      intro v6 w6 hf6 _
      have hl : bytesTo D ep i ++ S = bytesTo D ep (i + 1) := HS2.out.1.symm
      rw [hl] at hf6
      have hln : (bytesTo D ep (i + 1)).length = 32 * (i + 1) := bytesTo_length ep h6 hd HD.out.ok (i + 1) (by have := Hh.out; omega)
      obtain ⟨ad6, c6, hv6, -⟩ := hf6.row.form
      rw [hln] at hv6
      subst hv6
      refine hK _ _ ?_
      clear hK K
      have HZ := hid hf6
      clear hf6 hl hln
      go_wp2_with (at_builtin; refine stopAt ?_; intro q hq)
      go_roundw
      case rel => exact ⟨i + 1, ad6, c6, by omega, by go_num, rfl, HZ⟩
      case measure => simp [intOf]; omega
    · obtain rfl : h = i := by omega
      have s1 : ¬ (h : Int) < (h : Int) := by omega
      go_wp2_with (at_builtin; refine stopAt ?_; intro q hq)
      refine hcall.mono ?_
      rintro e w2 ⟨rfl, rfl⟩
      go_wp2_with (at_builtin; refine stopAt ?_; intro q hq)
      go_ret
      exact ⟨_, rfl, HI.out⟩

/-- What frames gives. -/
def FramesPost (w : World) (L : List (List UInt8)) (e : Ending) (w' : World) : Prop :=
  if L.any (fun x => decide (1024 < x.length)) then e = .returned (.tuple #[.slice none 0 0, .int .i64 3]) ∧ w' = w
  else if 65536 < (flat L).length then e = .returned (.tuple #[.slice none 0 0, .int .i64 5]) ∧ Keep (fun _ => False) w w'
  else ∃ v, e = .returned (.tuple #[v, .int .i64 0]) ∧ Fresh w v (flat L) w'

set_option maxRecDepth 20000 in
set_option maxHeartbeats 1000000 in
theorem frames_any (w : World) (ao : Option Addr) (c : Nat) (L : List (List UInt8)) (hL : Lists w ao L) (hn : L.length ≤ 1000000000) :
    Calls Try.prog 60 #[.slice ao L.length c] w (FramesPost w L) := by
  obtain ⟨n, hnl⟩ : ∃ n, n = L.length := ⟨_, rfl⟩
  obtain ⟨Post, hPost⟩ : ∃ Post, Post = FramesPost w L := ⟨_, rfl⟩
  rw [← hPost]
  have HPost := hid hPost
  have H := hid hL
  have HN := hid hnl
  rw [← hnl] at hn ⊢
  clear hL hnl hPost
  have H0 := hid (show ∀ x ∈ L.take 0, ¬ 1024 < x.length by simp)
  go_enter Try.func60, Try.ntmps60
  go_wp2_with (at_builtin; refine stopAt ?_; intro q hq)
  go_loopw [5] (fun iv wr => ∃ i : Nat, i ≤ n ∧ iv = .int .i64 i ∧ wr = w ∧ Hid (∀ x ∈ L.take i, ¬ 1024 < x.length)) (fun iv _ => n - (intOf iv).toNat)
  case atStart => exact ⟨0, Nat.zero_le _, rfl, rfl, H0⟩
  case round =>
    clear H0
    obtain ⟨i, hi, rfl, rfl, HI⟩ := hrel
    by_cases hin : i < n
    · have hil : i < L.length := by have := HN.out; omega
      obtain ⟨ad, ao', c', rfl, hc, hc2, -⟩ := H.out i hil
      obtain ⟨x, hx⟩ : ∃ x, x = L[i] := ⟨_, rfl⟩
      rw [← hx] at hc hc2
      obtain ⟨m, hm⟩ : ∃ m, m = x.length := ⟨_, rfl⟩
      rw [← hm] at hc
      have q1 : (i : Int) < (n : Int) := by omega
      by_cases hb : 1024 < m
      · have hr : L.any (fun x => decide (1024 < x.length)) = true := by
          rw [List.any_eq_true]
          exact ⟨x, by rw [hx]; exact List.getElem_mem hil, by simp; omega⟩
        have HF := hid (show Post (.returned (.tuple #[.slice none 0 0, .int .i64 3])) wr by rw [HPost.out]; unfold FramesPost; rw [if_pos hr]; exact ⟨rfl, rfl⟩)
        have q2 : (1024 : Int) < (m : Int) := by omega
        clear hr hx hm
        go_wp2_with (at_builtin; refine stopAt ?_; intro q hq)
        exact HF.out
      · have HZ := hid (show ∀ y ∈ L.take (i + 1), ¬ 1024 < y.length by
          intro y hy
          rw [List.take_succ_eq_append_getElem hil] at hy
          rcases List.mem_append.1 hy with hy | hy
          · exact HI.out y hy
          · simp at hy; subst hy; rw [← hx]; omega)
        have q2 : ¬ (1024 : Int) < (m : Int) := by omega
        have q3 : decide ((1024 : Int) < (m : Int)) = false := decide_eq_false q2
        clear hx hm
        go_wp2_with (at_builtin; refine stopAt ?_; intro q hq)
        go_roundw
        case rel => exact ⟨i + 1, by omega, by go_num, by first | trivial | rfl, HZ⟩
        case measure => simp [intOf]; omega
    · obtain rfl : n = i := by omega
      have hsm : ∀ x ∈ L, x.length ≤ 1024 := fun x hx => by
        have := HI.out x (by rw [HN.out, List.take_length]; exact hx)
        omega
      have hr : L.any (fun x => decide (1024 < x.length)) = false := by
        rw [List.any_eq_false]
        intro x hx
        have := hsm x hx
        simpa using this
      have Hr := hid hr
      have Hsm := hid hsm
      have H0 := hid (show Fresh wr (.slice none 0 0) (flat (L.take 0)) wr ∧ (flat (L.take 0)).length ≤ 65536 from ⟨Fresh.nil wr, by simp [flat]⟩)
      clear hr hsm HI
      have q1 : ¬ ((n : Int) < (n : Int)) := by omega
      go_wp2_with (at_builtin; refine stopAt ?_; intro q hq)
      obtain ⟨w0, hw0⟩ : ∃ w0, w0 = wr := ⟨_, rfl⟩
      subst hw0
      go_loopw [4, 6, 7, 8] (fun ov iv _ _ wx => ∃ (i : Nat) (ad : Option Addr) (cc fl : Nat), i ≤ n ∧ iv = .int .i64 i ∧ ov = .slice ad fl cc ∧ Hid (fl = (flat (L.take i)).length ∧ Fresh w0 (.slice ad fl cc) (flat (L.take i)) wx ∧ (flat (L.take i)).length ≤ 65536)) (fun _ iv _ _ _ => n - (intOf iv).toNat)
      case atStart => exact ⟨0, none, 0, 0, Nat.zero_le _, rfl, rfl, hid ⟨by simp [flat], H0.out⟩⟩
      case round =>
        clear H0
        obtain ⟨i, ad, cc, fl, hi, rfl, rfl, HI⟩ := hrel
        by_cases hin : i < n
        · have hil : i < L.length := by have := HN.out; omega
          obtain ⟨adl, ao', c', rfl, hc, hc2, hcs⟩ := (H.out.keep HI.out.2.1.keep) i hil
          obtain ⟨x, hx⟩ : ∃ x, x = L[i] := ⟨_, rfl⟩
          rw [← hx] at hc hc2 hcs
          have hx1024 := Hsm.out x (by rw [hx]; exact List.getElem_mem hil)
          have htk : L.take (i + 1) = L.take i ++ [x] := by rw [List.take_succ_eq_append_getElem hil, hx]
          obtain ⟨m, hm⟩ : ∃ m, m = x.length := ⟨_, rfl⟩
          rw [← hm] at hc hc2 hcs hx1024
          have q2 : (i : Int) < (n : Int) := by omega
          have HX := hid (And.intro hcs (And.intro hm htk))
          clear hcs hx hm htk hc2
          go_wp2_with (at_builtin; refine stopAt ?_; intro q hq)
          refine (rput_any wr 2 ao' m c' x HX.out.1 hx1024).mono ?_
          rintro e w4 ⟨v4, rfl, hf4⟩
          have hfl4 : (frame 2 x).length = m + 10 := by rw [frame_length, HX.out.2.1]
          obtain ⟨ad4, c4, hv4, -⟩ := hf4.row.form
          rw [hfl4] at hv4
          subst hv4
          have HF4 := hid (And.intro hf4 hfl4)
          clear hf4 hfl4
          go_wp2_with (at_builtin; refine stopAt ?_; intro q hq)
          (refine hq.out ?_; clear hq q)
          refine wpList_plain rfl (fun K hK => ?_)
          refine wp_append_fresh (r := frame 2 x) _ _ rfl rfl (HI.out.2.1.later HF4.out.1.keep) ad4 (m + 10) c4 rfl (by have h := Cells.of_row (show Row w4 _ 1 (.slice ad4 (m + 10) c4) (m + 10) _ from HF4.out.2 ▸ HF4.out.1.row); exact h) (by have := HI.out.2.2; omega) ?_
          intro v5 w5 hf5 _
          have e5 : flat (L.take i) ++ frame 2 x = flat (L.take (i + 1)) := by rw [HX.out.2.2, flat_append]; simp [flat]
          rw [e5] at hf5
          obtain ⟨f2, hf2⟩ : ∃ f2, f2 = (flat (L.take (i + 1))).length := ⟨_, rfl⟩
          obtain ⟨ad5, c5, hv5, -⟩ := hf5.row.form
          rw [← hf2] at hv5
          subst hv5
          refine hK _ _ ?_
          clear hK K
          by_cases hov : 65536 < f2
          · have HF := hid (show Post (.returned (.tuple #[.slice none 0 0, .int .i64 5])) w5 by
              rw [HPost.out]
              unfold FramesPost
              have := flat_take_le L (i + 1)
              rw [if_neg (by rw [Hr.out]; simp), if_pos (by omega)]
              exact ⟨rfl, hf5.keep⟩)
            have q4 : (65536 : Int) < (f2 : Int) := by omega
            clear hf5 hf2 e5
            go_wp2_with (at_builtin; refine stopAt ?_; intro q hq)
            exact HF.out
          · have HZ := hid (And.intro hf2 (And.intro hf5 (show (flat (L.take (i + 1))).length ≤ 65536 by omega)))
            have q4 : ¬ (65536 : Int) < (f2 : Int) := by omega
            have q5 : decide ((65536 : Int) < (f2 : Int)) = false := decide_eq_false q4
            clear hf5 hf2 e5
            go_wp2_with (at_builtin; refine stopAt ?_; intro q hq)
            go_roundw
            case rel => exact ⟨i + 1, ad5, c5, f2, by omega, by go_num, rfl, HZ⟩
            case measure => simp [intOf]; omega
        · obtain rfl : n = i := by omega
          have q2 : ¬ ((n : Int) < (n : Int)) := by omega
          obtain ⟨hfl, hf, hle⟩ := HI.out
          have htl : L.take n = L := by rw [HN.out, List.take_length]
          rw [htl] at hf hle
          have HF := hid (show Post (.returned (.tuple #[.slice ad fl cc, .int .i64 0])) wr by
            rw [HPost.out]
            unfold FramesPost
            rw [if_neg (by rw [Hr.out]; simp), if_neg (by omega)]
            exact ⟨_, rfl, hf⟩)
          clear hf hle hfl htl HI
          go_wp2_with (at_builtin; refine stopAt ?_; intro q hq)
          exact HF.out
end Go.Proofs.Yteemekckiafnfaa
/- The document's log: how it lies in memory; Gone, used, Room, full, lay. Conditions: as the contracts name them. -/
namespace Go.Proofs.Yteemekckiafnfaa
open Go.RowKit
open DM BM WM

def rwCells (d ep : Nat) (vl : Value) (safe : Nat) (dead : Bool) : Array Value := #[.pointer (some ⟨d, 0, none⟩), .int .u64 (ep : Nat), vl, .int .i64 (safe : Nat), .bool dead]
theorem cells5w {w : World} {b : Nat} {T : TypeId} {a0 a1 a2 a3 a4 : Value} (H : w.heap[b]? = some (.cells #[a0, a1, a2, a3, a4] T (0, 0))) :
    w.cell? ⟨b, 0, none⟩ = some a0 ∧ w.cell? ⟨b, 1, none⟩ = some a1 ∧ w.cell? ⟨b, 2, none⟩ = some a2 ∧ w.cell? ⟨b, 3, none⟩ = some a3 ∧ w.cell? ⟨b, 4, none⟩ = some a4 ∧ (∀ o, w.frozen? ⟨b, o, none⟩ = false) ∧ b < w.heap.size := by
  refine ⟨?_, ?_, ?_, ?_, ?_, ?_, heap_lt H⟩ <;> simp [World.cell?, World.frozen?, H]

structure RWalIs (w : World) (b d : Nat) (F : Nat → Prop) (h : Nat) (G : Lg) (vl : Value) (vs : List Value) : Prop where
  head : w.heap[b]? = some (.cells (rwCells d G.ep vl G.safe G.dead) 62 (0, 0))
  recs : Recs w F (fun k => k = b) vl G.l vs
  self : F b
  lt : ∀ k, F k → k < w.heap.size
  ok : LgOk h G

theorem RWalIs.keep {w w' : World} {b d : Nat} {F K : Nat → Prop} {h : Nat} {G : Lg} {vl : Value} {vs : List Value} (H : RWalIs w b d F h G vl vs) (hk : Keep K w w') (hn : ∀ k, F k → ¬ K k) : RWalIs w' b d F h G vl vs :=
  ⟨hk.get H.head (hn _ H.self), H.recs.keep hk fun k e _ => hn k e, H.self, fun k x => Nat.lt_of_lt_of_le (H.lt k x) hk.size, H.ok⟩
theorem RWalIs.head2 {w w' : World} {b d : Nat} {F K : Nat → Prop} {h : Nat} {G G' : Lg} {vl : Value} {vs : List Value} (H : RWalIs w b d F h G vl vs) (hk : Keep K w w') (hK : ∀ k, F k → K k → k = b) (hl : G'.l = G.l)
    (hh : w'.heap[b]? = some (.cells (rwCells d G'.ep vl G'.safe G'.dead) 62 (0, 0))) (ok : LgOk h G') : RWalIs w' b d F h G' vl vs :=
  ⟨hh, by rw [hl]; exact H.recs.keep hk fun k f e x => e (hK k f x), H.self, fun k x => Nat.lt_of_lt_of_le (H.lt k x) hk.size, ok⟩

structure RLogIs (w : World) (b d : Nat) (F Fd : Nat → Prop) (D : Dk) (G : Lg) (vl : Value) (vs : List Value) : Prop where
  wal : RWalIs w b d F (half D) G vl vs
  disk : RefAt w d Fd D
  apart : ∀ k, F k → ¬ Fd k
def RLogAt (w : World) (b d : Nat) (F Fd : Nat → Prop) (D : Dk) (G : Lg) : Prop := ∃ vl vs, RLogIs w b d F Fd D G vl vs
theorem RLogAt.keep {w w' : World} {b d : Nat} {F Fd K : Nat → Prop} {D : Dk} {G : Lg} (H : RLogAt w b d F Fd D G) (hk : Keep K w w') (h1 : ∀ k, F k → ¬ K k) (h2 : ∀ k, Fd k → ¬ K k) : RLogAt w' b d F Fd D G :=
  let ⟨vl, vs, h⟩ := H; ⟨vl, vs, h.wal.keep hk h1, h.disk.keep hk h2, h.apart⟩
theorem RLogAt.later {w w' : World} {b d : Nat} {F Fd : Nat → Prop} {D : Dk} {G : Lg} (H : RLogAt w b d F Fd D G) (hk : Keep (fun _ => False) w w') : RLogAt w' b d F Fd D G := H.keep hk (fun _ _ x => x) (fun _ _ x => x)
theorem RLogAt.ok {w : World} {b d : Nat} {F Fd : Nat → Prop} {D : Dk} {G : Lg} (H : RLogAt w b d F Fd D G) : LgOk (half D) G := let ⟨_, _, h⟩ := H; h.wal.ok
theorem RLogAt.diskOk {w : World} {b d : Nat} {F Fd : Nat → Prop} {D : Dk} {G : Lg} (H : RLogAt w b d F Fd D G) : Ok D := let ⟨_, _, h⟩ := H; h.disk.ok

def RLogTo (b d : Nat) (F Fd : Nat → Prop) (w : World) (D' : Dk) (G' : Lg) (w' : World) : Prop :=
  ∃ F' Fd', RLogAt w' b d F' Fd' D' G' ∧ Keep (fun k => F k ∨ Fd k) w w' ∧ (∀ k, F' k → F k ∨ w.heap.size ≤ k) ∧ ∀ k, Fd' k → Fd k ∨ w.heap.size ≤ k
theorem RLogAt.to {w : World} {b d : Nat} {F Fd : Nat → Prop} {D : Dk} {G : Lg} (H : RLogAt w b d F Fd D G) : RLogTo b d F Fd w D G w := ⟨F, Fd, H, Keep.refl _ _, fun _ x => .inl x, fun _ x => .inl x⟩
theorem RLogTo.since {b d : Nat} {F Fd : Nat → Prop} {w w1 w' : World} {D' : Dk} {G' : Lg} (h : RLogTo b d F Fd w1 D' G' w') (hk : Keep (fun _ => False) w w1) : RLogTo b d F Fd w D' G' w' := by
  obtain ⟨F', Fd', h1, h2, h3, h4⟩ := h
  exact ⟨F', Fd', h1, hk.next h2 (fun _ _ x => x.elim) (fun _ _ x => x), fun k x => (h3 k x).imp id fun y => Nat.le_trans hk.size y, fun k x => (h4 k x).imp id fun y => Nat.le_trans hk.size y⟩
theorem RLogAt.toLater {w w' : World} {b d : Nat} {F Fd : Nat → Prop} {D : Dk} {G : Lg} (H : RLogAt w b d F Fd D G) (hk : Keep (fun _ => False) w w') : RLogTo b d F Fd w D G w' := (H.later hk).to.since hk
theorem RLogTo.next {w w1 w2 : World} {b d : Nat} {F Fd : Nat → Prop} {D1 D2 : Dk} {G1 G2 : Lg} (h1 : RLogTo b d F Fd w D1 G1 w1) (h : ∀ F1 Fd1, RLogAt w1 b d F1 Fd1 D1 G1 → RLogTo b d F1 Fd1 w1 D2 G2 w2) : RLogTo b d F Fd w D2 G2 w2 := by
  obtain ⟨F1, Fd1, a1, hk, h1', h2'⟩ := h1
  obtain ⟨F2, Fd2, b1, b2, b3, b4⟩ := h F1 Fd1 a1
  have s := hk.size
  refine ⟨F2, Fd2, b1, hk.next b2 (fun _ _ x => x) (fun k hk' x => ?_), fun k x => ?_, fun k x => ?_⟩
  · rcases x with x | x
    · rcases h1' k x with y | y
      · exact .inl y
      · omega
    · rcases h2' k x with y | y
      · exact .inr y
      · omega
  · rcases b3 k x with y | y
    · exact h1' k y
    · right; omega
  · rcases b4 k x with y | y
    · exact h2' k y
    · right; omega

/-- A cell of the head is set. -/
theorem RLogAt.set {w w' : World} {b d : Nat} {F Fd : Nat → Prop} {D : Dk} {G G' : Lg} (H : RLogAt w b d F Fd D G) (hk : Keep (fun k => k = b) w w') (hl : G'.l = G.l) (ok : LgOk (half D) G')
    (hh : ∀ vl, w.heap[b]? = some (.cells (rwCells d G.ep vl G.safe G.dead) 62 (0, 0)) → w'.heap[b]? = some (.cells (rwCells d G'.ep vl G'.safe G'.dead) 62 (0, 0))) : RLogTo b d F Fd w D G' w' := by
  obtain ⟨vl, vs, h⟩ := H
  exact ⟨F, Fd, ⟨vl, vs, h.wal.head2 hk (fun _ _ x => x) hl (hh vl h.wal.head) ok, h.disk.keep hk fun k e c => by subst c; exact h.apart _ h.wal.self e, h.apart⟩, hk.mono fun i _ e => by subst e; exact .inl h.wal.self, fun _ x => .inl x, fun _ x => .inl x⟩

set_option maxRecDepth 20000 in
set_option maxHeartbeats 400000 in
theorem gone_any (w : World) (b d : Nat) (F Fd : Nat → Prop) (D : Dk) (G : Lg) (H : RLogAt w b d F Fd D G) :
    Calls Try.prog 53 #[.pointer (some ⟨b, 0, none⟩)] w fun x w' => x = .returned (.bool (gone D G)) ∧ RLogTo b d F Fd w D (WM.mark D G) w' := by
  have hk : ∀ x : Bool, Keep (fun k => k = b) w (w.setCell ⟨b, 4, none⟩ (.bool x)) := fun x => by refine Keep.setCell (Keep.refl _ _) (.inl ?_) _; rfl
  have fin := hid (show RLogTo b d F Fd w D (WM.mark D G) (w.setCell ⟨b, 4, none⟩ (.bool (gone D G))) from
    H.set (hk _) rfl H.ok.mark (fun vl h => by rw [heap_setCell6 h 4 (.bool (gone D G))]; rfl))
  obtain ⟨vl, vs, HL⟩ := H
  have hh := HL.wal.head
  unfold rwCells at hh
  obtain ⟨h0, h1, h2, h3, h4, hf, hb⟩ := cells5w hh
  obtain ⟨vs2, vw2, hI⟩ := HL.disk
  have hd := hI.head
  unfold refCells at hd
  obtain ⟨d0, d1, d2, d3, df, db⟩ := cells4 hd
  have hg : gone D G = (G.dead || D.down) := rfl
  rw [hg] at fin ⊢
  clear hh HL hI hd hk hg
  generalize G.dead = x at *
  generalize D.down = y at *
  cases x <;> cases y
  all_goals
    go_enter Try.func53, Try.ntmps53
    go_wp2_with (at_builtin; refine stopAt ?_; intro q hq)
    go_ret
    exact ⟨rfl, fin.out⟩

theorem area_small {D : Dk} (ok : Ok D) : 32 * half D ≤ 65536 := by have := ok.few; unfold half; omega
theorem LgOk.frames {w w' : World} {D : Dk} {G : Lg} {e : Ending} (k : LgOk (half D) G) (ok : Ok D) (h : FramesPost w G.l e w') : ∃ v, e = .returned (.tuple #[v, .int .i64 0]) ∧ Fresh w v (flat G.l) w' := by
  unfold FramesPost at h
  have h1 : G.l.any (fun x => decide (1024 < x.length)) = false := by
    rw [List.any_eq_false]
    intro x hx
    have := k.small x hx
    simpa using this
  have h2 := k.fit
  have h3 := area_small ok
  rw [if_neg (by rw [h1]; simp), if_neg (by omega)] at h
  exact h

set_option maxRecDepth 20000 in
set_option maxHeartbeats 400000 in
theorem used_any (w : World) (b d : Nat) (F Fd : Nat → Prop) (D : Dk) (G : Lg) (H : RLogAt w b d F Fd D G) :
    Calls Try.prog 55 #[.pointer (some ⟨b, 0, none⟩)] w fun x w' => x = .returned (.int .i64 ((flat G.l).length : Nat)) ∧ Keep (fun _ => False) w w' := by
  have hok := hid (And.intro H.ok H.diskOk)
  obtain ⟨vl, vs, HL⟩ := H
  have hh := HL.wal.head
  unfold rwCells at hh
  obtain ⟨h0, h1, h2, h3, h4, hf, hb⟩ := cells5w hh
  obtain ⟨adl, cl, rfl, -⟩ := HL.wal.recs.row.form
  have hfr := frames_any w adl cl G.l HL.wal.recs.lists (by have := hok.out.1.count; omega)
  have HF := hid hfr
  clear hh HL h0 h1 h3 h4 hfr
  go_enter Try.func55, Try.ntmps55
  go_wp2_with (at_builtin; refine stopAt ?_; intro q hq)
  refine HF.out.mono ?_
  intro e w2 hp
  obtain ⟨v, rfl, hf2⟩ := hok.out.1.frames hok.out.2 hp
  obtain ⟨ad, c, rfl, -⟩ := hf2.row.form
  have HK := hid hf2.keep
  clear hf2 hp
  go_wp2_with (at_builtin; refine stopAt ?_; intro q hq)
  go_ret
  exact ⟨rfl, HK.out⟩

set_option maxRecDepth 20000 in
set_option maxHeartbeats 400000 in
theorem rroom_any (w : World) (b d : Nat) (F Fd : Nat → Prop) (D : Dk) (G : Lg) (H : RLogAt w b d F Fd D G) :
    Calls Try.prog 54 #[.pointer (some ⟨b, 0, none⟩)] w fun x w' => x = .returned (.int .i64 (room D G : Nat)) ∧ Keep (fun _ => False) w w' := by
  have hus := used_any w b d F Fd D G H
  have hfit := H.ok.fit
  have hsm := area_small H.diskOk
  obtain ⟨vl, vs, HL⟩ := H
  have hh := HL.wal.head
  unfold rwCells at hh
  obtain ⟨h0, h1, h2, h3, h4, hf, hb⟩ := cells5w hh
  have hhf := rhalf_any w d Fd D HL.disk
  obtain ⟨r, hr⟩ : ∃ r, r = room D G := ⟨_, rfl⟩
  obtain ⟨h, hhd⟩ : ∃ h, h = half D := ⟨_, rfl⟩
  obtain ⟨m, hm⟩ : ∃ m, m = (flat G.l).length := ⟨_, rfl⟩
  obtain ⟨nn, hnn⟩ : ∃ nn, nn = 32 * h := ⟨_, rfl⟩
  have hr2 : r = nn - m := by rw [hr, hnn, hhd, hm]; rfl
  rw [← hr]
  rw [← hm] at hus
  rw [← hhd] at hhf
  have q0 : (32 : Int) * (h : Int) = (nn : Int) := by omega
  have q1 : (nn : Int) - (m : Int) = (r : Int) := by rw [← hhd] at hfit; omega
  have q2 := wi64 nn (by omega)
  have q3 := wi64 r (by omega)
  clear hh HL hr hhd hm hnn hr2 h1 h2 h3 h4 hfit hsm
  go_enter Try.func54, Try.ntmps54
  go_wp2_with (at_builtin; refine stopAt ?_; intro q hq)
  refine hhf.mono ?_
  rintro e w2 ⟨rfl, rfl⟩
  go_wp2_with (at_builtin; refine stopAt ?_; intro q hq)
  refine hus.mono ?_
  rintro e w3 ⟨rfl, hk⟩
  have HK := hid hk
  clear hk
  go_wp2_with (at_builtin; refine stopAt ?_; intro q hq)
  go_ret
  exact ⟨rfl, HK.out⟩
end Go.Proofs.Yteemekckiafnfaa
/- The document's log: full and lay. Conditions: as the contracts name them. -/
namespace Go.Proofs.Yteemekckiafnfaa
open Go.RowKit
open DM BM WM

set_option maxRecDepth 20000 in
set_option maxHeartbeats 1000000 in
theorem rfull_any (w : World) (b d : Nat) (Fd : Nat → Prop) (D : Dk) (hb0 : w.cell? ⟨b, 0, none⟩ = some (.pointer (some ⟨d, 0, none⟩))) (hD : RefAt w d Fd D) (ao : Option Addr) (c : Nat) (L : List (List UInt8)) (hL : Lists w ao L) (hn : L.length ≤ 1000000000)
    (hsm : ∀ x ∈ L, x.length ≤ 1024) (hfit : (flat L).length ≤ 32 * half D) :
    Calls Try.prog 56 #[.pointer (some ⟨b, 0, none⟩), .slice ao L.length c] w (Gives w (areaH (half D) L)) := by
  have hfr := frames_any w ao c L hL hn
  have hsmall := area_small hD.ok
  have HFr := hid (show ∀ e w', FramesPost w L e w' → ∃ v, e = .returned (.tuple #[v, .int .i64 0]) ∧ Fresh w v (flat L) w' from fun e w' h => by
    unfold FramesPost at h
    have h1 : L.any (fun x => decide (1024 < x.length)) = false := by
      rw [List.any_eq_false]
      intro x hx
      have := hsm x hx
      simpa using this
    rw [if_neg (by rw [h1]; simp), if_neg (by omega)] at h
    exact h)
  have HD := hid hD
  have HC := hid hfr
  have hblt := World.block_lt_of_cell? _ _ hb0
  have Hb0 := hid hb0
  obtain ⟨h, hh⟩ : ∃ h, h = half D := ⟨_, rfl⟩
  obtain ⟨m, hm⟩ : ∃ m, m = (flat L).length := ⟨_, rfl⟩
  obtain ⟨nn, hnn⟩ : ∃ nn, nn = 32 * h := ⟨_, rfl⟩
  have q0 : (32 : Int) * (h : Int) = (nn : Int) := by omega
  have q1 := wi64 nn (by rw [hnn, hh]; omega)
  have hmn : m ≤ nn := by rw [hm, hnn, hh]; exact hfit
  have hnn2 : nn ≤ 65536 := by rw [hnn, hh]; exact hsmall
  have HH := hid (And.intro hh (And.intro hm hnn))
  rw [← hh]
  clear hfr hD hL hh hm hnn hfit hsm hsmall hb0
  go_enter Try.func56, Try.ntmps56
  go_wp2_with (at_builtin; refine stopAt ?_; intro q hq)
  refine HC.out.mono ?_
  intro e w2 hp
  obtain ⟨v, rfl, hf2⟩ := HFr.out e w2 hp
  obtain ⟨ad, cv, rfl, -⟩ := hf2.row.form
  rw [← HH.out.2.1]
  have H0 := hid (show Fresh w (.slice ad m cv) (flat L ++ List.replicate 0 0) w2 by have h := hf2; rw [← HH.out.2.1] at h; simpa using h)
  clear hp hf2
  go_wp2_with (at_builtin; refine stopAt ?_; intro q hq)
  go_loopw [5] (fun ov wr => ∃ (j : Nat) (ad : Option Addr) (cv t : Nat), t = m + j ∧ t ≤ nn ∧ ov = .slice ad t cv ∧ Hid (Fresh w (.slice ad t cv) (flat L ++ List.replicate j 0) wr)) (fun ov _ => nn - (match ov with | .slice _ n _ => n | _ => 0))
  case atStart => exact ⟨0, ad, cv, m, rfl, hmn, rfl, H0⟩
  case round =>
    clear H0
    obtain ⟨j, ad, cv, t, ht, htn, rfl, HI⟩ := hrel
    have Ht := hid ht
    clear ht
    have hhf := rhalf_any wr d Fd D (HD.out.keep HI.out.keep fun _ _ x => x)
    rw [← HH.out.1] at hhf
    have b0 := Hb0.out
    rw [← World.cell?_of_block (HI.out.keep.block _ hblt id)] at b0
    by_cases htl : t < nn
    · have s1 : (t : Int) < (nn : Int) := by omega
      go_wp2_with (at_builtin; refine stopAt ?_; intro q hq)
      refine hhf.mono ?_
      rintro e w4 ⟨rfl, rfl⟩
      go_wp2_with (at_builtin; refine stopAt ?_; intro q hq)
      (refine hq.out ?_; clear hq q)
      have hnew := heap_alloc_new w4 (.cells #[.int .u8 0] 5)
      have hk5 : Keep (fun _ => False) w4 (w4.alloc (.cells #[.int .u8 0] 5)) := (Keep.refl _ _).alloc _
      obtain ⟨w5, hw5⟩ : ∃ w5, w5 = w4.alloc (.cells #[.int .u8 0] 5) := ⟨_, rfl⟩
      rw [← hw5] at hnew hk5 ⊢
      clear hw5
      have hc1 : Cells w5 (some ⟨w4.heap.size, 0, none⟩) 1 1 (bytesV [0]) := by
        have := Cells.one (x := 0) (by decide) (show w5.heap[w4.heap.size]? = some (.cells #[.int .u8 ((0 : Nat) : Int)] 5 (0, 0)) from hnew)
        exact this
      refine wpList_plain rfl (fun K hK => ?_)
      refine wp_append_fresh (r := [0]) _ _ rfl rfl (HI.out.later hk5) (some ⟨w4.heap.size, 0, none⟩) 1 1 rfl hc1 (by have := HH.out.2.1; have := Ht.out; simp; omega) ?_
      intro v6 w6 hf6 _
      have e6 : (flat L ++ List.replicate j 0) ++ [0] = flat L ++ List.replicate (j + 1) 0 := by rw [List.append_assoc, List.replicate_succ']
      rw [e6] at hf6
      obtain ⟨ad6, c6, hv6, -⟩ := hf6.row.form
      have hl6 : (flat L ++ List.replicate (j + 1) 0).length = t + 1 := by have := HH.out.2.1; have := Ht.out; simp; omega
      rw [hl6] at hv6
      subst hv6
      refine hK _ _ ?_
      clear hK K
      have HZ := hid hf6
      clear hf6 e6 hl6 hc1 hnew hk5
      go_wp2_with (at_builtin; refine stopAt ?_; intro q hq)
      go_roundw
      case rel => exact ⟨j + 1, ad6, c6, t + 1, by have := Ht.out; omega, by omega, rfl, HZ⟩
      case measure => simp; omega
    · obtain rfl : t = nn := by omega
      have s1 : ¬ (t : Int) < (t : Int) := by omega
      go_wp2_with (at_builtin; refine stopAt ?_; intro q hq)
      refine hhf.mono ?_
      rintro e w4 ⟨rfl, rfl⟩
      go_wp2_with (at_builtin; refine stopAt ?_; intro q hq)
      go_ret
      refine ⟨_, rfl, ?_⟩
      have h1 := HI.out
      have e1 : flat L ++ List.replicate j 0 = areaH h L := by
        unfold areaH
        have h2 := HH.out.2.1
        have h3 := HH.out.2.2
        have h4 := Ht.out
        rw [show j = 32 * h - (flat L).length by omega]
      rw [e1] at h1
      exact h1

theorem Cells.below {w : World} {x : Addr} {n size : Nat} {xs : List Value} (h : Cells w (some x) n size xs) (hp : 0 < n * size) : x.block < w.heap.size := by
  obtain ⟨ad, had, hc⟩ := h.2 hp
  cases had
  have hl : 0 < xs.length := by rw [h.1]; exact hp
  have := World.block_lt_of_cell? w _ (hc 0 _ (List.getElem?_eq_getElem hl))
  rwa [show (x.add 0) = x by simp [Addr.add]] at this

/-- What lay leaves. -/
def LayTo (w : World) (b d ep : Nat) (vl : Value) (sf : Nat) (dead : Bool) (Fd : Nat → Prop) (R : Int × Dk) (e : Ending) (w' : World) : Prop :=
  e = .returned (.int .i64 R.1) ∧ (∃ Fd', RefAt w' d Fd' R.2 ∧ ∀ k, Fd' k → Fd k ∨ w.heap.size ≤ k) ∧ Keep (fun k => Fd k ∨ k = b) w w' ∧ w'.heap[b]? = some (.cells (rwCells d ep vl sf (dead || decide (R.1 ≠ 0))) 62 (0, 0))

set_option maxRecDepth 20000 in
set_option maxHeartbeats 2000000 in
theorem rlay_any (w : World) (b d ep ep2 sf lo hi n c : Nat) (vl : Value) (dead : Bool) (Fd : Nat → Prop) (D : Dk) (bs : List UInt8) (ao : Option Addr) (H : w.heap[b]? = some (.cells (rwCells d ep vl sf dead) 62 (0, 0)))
    (hD : RefAt w d Fd D) (hb : ¬ Fd b) (hsrc : Cells w ao n 1 (bytesV bs)) (hap : ∀ x, ao = some x → ¬ Fd x.block ∧ x.block ≠ b) (hn : n = 32 * half D) (hnc : n ≤ c) (hlo : lo ≤ hi) (hhi : hi ≤ half D) (z : Int) (hz : z + 1 = (hi : Int)) (hfew : D.waits.length ≤ 800000) :
    Calls Try.prog 57 #[.pointer (some ⟨b, 0, none⟩), .int .u64 (ep2 : Nat), .slice ao n c, .int .i64 (lo : Nat), .int .i64 z] w (LayTo w b d ep vl sf dead Fd (lay ep2 bs lo (hi - lo) D)) := by
  have hfewD := hD.ok.few
  have hhalf : half D ≤ 1023 := by unfold half; omega
  obtain ⟨R, hR⟩ : ∃ R, R = lay ep2 bs lo (hi - lo) D := ⟨_, rfl⟩
  obtain ⟨Post, hPost⟩ : ∃ Post, Post = LayTo w b d ep vl sf dead Fd R := ⟨_, rfl⟩
  rw [← hR, ← hPost]
  have HPost := hid (And.intro hPost hR)
  have HH := hid (And.intro H (And.intro hsrc (And.intro hap hn)))
  have H0 := hid (show ∃ F' D', lay ep2 bs lo (hi - lo) D = lay ep2 bs lo (hi - lo) D' ∧ Keep Fd w w ∧ RefAt w d F' D' ∧ (∀ k, F' k → Fd k ∨ w.heap.size ≤ k) ∧ D'.safe.length = D.safe.length ∧ D'.waits.length ≤ D.waits.length + (lo - lo) from ⟨Fd, D, rfl, Keep.refl _ _, hD, fun _ x => .inl x, rfl, by omega⟩)
  have hblt := heap_lt H
  clear hR hPost H hsrc hap hn hD
  go_enter Try.func57, Try.ntmps57
  go_wp2_with (at_builtin; refine stopAt ?_; intro q hq)
  go_loopw [11, 12] (fun iv _ wr => ∃ i : Nat, lo ≤ i ∧ i ≤ hi ∧ iv = .int .i64 i ∧ Hid (∃ F' D', lay ep2 bs lo (hi - lo) D = lay ep2 bs i (hi - i) D' ∧ Keep Fd w wr ∧ RefAt wr d F' D' ∧ (∀ k, F' k → Fd k ∨ w.heap.size ≤ k) ∧ D'.safe.length = D.safe.length ∧ D'.waits.length ≤ D.waits.length + (i - lo))) (fun iv _ _ => hi - (intOf iv).toNat)
  case atStart => exact ⟨lo, Nat.le_refl _, hlo, rfl, H0⟩
  case round =>
    clear H0
    obtain ⟨i, hi1, hi2, rfl, HI⟩ := hrel
    obtain ⟨F', D', hl, hk, hD', hF', hs', hw'⟩ := HI.out
    have hh := hk.get HH.out.1 hb
    obtain ⟨i0, i1, i2, i3, i4, if1, ib1⟩ := cells5w (show wr.heap[b]? = some (.cells #[_, _, _, _, _] _ (0, 0)) from hh)
    have Hh := hid hh
    by_cases hih : i < hi
    · have s1 : (i : Int) ≤ z := by omega
      obtain ⟨j, hj⟩ : ∃ j, hi - i = j + 1 := ⟨hi - i - 1, by omega⟩
      obtain ⟨q, hq⟩ : ∃ q, q = WM.first D ep2 := ⟨_, rfl⟩
      have hq' : q = WM.first D' ep2 := by rw [hq, first_len hs']
      have hq2 : q ≤ 3000 := by
        rw [hq]; unfold WM.first
        have : ep2 % 2 = 0 ∨ ep2 % 2 = 1 := by omega
        rcases this with h | h <;> rw [h] <;> omega
      obtain ⟨t, ht⟩ : ∃ t, t = q + i := ⟨_, rfl⟩
      have g1 : (q : Int) + (i : Int) = (t : Int) := by omega
      have g2 := wi64 t (by omega)
      obtain ⟨p, hp⟩ : ∃ p, p = 32 * i := ⟨_, rfl⟩
      have g3 : 32 * (i : Int) = (p : Int) := by omega
      have g4 := wi64 p (by omega)
      obtain ⟨p2, hp2⟩ : ∃ p2, p2 = p + 32 := ⟨_, rfl⟩
      have g5 : (p : Int) + 32 = (p2 : Int) := by omega
      have g6 := wi64 p2 (by omega)
      obtain ⟨hH0, hsrc, hap, hn⟩ := HH.out
      have hsl : ∀ w, (Instr.sliceAt 36 (.slice ao n c) (some (.int .i64 (p : Int))) (some (.int .i64 (p2 : Int))) none).run Try.prog w = .ok (.slice (tailAt ao c p 1) 32 (c - p)) w := fun w => by
        have h := run_sliceAt_lh (P := Try.prog) ty_bytes ao n c .i64 .i64 p p2 (by omega) (by omega) w
        rw [show p2 - p = 32 by omega] at h
        exact h
      have hsrcr := hsrc.keep hk (fun x hx => (hap x hx).1)
      have hcs := (Cells.tail hsrcr p (by omega) hnc (by decide)).take 32 (by omega)
      have hsec : List.take (32 * 1) (List.drop (p * 1) (bytesV bs)) = bytesV (secOf bs i) := by
        unfold secOf
        simp [bytesV, List.map_take, List.map_drop, hp]
      rw [hsec] at hcs
      have hav : ∀ x, tailAt ao c p 1 = some x → ¬ F' x.block := fun x hx hx2 => by
        have hbl : ∃ y, ao = some y ∧ x.block = y.block := by
          unfold tailAt at hx
          split at hx
          · exact ⟨x, hx, rfl⟩
          · cases ao with
            | none => simp at hx
            | some y => simp at hx; subst hx; exact ⟨y, rfl, by unfold Addr.add; split <;> rfl⟩
        obtain ⟨y, hy, hxy⟩ := hbl
        have h1 := (hap y hy).1
        rw [hxy] at hx2
        rcases hF' _ hx2 with h | h
        · exact h1 h
        · have h2 := hsrc.1
          subst hy
          have := hsrc.below (by omega)
          omega
      have HF := hid (show ∀ s : Later wr, Calls Try.prog 76 #[.pointer (some ⟨d, 0, none⟩), .int .u64 (ep2 : Nat)] s.val fun e w' => e = .returned (.int .i64 (q : Nat)) ∧ Keep (fun _ => False) s.val w' from
        fun s => by rw [hq']; exact (rfirst_any s.val d F' D' (hD'.keep s.keep fun _ _ x => x) ep2).mono fun e w' ⟨h1, h2⟩ => ⟨h1, by rw [h2]; exact Keep.refl _ _⟩)
      have hst : lay ep2 bs i (hi - i) D' = if (DM.write D' (t : Int) (secOf bs i)).1 = 0 then lay ep2 bs (i + 1) j (DM.write D' (t : Int) (secOf bs i)).2 else DM.write D' (t : Int) (secOf bs i) := by
        rw [hj, lay, ← hq', ← ht]
      have hW := fun s : Later wr => ref_write s.val d F' D' (t : Int) (tailAt ao c p 1) 32 (c - p) (secOf bs i) (hD'.keep s.keep fun _ _ x => x) (hcs.later s) (fun _ => hav) (by omega) (by decide) (by omega)
      obtain ⟨W, hWd⟩ : ∃ W, W = DM.write D' (t : Int) (secOf bs i) := ⟨_, rfl⟩
      have hwl : W.2.safe.length = D.safe.length := by rw [hWd, write_len]; exact hs'
      have hww : W.2.waits.length ≤ D.waits.length + (i + 1 - lo) := by rw [hWd]; have := write_waits D' (t : Int) (secOf bs i); omega
      rw [← hWd] at hst
      simp only [← hWd] at hW
      have j0 := fun s : Later wr => s.cell i0
      have HW := hid hW
      have HX := hid (And.intro hl (And.intro hk (And.intro hF' (And.intro hst (And.intro hwl (And.intro hww hj))))))
      generalize tailAt ao c p 1 = ta at *
      clear hW hWd hl hk hD' hF' hs' hw' hh HI hq hq' ht hp hp2 hH0 hsrc hap hn hsrcr hcs hsec hav hst hwl hww hj i0 i1 i2 i3 i4
      go_wp2_with (at_builtin; refine stopAt ?_; intro q hq)
      (refine wp_region_tail 19 (by kernel_rfl) (by kernel_rfl) ?_; simp only [List.take_succ_cons, List.take_zero, List.drop_succ_cons, List.drop_zero]; (repeat (go_big_quiet_step ((go_at_call 76; exact Later.call (HF.out _))))); refine wpQuiet_nil ?_; rintro _ ⟨sq, rfl⟩)
      clear j0
      go_wp2_with (at_builtin; refine stopAt ?_; intro q hq)
      refine (HW.out sq).mono ?_
      rintro e w3 ⟨rfl, F3, t1, t2, t3⟩
      obtain ⟨hl, hk, hF', hst, hwl, hww, hj⟩ := HX.out
      have hk3 : Keep Fd w w3 := (hk.next sq.keep (H := Fd) (fun _ _ x => x) (fun _ _ x => x.elim)).next t2 (fun _ _ x => x) (fun k hk' x => (hF' k x).elim id fun y => by omega)
      have hF3 : ∀ k, F3 k → Fd k ∨ w.heap.size ≤ k := fun k x => (t3 k x).elim (hF' k) fun y => .inr (Nat.le_trans (Nat.le_trans hk.size sq.keep.size) y)
      have hh3 := hk3.get HH.out.1 hb
      obtain ⟨i0, i1, i2, i3, i4, if1, ib3⟩ := cells5w (show w3.heap[b]? = some (.cells #[_, _, _, _, _] _ (0, 0)) from hh3)
      by_cases h0 : W.1 = 0
      · have HZ := hid (show ∃ F' D', lay ep2 bs lo (hi - lo) D = lay ep2 bs (i + 1) (hi - (i + 1)) D' ∧ Keep Fd w w3 ∧ RefAt w3 d F' D' ∧ (∀ k, F' k → Fd k ∨ w.heap.size ≤ k) ∧ D'.safe.length = D.safe.length ∧ D'.waits.length ≤ D.waits.length + (i + 1 - lo) from
          ⟨F3, W.2, by rw [hl, hst, if_pos h0, show hi - (i + 1) = j by omega], hk3, t1, hF3, hwl, hww⟩)
        rw [h0]
        clear hl hk hF' hst hwl hww hj t1 t2 t3 hk3 hF3 hh3
        go_wp2_with (at_builtin; refine stopAt ?_; intro q hq)
        go_roundw
        case rel => exact ⟨i + 1, by omega, by omega, by go_num, HZ⟩
        case measure => simp [intOf]; omega
      · have u1 : (W.1 == 0) = false := by simp [h0]
        have u2 : (W.1 != 0) = true := by simp [h0]
        have u3 : decide (W.1 = 0) = false := by simp [h0]
        have hRW : R = W := by rw [HPost.out.2, hl, hst, if_neg h0]
        have hk4 : Keep (fun k => k = b) w3 (w3.setCell ⟨b, 4, none⟩ (.bool true)) := by refine Keep.setCell (Keep.refl _ _) (.inl ?_) _; rfl
        have hFb3 : ¬ F3 b := fun x => (hF3 b x).elim hb fun y => by omega
        have HF9 := hid (show Post (.returned (.int .i64 W.1)) (w3.setCell ⟨b, 4, none⟩ (.bool true)) by
          rw [HPost.out.1, hRW]
          refine ⟨rfl, ⟨F3, t1.keep hk4 (fun k x y => by subst y; exact hFb3 x), hF3⟩, hk3.next hk4 (fun _ _ x => .inl x) (fun _ _ x => .inr x), ?_⟩
          rw [heap_setCell6 hh3 4 (.bool true), show (dead || decide (W.1 ≠ 0)) = true by simp [h0]]
          rfl)
        clear hl hk hF' hst hwl hww hj t1 t2 t3 hk3 hF3 hh3 h0 hRW hk4
        go_wp2_with (at_builtin; refine stopAt ?_; intro q hq)
        exact HF9.out
    · obtain rfl : hi = i := by omega
      have s1 : ¬ (hi : Int) ≤ z := by omega
      rw [Nat.sub_self] at hl
      have hR0 : R = (0, D') := by rw [HPost.out.2, hl]; rfl
      have HF9 := hid (show Post (.returned (.int .i64 0)) wr by
        rw [HPost.out.1, hR0]
        refine ⟨rfl, ⟨F', hD', hF'⟩, hk.mono fun _ _ x => .inl x, ?_⟩
        rw [hh, show (dead || decide ((0 : Int) ≠ 0)) = dead by simp])
      clear hl hk hD' hF' hs' hw' hh HI hR0
      go_wp2_with (at_builtin; refine stopAt ?_; intro q hq)
      exact HF9.out
end Go.Proofs.Yteemekckiafnfaa
/- The document's log: Append and Sync. Conditions: as the contracts name them. -/
namespace Go.Proofs.Yteemekckiafnfaa
open Go.RowKit
open DM BM WM

theorem mark_up {D : Dk} {G : Lg} (h : gone D G = false) : WM.mark D G = G := by
  have hd : G.dead = false := by unfold gone at h; simp only [Bool.or_eq_false_iff] at h; exact h.1
  unfold WM.mark
  rw [h]
  show ({ G with dead := false } : Lg) = G
  rw [← hd]

/-- From what lay leaves to the log. -/
theorem RLogAt.laid {w w' : World} {b d ep2 : Nat} {F Fd : Nat → Prop} {D : Dk} {G : Lg} {bs : List UInt8} {lo k : Nat} {vl : Value} {vs : List Value} {e : Ending} (H : RLogIs w b d F Fd D G vl vs)
    (h : LayTo w b d G.ep vl G.safe G.dead Fd (lay ep2 bs lo k D) e w') : e = .returned (.int .i64 (lay ep2 bs lo k D).1) ∧ RLogTo b d F Fd w (lay ep2 bs lo k D).2 { G with dead := G.dead || decide ((lay ep2 bs lo k D).1 ≠ 0) } w' := by
  obtain ⟨he, ⟨Fd', hD, hF⟩, hk, hh⟩ := h
  have hl := lay_len ep2 bs k lo D
  have hw : RWalIs w' b d F (half D) { G with dead := G.dead || decide ((lay ep2 bs lo k D).1 ≠ 0) } vl vs :=
    H.wal.head2 hk (fun k x y => y.elim (fun z => absurd z (H.apart k x)) id) rfl hh (H.wal.ok.die _)
  rw [← half_len hl] at hw
  refine ⟨he, F, Fd', ⟨vl, vs, hw, hD, fun k x y => ?_⟩, hk.mono fun k _ x => ?_, fun _ x => .inl x, hF⟩
  · rcases hF k y with z | z
    · exact H.apart k x z
    · have := H.wal.lt k x; omega
  · rcases x with x | x
    · exact .inr x
    · subst x; exact .inl H.wal.self

set_option maxRecDepth 20000 in
set_option maxHeartbeats 2000000 in
theorem rappend_any' (w : World) (b d : Nat) (F Fd : Nat → Prop) (D : Dk) (G : Lg) (H : RLogAt w b d F Fd D G) (ao : Option Addr) (n c : Nat) (body : List UInt8) (hsrc : Cells w ao n 1 (bytesV body))
    (hap : ∀ x, 0 < n → ao = some x → ¬ F x.block ∧ ¬ Fd x.block) (hn : n ≤ 1000000000) (hfew : D.waits.length ≤ 800000) :
    Calls Try.prog 31 #[.pointer (some ⟨b, 0, none⟩), .slice ao n c] w fun e w' =>
      e = .returned (.int .i64 (WM.append D G body).1) ∧ RLogTo b d F Fd w (WM.append D G body).2.1 (WM.append D G body).2.2 w' := by
  have hbl : body.length = n := by have := hsrc.1; rw [bytesV_length] at this; omega
  have hsml := area_small H.diskOk
  have hfit := H.ok.fit
  obtain ⟨R, hR⟩ : ∃ R, R = WM.append D G body := ⟨_, rfl⟩
  rw [← hR]
  have HR := hid hR
  have HS := hid (And.intro hsrc (And.intro hap hbl))
  have HH := hid H
  have hgo := gone_any w b d F Fd D G H
  clear hsrc hap H hR
  obtain ⟨r, hr⟩ : ∃ r, r = room D G := ⟨_, rfl⟩
  have hr2 : r ≤ 65536 := by rw [hr]; unfold room; omega
  have Hr := hid (show r = room D (WM.mark D G) from hr)
  have Hr' := hid hr
  clear hr hsml
  obtain ⟨m, hm⟩ : ∃ m, m = n + 10 := ⟨_, rfl⟩
  have g1 : (n : Int) + 10 = (m : Int) := by omega
  have g2 := wi64 m (by omega)
  have HM := hid hm
  clear hm
  cases hg : gone D G with
  | true =>
    rw [hg] at hgo
    have hres : R = (6, D, WM.mark D G) := by rw [HR.out]; unfold WM.append; rw [if_pos hg]
    have HRes := hid hres
    clear hres hg
    go_enter Try.func31, Try.ntmps31
    go_wp2_with (at_builtin; refine stopAt ?_; intro q hq)
    refine hgo.mono ?_
    rintro e w1 ⟨rfl, ht⟩
    have HT := hid ht
    clear ht
    go_wp2_with (at_builtin; refine stopAt ?_; intro q hq)
    obtain ⟨F1, Fd1, hL1, hk1, hF1, hFd1⟩ := HT.out
    have hrm := rroom_any w1 b d F1 Fd1 D _ hL1
    rw [← Hr.out] at hrm
    refine hrm.mono ?_
    rintro e w2 ⟨rfl, hk2⟩
    have HZ := hid (show RLogTo b d F Fd w D (WM.mark D G) w2 from HT.out.next fun F2 Fd2 h => h.toLater hk2)
    clear hL1 hk1 hF1 hFd1 hrm hk2 HT
    go_wp2_with (at_builtin; refine stopAt ?_; intro q hq)
    go_ret
    rw [HRes.out]
    exact ⟨rfl, HZ.out⟩
  | false =>
    rw [hg, mark_up hg] at hgo
    have Hg := hid hg
    clear hg
    go_enter Try.func31, Try.ntmps31
    go_wp2_with (at_builtin; refine stopAt ?_; intro q hq)
    refine hgo.mono ?_
    rintro e w1 ⟨rfl, ht⟩
    have HT := hid ht
    clear ht
    go_wp2_with (at_builtin; refine stopAt ?_; intro q hq)
    obtain ⟨F1, Fd1, hL1, hk1, hF1, hFd1⟩ := HT.out
    have hrm := rroom_any w1 b d F1 Fd1 D _ hL1
    rw [← Hr'.out] at hrm
    refine hrm.mono ?_
    rintro e w2 ⟨rfl, hk2⟩
    have HZ := hid (show RLogTo b d F Fd w D G w2 from HT.out.next fun F2 Fd2 h => h.toLater hk2)
    have hks : Keep (fun k => F k ∨ Fd k) w w2 := hk1.next hk2 (fun _ _ x => x) (fun _ _ x => x.elim)
    have H2 := hid (And.intro (hL1.later hk2) (And.intro hks (And.intro hF1 hFd1)))
    clear hL1 hk1 hF1 hFd1 hrm hk2 HT hks
    by_cases hlong : 1024 < n
    · have hres : R = (3, D, G) := by rw [HR.out]; unfold WM.append; rw [Hg.out]; simp [hbl, hlong]
      have HRes := hid hres
      have q1 : (1024 : Int) < (n : Int) := by omega
      clear hres
      go_wp2_with (at_builtin; refine stopAt ?_; intro q hq)
      go_ret
      rw [HRes.out]
      exact ⟨rfl, HZ.out⟩
    have q1 : ¬ (1024 : Int) < (n : Int) := by omega
    by_cases hfull : r < m
    · have hres : R = (5, D, G) := by rw [HR.out]; unfold WM.append; rw [Hg.out]; have := HM.out; have := Hr'.out; simp [hbl, hlong]; omega
      have HRes := hid hres
      have q2 : (r : Int) < (m : Int) := by omega
      clear hres
      go_wp2_with (at_builtin; refine stopAt ?_; intro q hq)
      go_ret
      rw [HRes.out]
      exact ⟨rfl, HZ.out⟩
    have q2 : ¬ (r : Int) < (m : Int) := by omega
    have q3 : decide ((r : Int) < (m : Int)) = false := decide_eq_false q2
    have q4 : decide (r < m) = false := decide_eq_false hfull
    clear HZ
    obtain ⟨hL2, hk2, hF2, hFd2⟩ := H2.out
    have hus := used_any w2 b d F1 Fd1 D G hL2
    obtain ⟨en, hen⟩ : ∃ en, en = (flat G.l).length := ⟨_, rfl⟩
    rw [← hen] at hus
    have Hen := hid hen
    have hsrc2 : Cells w2 ao n 1 (bytesV body) := HS.out.1.keep0 hk2 fun hp x hx y => by
      obtain ⟨y1, y2⟩ := HS.out.2.1 x (by omega) hx
      exact y.elim y1 y2
    have HS2 := hid hsrc2
    clear hL2 hk2 hF2 hFd2 hen hsrc2
    go_wp2_with (at_builtin; refine stopAt ?_; intro q hq)
    refine hus.mono ?_
    rintro e w3 ⟨rfl, hk3⟩
    obtain ⟨vl, vs, HL⟩ := H2.out.1.later hk3
    have hh := HL.wal.head
    have hhead := HL.wal.head
    unfold rwCells at hh
    obtain ⟨h0, h1, h2, h3, h4, hf, hb⟩ := cells5w hh
    obtain ⟨adl, cl, rfl, -⟩ := HL.wal.recs.row.form
    have H3 := hid (And.intro HL (And.intro hk3 hhead))
    clear hh HL hk3 hhead hus
    go_wp2_with (at_builtin; refine stopAt ?_; intro q hq)
    refine wp_region_canon [33] (by kernel_rfl) (by kernel_rfl) ?_
    repeat (first | (apply wpC_pure (by rfl); (intro K w'; go_simp; exact id)) | (apply wpC_load (by rfl); (intro K; go_simp; exact id)))
    refine wpC_new (by rfl) (by rfl) (fun K hK => ?_)
    go_simp
    refine (copy_any w3.drew ao n c body ((HS2.out.keep H3.out.2.1 fun _ _ x => x).keep (Keep.refl (fun _ => False) _).drew fun _ _ x => x) (by omega)).mono ?_
    rintro e w4 ⟨v4, rfl, hf4⟩
    obtain ⟨ad4, c4, hv4, -⟩ := hf4.row.form
    rw [hbl] at hv4
    subst hv4
    go_simp
    refine hK _ _ (Pre.of_keep hf4.keep) ?_
    clear hK K
    have HF4 := hid hf4
    clear hf4 h0 h1 h2 h3 h4 hf
    (refine wpC_new (by rfl) (by rfl) (fun K hK => ?_); go_simp; refine hK _ _ (Pre.push _ rfl) ?_; clear hK K)
    obtain ⟨w5, hw5⟩ : ∃ w5, w5 = w4.alloc (.cells #[.slice ad4 n c4] 36) := ⟨_, rfl⟩
    have hnew5 : w5.heap[w4.heap.size]? = some (.cells #[.slice ad4 n c4] 36) := by rw [hw5]; exact heap_alloc_new w4 _
    have hk45 : Keep (fun _ => False) w4 w5 := by rw [hw5]; exact (Keep.refl _ _).alloc _
    rw [← hw5]
    clear hw5
    have hk35 : Keep (fun _ => False) w3 w5 := (HF4.out.keep.undrew).next hk45 (fun _ _ x => x) (fun _ _ x => x)
    have hr5 := H3.out.1.wal.recs.keep hk35 (fun _ _ _ x => x)
    have hcnt := H3.out.1.wal.ok.count
    have H5 := hid (And.intro hk45 (And.intro hk35 hr5))
    refine wpC_act (by rfl) (by rfl) (fun K hK => ?_)
    refine wp_append ty_recs _ _ rfl rfl hr5.row (some ⟨w4.heap.size, 0, none⟩) 1 1 [.slice ad4 n c4] rfl
      ⟨rfl, fun _ => ⟨_, rfl, fun j u hu => by rw [addr_add, Nat.zero_add, cell_of_row _ _ _ _ _ _ hnew5]; simpa using hu⟩⟩ (by intro u hu; simp at hu; subst hu; rfl) (by unfold maxLen; omega) (by omega) ?_
    intro v6 w6 hr6 hk6 hv6
    obtain ⟨ad6, c6, rfl, -⟩ := hr6.form
    refine hK _ _ ?_
    clear hK K
    have hbv : (Value.slice adl G.l.length cl).ownBlock ≠ some b := fun e => (hr5.own b e).2 rfl
    have hh6 := hk6.get (hk35.get H3.out.2.2 id) hbv
    obtain ⟨h0, h1, h2, h3, h4, hf, hb6⟩ := cells5w (show w6.heap[b]? = some (.cells #[_, _, _, _, _] _ (0, 0)) from hh6)
    have H6 := hid (And.intro hr6 (And.intro hk6 (And.intro hv6 hh6)))
    clear hk45 hk35 hr5 hnew5 hr6 hk6 hv6 hbv hh6
    repeat (apply wpC_pure (by rfl); (intro K w'; go_simp; exact id))
    (refine wpC_act (by rfl) (by rfl) (fun K hK => ?_); go_simp; refine hK _ _ ?_; clear hK K)
    refine wpC_nil ?_
    have hk7 : Keep (fun k => k = b) w6 (w6.setCell ⟨b, 2, none⟩ (.slice ad6 (G.l.length + 1) c6)) := by refine Keep.setCell (Keep.refl _ _) (.inl ?_) _; rfl
    have hh7 := heap_setCell6 H6.out.2.2.2 2 (.slice ad6 (G.l.length + 1) c6)
    obtain ⟨w7, hw7⟩ : ∃ w7, w7 = w6.setCell ⟨b, 2, none⟩ (.slice ad6 (G.l.length + 1) c6) := ⟨_, rfl⟩
    rw [← hw7] at hk7 hh7 ⊢
    clear hw7 h0 h1 h2 h3 h4 hf
    -- the log with the record, the disk as it was
    have hL7 : RLogIs w7 b d (fun k => F1 k ∨ (w3.heap.size ≤ k ∧ k < w7.heap.size)) Fd1 D { G with l := G.l ++ [body] } (.slice ad6 (G.l.length + 1) c6) (vs ++ [.slice ad4 n c4]) ∧ Keep (fun k => F1 k) w3 w7 := by
      obtain ⟨HL, hk3, hhead⟩ := H3.out
      obtain ⟨k45, k35, r5⟩ := H5.out
      obtain ⟨r6, k6, v6o, hh6⟩ := H6.out
      have s35 := k35.size
      have s56 := k6.size
      have s67 := hk7.size
      have s34 : w3.heap.size ≤ w4.heap.size := HF4.out.keep.undrew.size
      have s45 := k45.size
      have hF3 := HL.wal.lt
      have hD3 := HL.disk.lt
      have k57 : Keep (fun k => (Value.slice adl G.l.length cl).ownBlock = some k ∨ k = b) w5 w7 := k6.next hk7 (fun _ _ x => .inl x) (fun _ _ x => .inr x)
      have k37 : Keep (fun k => F1 k) w3 w7 := k35.next k57 (fun _ _ x => x.elim) (fun k _ x => by rcases x with x | rfl; exact (r5.own k x).1; exact HL.wal.self)
      have ok1 : LgOk (half D) { G with l := G.l ++ [body] } := by
        have k := HL.wal.ok
        have hroom := Hr'.out
        unfold room at hroom
        have hmm := HM.out
        refine ⟨by show (flat (G.l ++ [body])).length ≤ _; rw [flat_snoc, hbl]; omega, k.two, k.few, k.ep, ?_, ?_⟩
        · intro x hx
          rcases List.mem_append.1 hx with hx | hx
          · exact k.small x hx
          · simp at hx; subst hx; omega
        · have := k.safe
          show G.safe ≤ (G.l ++ [body]).length
          simp; omega
      refine ⟨⟨⟨?_, ?_, .inl HL.wal.self, fun k x => ?_, ok1⟩, HL.disk.keep k37 (fun k x y => HL.apart k y x), fun k x y => ?_⟩, k37⟩
      · rw [hh7]; rfl
      · refine (r5.push (F' := fun k => F1 k ∨ (w3.heap.size ≤ k ∧ k < w7.heap.size)) (l := body) (HF4.out.row.keep k45 (fun _ _ x => x) |> fun h => by rw [hbl] at h ⊢; exact h) (fun k e => ?_) r6 k6 (fun k x => .inl x) (fun k e => ?_)).keep hk7 (fun k _ h2 h3 => h2 h3)
        · have h1 : w3.drew.heap.size ≤ k := HF4.out.own k e
          have h1' : w3.heap.size ≤ k := h1
          have h2 := HF4.out.row.lt e
          have h3 := hF3 b HL.wal.self
          refine ⟨.inr ⟨h1', by omega⟩, by omega, fun e' => ?_⟩
          have := hF3 k (r5.own k e').1
          omega
        · rcases v6o with ⟨_, h0⟩ | ⟨k', h2, h3⟩
          · omega
          · rw [e] at h2; cases h2
            rcases h3 with h3 | h3
            · exact .inl h3
            · have h4 := r6.lt e
              have h5 := hF3 b HL.wal.self
              exact .inr ⟨by omega, .inr ⟨by omega, by omega⟩, by omega⟩
      · rcases x with x | x
        · have := hF3 k x; omega
        · exact x.2
      · have := hD3 k y
        rcases x with x | x
        · exact HL.apart k x y
        · omega
    obtain ⟨HL7, k37⟩ := hL7
    have hh7' := HL7.wal.head
    unfold rwCells at hh7'
    obtain ⟨h0, h1, h2, h3, h4, hf, hb7⟩ := cells5w hh7'
    have hfu := rfull_any w7 b d Fd1 D h0 HL7.disk ad6 c6 (G.l ++ [body]) HL7.wal.recs.lists (by simp; omega) HL7.wal.ok.small HL7.wal.ok.fit
    rw [show (G.l ++ [body]).length = G.l.length + 1 by simp] at hfu
    have H7 := hid (And.intro HL7 k37)
    have HFu := hid hfu
    clear hfu HL7 k37 hk7 hh7 hh7'
    go_wp2_with (at_builtin; refine stopAt ?_; intro q hq)
    refine HFu.out.mono ?_
    rintro e w8 ⟨v8, rfl, hf8⟩
    obtain ⟨ad8, c8, hv8, hc8, -⟩ := hf8.row.form
    have hal : (areaH (half D) (G.l ++ [body])).length = 32 * half D := areaH_length H7.out.1.wal.ok.fit
    rw [hal] at hv8 hc8
    subst hv8
    have HL8 := hid (show RLogIs w8 b d _ Fd1 D { G with l := G.l ++ [body] } _ _ from ⟨H7.out.1.wal.keep hf8.keep (fun _ _ x => x), H7.out.1.disk.keep hf8.keep (fun _ _ x => x), H7.out.1.apart⟩)
    have hh8 := HL8.out.wal.head
    unfold rwCells at hh8
    clear h0 h1 h2 h3 h4 hf
    obtain ⟨h0, h1, h2, h3, h4, hf, hb8⟩ := cells5w hh8
    obtain ⟨nn, hnn⟩ : ∃ nn, nn = 32 * half D := ⟨_, rfl⟩
    rw [← hnn]
    obtain ⟨e2, he2⟩ : ∃ e2, e2 = (flat (G.l ++ [body])).length := ⟨_, rfl⟩
    have he2' : e2 = en + m := by rw [he2, flat_snoc, hbl, Hen.out, HM.out]
    have hus8 : ∀ s : Later w8, Calls Try.prog 55 #[.pointer (some ⟨b, 0, none⟩)] s.val fun e w' => e = .returned (.int .i64 (e2 : Nat)) ∧ Keep (fun _ => False) s.val w' := fun s => by
      have h := used_any s.val b d _ Fd1 D { G with l := G.l ++ [body] } (RLogAt.later ⟨_, _, HL8.out⟩ s.keep)
      rw [he2]; exact h
    obtain ⟨lo, hlo⟩ : ∃ lo, lo = en / 32 := ⟨_, rfl⟩
    have t1 : (en : Int).tdiv 32 = (lo : Int) := by rw [Int.tdiv_eq_ediv_of_nonneg (by omega)]; omega
    obtain ⟨e3, he3⟩ : ∃ e3, e3 = e2 - 1 := ⟨_, rfl⟩
    have hmm := HM.out
    have t3 : (e2 : Int) - 1 = (e3 : Int) := by omega
    have he2fit : e2 ≤ 32 * half D := by rw [he2]; exact HL8.out.wal.ok.fit
    have hsm2 := area_small HL8.out.disk.ok
    have t2 := wi64 lo (by omega)
    have t4 := wi64 e3 (by omega)
    obtain ⟨hi, hhi⟩ : ∃ hi, hi = e3 / 32 := ⟨_, rfl⟩
    have t5 : (e3 : Int).tdiv 32 = (hi : Int) := by rw [Int.tdiv_eq_ediv_of_nonneg (by omega)]; omega
    have t6 := wi64 hi (by omega)
    have hlay := fun s : Later w8 => rlay_any s.val b d G.ep G.ep G.safe lo (hi + 1) nn c8 (.slice ad6 (G.l.length + 1) c6) G.dead Fd1 D (areaH (half D) (G.l ++ [body])) ad8 (s.keep.get hh8 id) (HL8.out.disk.keep s.keep fun _ _ x => x)
      (fun x => HL8.out.apart b HL8.out.wal.self x) ((by rw [hnn]; have h := Cells.of_row (show Row w8 _ 1 (.slice ad8 (32 * half D) c8) (32 * half D) _ from hal ▸ hf8.row); exact h : Cells w8 ad8 nn 1 _).later s)
      (fun x hx => by
        have h1 := hf8.own x.block (by rw [hx]; rfl)
        have h2 := H7.out.1.disk.lt
        have h3 := H7.out.1.wal.lt b H7.out.1.wal.self
        exact ⟨fun y => by have := h2 _ y; omega, by omega⟩) hnn (by rw [hnn]; exact hc8) (by omega) (by omega) (hi : Int) (by omega) hfew
    have j1 := fun s : Later w8 => s.cell h1
    have HU := hid hus8
    have HLay := hid hlay
    have HE := hid (And.intro he2 (And.intro he2' (And.intro hlo (And.intro he3 (And.intro hhi hmm)))))
    have HF8 := hid hf8.keep
    clear hus8 hlay he2 he2' hlo he3 hhi hmm hf8 hh8 h0 h1 h2 h3 h4 hf hnn hal hc8 he2fit hsm2
    go_wp2_with (at_builtin; refine stopAt ?_; intro q hq)
    (refine wp_region_tail 12 (by kernel_rfl) (by kernel_rfl) ?_; simp only [List.take_succ_cons, List.take_zero, List.drop_succ_cons, List.drop_zero]; (repeat (go_big_quiet_step ((go_at_call 55; exact Later.call (HU.out _))))); refine wpQuiet_nil ?_; rintro _ ⟨sq, rfl⟩)
    clear j1
    go_wp2_with (at_builtin; refine stopAt ?_; intro q hq)
    refine (HLay.out sq).mono ?_
    intro e w9 hp
    have HL9 : RLogIs sq.val b d _ Fd1 D { G with l := G.l ++ [body] } _ _ := ⟨HL8.out.wal.keep sq.keep (fun _ _ x => x), HL8.out.disk.keep sq.keep (fun _ _ x => x), HL8.out.apart⟩
    obtain ⟨rfl, hto⟩ := RLogAt.laid HL9 hp
    obtain ⟨a1, a2, a3, a4, a5, a6⟩ := HE.out
    have hgd : G.dead = false := by have h := Hg.out; unfold gone at h; simp only [Bool.or_eq_false_iff] at h; exact h.1
    have hres : R = ((lay G.ep (areaH (half D) (G.l ++ [body])) lo (hi + 1 - lo) D).1, (lay G.ep (areaH (half D) (G.l ++ [body])) lo (hi + 1 - lo) D).2, { G with l := G.l ++ [body], dead := decide ((lay G.ep (areaH (half D) (G.l ++ [body])) lo (hi + 1 - lo) D).1 ≠ 0) }) := by
      rw [HR.out]
      unfold WM.append
      have h3 := Hr'.out
      rw [Hg.out, if_neg (by simp), if_neg (by omega), if_neg (by omega)]
      have h1 : (flat G.l).length / 32 = lo := by rw [a3, Hen.out]
      have h2 : ((flat (G.l ++ [body])).length - 1) / 32 = hi := by rw [a5, a4, a1]
      simp only
      rw [h1, h2, show hi - lo + 1 = hi + 1 - lo by omega]
      rfl
    have HRes := hid hres
    have HTo := hid hto
    have Hgd := hid hgd
    clear hp hres hto HL9 a1 a2 a3 a4 a5 a6 hgd
    go_wp2_with (at_builtin; refine stopAt ?_; intro q hq)
    go_ret
    rw [HRes.out]
    refine ⟨rfl, ?_⟩
    have hto := HTo.out
    rw [show ({ G with l := G.l ++ [body] } : Lg).dead = false from Hgd.out, Bool.false_or] at hto
    -- all the steps together
    obtain ⟨hL2, hk2, hF2, hFd2⟩ := H2.out
    obtain ⟨F9, Fd9, b1, b2, b3, b4⟩ := hto
    have k37 := H7.out.2
    have k3 := H3.out.2.1
    have s2 := hk2.size
    have s23 := k3.size
    have s37 := k37.size
    have s78 := HF8.out.size
    have s89 := sq.keep.size
    have hD3 := H3.out.1.disk.lt
    have k29 : Keep (fun k => F1 k ∨ Fd1 k) w2 w9 := by
      have k28 : Keep (fun k => F1 k) w2 sq.val := ((k3.next k37 (H := fun k => F1 k) (fun _ _ x => x.elim) (fun _ _ x => x)).next HF8.out (H := fun k => F1 k) (fun _ _ x => x) (fun _ _ x => x.elim)).next sq.keep (fun _ _ x => x) (fun _ _ x => x.elim)
      refine k28.next b2 (fun _ _ x => .inl x) fun k hk x => ?_
      rcases x with (x | x) | x
      · exact .inl x
      · omega
      · exact .inr x
    refine ⟨F9, Fd9, b1, hk2.next k29 (fun _ _ x => x) (fun k hk x => ?_), fun k x => ?_, fun k x => ?_⟩
    · rcases x with x | x
      · rcases hF2 k x with y | y
        · exact .inl y
        · omega
      · rcases hFd2 k x with y | y
        · exact .inr y
        · omega
    · rcases b3 k x with (y | y) | y
      · exact hF2 k y
      · right; omega
      · right; omega
    · rcases b4 k x with y | y
      · exact hFd2 k y
      · right; omega
end Go.Proofs.Yteemekckiafnfaa
/- The document's log: Sync. Conditions: as the contract names them. -/
namespace Go.Proofs.Yteemekckiafnfaa
open Go.RowKit
open DM BM WM

theorem RefTo.next {d : Nat} {Fd F1 : Nat → Prop} {w w1 w2 : World} {D2 : Dk} (hk : Keep Fd w w1) (hF : ∀ k, F1 k → Fd k ∨ w.heap.size ≤ k) (h : RefTo d F1 w1 D2 w2) : RefTo d Fd w D2 w2 := by
  obtain ⟨F2, h1, h2, h3⟩ := h
  exact ⟨F2, h1, hk.next h2 (fun _ _ x => x) (fun k hk' x => (hF k x).elim id fun y => by omega), fun k x => (h3 k x).elim (hF k) fun y => .inr (Nat.le_trans hk.size y)⟩
/-- The disk did something, the log's own memory is as it was. -/
theorem RLogAt.disked {w w1 : World} {b d : Nat} {F Fd : Nat → Prop} {D D1 : Dk} {G : Lg} (H : RLogAt w b d F Fd D G) (hl : D1.safe.length = D.safe.length) (h : RefTo d Fd w D1 w1) : RLogTo b d F Fd w D1 G w1 := by
  obtain ⟨vl, vs, HL⟩ := H
  obtain ⟨Fd', hD, hk, hF⟩ := h
  have hw := HL.wal.keep hk fun k x y => HL.apart k x y
  rw [← half_len hl] at hw
  refine ⟨F, Fd', ⟨vl, vs, hw, hD, fun k x y => ?_⟩, hk.mono fun _ _ x => .inr x, fun _ x => .inl x, hF⟩
  rcases hF k y with y | y
  · exact HL.apart k x y
  · have := HL.wal.lt k x; omega

theorem RLogTo.step {w w1 w2 : World} {b d : Nat} {F Fd F1 Fd1 : Nat → Prop} {D2 : Dk} {G2 : Lg} (hk : Keep (fun k => F k ∨ Fd k) w w1) (h1 : ∀ k, F1 k → F k ∨ w.heap.size ≤ k) (h2 : ∀ k, Fd1 k → Fd k ∨ w.heap.size ≤ k)
    (h : RLogTo b d F1 Fd1 w1 D2 G2 w2) : RLogTo b d F Fd w D2 G2 w2 := by
  obtain ⟨F2, Fd2, a1, a2, a3, a4⟩ := h
  have s := hk.size
  refine ⟨F2, Fd2, a1, hk.next a2 (fun _ _ x => x) (fun k hk' x => ?_), fun k x => ?_, fun k x => ?_⟩
  · rcases x with x | x
    · rcases h1 k x with y | y
      · exact .inl y
      · omega
    · rcases h2 k x with y | y
      · exact .inr y
      · omega
  · rcases a3 k x with y | y
    · exact h1 k y
    · right; omega
  · rcases a4 k x with y | y
    · exact h2 k y
    · right; omega

set_option maxRecDepth 20000 in
set_option maxHeartbeats 1000000 in
theorem rwsync_any (w : World) (b d : Nat) (F Fd : Nat → Prop) (D : Dk) (G : Lg) (H : RLogAt w b d F Fd D G) (hfew : D.waits.length ≤ 900000) :
    Calls Try.prog 32 #[.pointer (some ⟨b, 0, none⟩)] w fun e w' =>
      e = .returned (.int .i64 (WM.syncW D G).1) ∧ RLogTo b d F Fd w (WM.syncW D G).2.1 (WM.syncW D G).2.2 w' := by
  obtain ⟨R, hR⟩ : ∃ R, R = WM.syncW D G := ⟨_, rfl⟩
  rw [← hR]
  have HR := hid hR
  have hgo := gone_any w b d F Fd D G H
  clear hR
  cases hg : gone D G with
  | true =>
    rw [hg] at hgo
    have hres : R = (6, D, WM.mark D G) := by rw [HR.out]; unfold WM.syncW; rw [if_pos hg]
    have HRes := hid hres
    clear hres hg
    go_enter Try.func32, Try.ntmps32
    go_wp2_with (at_builtin; refine stopAt ?_; intro q hq)
    refine hgo.mono ?_
    rintro e w1 ⟨rfl, ht⟩
    have HT := hid ht
    clear ht
    go_wp2_with (at_builtin; refine stopAt ?_; intro q hq)
    go_ret
    rw [HRes.out]
    exact ⟨rfl, HT.out⟩
  | false =>
    rw [hg, mark_up hg] at hgo
    obtain ⟨Y, hY⟩ : ∃ Y, Y = DM.sync D := ⟨_, rfl⟩
    have hres : R = if Y.1 = 0 then (0, Y.2, { G with safe := G.l.length }) else (Y.1, Y.2, { G with dead := true }) := by rw [HR.out, hY]; unfold WM.syncW; rw [hg]; rfl
    have HRes := hid hres
    have Hg := hid hg
    clear hres hg
    go_enter Try.func32, Try.ntmps32
    go_wp2_with (at_builtin; refine stopAt ?_; intro q hq)
    refine hgo.mono ?_
    rintro e w1 ⟨rfl, F1, Fd1, hL1, hk1, hF1, hFd1⟩
    have H1 := hid (And.intro hL1 (And.intro hk1 (And.intro hF1 hFd1)))
    obtain ⟨vl, vs, HL⟩ := hL1
    have hh := HL.wal.head
    unfold rwCells at hh
    obtain ⟨h0, h1, h2, h3, h4, hf, hb⟩ := cells5w hh
    have hsy := ref_sync w1 d Fd1 D HL.disk (by omega)
    rw [← hY] at hsy
    have hYl : Y.2.safe.length = D.safe.length := by rw [hY]; exact sync_len D
    have HYl := hid hYl
    clear hh HL hk1 hF1 hFd1 hY hYl h1 h2 h3 h4
    go_wp2_with (at_builtin; refine stopAt ?_; intro q hq)
    refine hsy.mono ?_
    rintro e w2 ⟨rfl, ht2⟩
    have hto := RLogTo.step H1.out.2.1 H1.out.2.2.1 H1.out.2.2.2 (H1.out.1.disked HYl.out ht2)
    obtain ⟨F2, Fd2, hL2, hk2, hF2, hFd2⟩ := hto
    have H2 := hid (And.intro hL2 (And.intro hk2 (And.intro hF2 hFd2)))
    obtain ⟨vl2, vs2, HL2⟩ := hL2
    have hh2 := HL2.wal.head
    unfold rwCells at hh2
    clear h0 hf
    obtain ⟨h0, h1, h2, h3, h4, hf, hb2⟩ := cells5w hh2
    obtain ⟨adl, cl, rfl, -⟩ := HL2.wal.recs.row.form
    clear hh2 HL2 hk2 hF2 hFd2 ht2
    by_cases hy : Y.1 = 0
    · rw [if_pos hy] at HRes
      have hk3 : Keep (fun k => k = b) w2 (w2.setCell ⟨b, 3, none⟩ (.int .i64 (G.l.length : Nat))) := by refine Keep.setCell (Keep.refl _ _) (.inl ?_) _; rfl
      have HZ := hid (show RLogTo b d F Fd w Y.2 { G with safe := G.l.length } (w2.setCell ⟨b, 3, none⟩ (.int .i64 (G.l.length : Nat))) from
        RLogTo.step H2.out.2.1 H2.out.2.2.1 H2.out.2.2.2 (H2.out.1.set hk3 rfl ⟨H2.out.1.ok.fit, H2.out.1.ok.two, H2.out.1.ok.few, H2.out.1.ok.ep, H2.out.1.ok.small, Nat.le_refl _⟩ (fun vl h => by rw [heap_setCell6 h 3 (.int .i64 (G.l.length : Nat))]; rfl)))
      rw [hy]
      clear hk3 hy
      go_wp2_with (at_builtin; refine stopAt ?_; intro q hq)
      go_ret
      rw [HRes.out]
      exact ⟨rfl, HZ.out⟩
    · rw [if_neg hy] at HRes
      have u1 : (Y.1 == 0) = false := by simp [hy]
      have u2 : (Y.1 != 0) = true := by simp [hy]
      have u3 : decide (Y.1 = 0) = false := by simp [hy]
      have hk3 : Keep (fun k => k = b) w2 (w2.setCell ⟨b, 4, none⟩ (.bool true)) := by refine Keep.setCell (Keep.refl _ _) (.inl ?_) _; rfl
      have HZ := hid (show RLogTo b d F Fd w Y.2 { G with dead := true } (w2.setCell ⟨b, 4, none⟩ (.bool true)) from
        RLogTo.step H2.out.2.1 H2.out.2.2.1 H2.out.2.2.2 (H2.out.1.set hk3 rfl (H2.out.1.ok.die true) (fun vl h => by rw [heap_setCell6 h 4 (.bool true)]; rfl)))
      clear hk3 hy
      go_wp2_with (at_builtin; refine stopAt ?_; intro q hq)
      go_ret
      rw [HRes.out]
      exact ⟨rfl, HZ.out⟩
end Go.Proofs.Yteemekckiafnfaa
