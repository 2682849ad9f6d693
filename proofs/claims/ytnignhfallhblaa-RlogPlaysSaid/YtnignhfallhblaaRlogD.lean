/- rlog: slices.Delete of the first entries; Trim, Install, Top. Conditions: as the contracts name them. -/
import Derived.Test.YtnignhfallhblaaRlogH
namespace Go.Proofs.Ytnignhfallhblaa
open Go.RowKit
open RM

theorem run_sliceAt_hi2 {P : Program} {t e : TypeId} {z : Value} {size bytes : Nat} (T : SliceTy P t e z size bytes) (ao : Option Addr) (n cap : Nat) (k : IntKind) (hi : Nat) (h1 : hi ≤ cap) (w : World) :
    (Instr.sliceAt t (.slice ao n cap) none (some (.int k (hi : Int))) none).run P w = .ok (.slice ao hi cap) w := by
  obtain ⟨ht, hinfo, hzs, hpos⟩ := T
  obtain ⟨i, hi', hsize⟩ : ∃ i, P.info? e = some i ∧ i.size = size := by
    cases hq : P.info? e with
    | none => simp [hq] at hinfo
    | some i => simp [hq] at hinfo; exact ⟨i, rfl, hinfo.2.1⟩
  subst hsize
  have h0 : (0 : Int) ≤ (hi : Int) ∧ (hi : Int) ≤ (cap : Int) := by omega
  simp [Instr.sliceAt, Instr.slice, run_underlying ht, Instr.sliceBounds, Instr.sliceBound, asIntOf, h0, h1, sizeOf, typeInfo, hi', Addr.add]
theorem run_sliceAt_lh {P : Program} {t e : TypeId} {z : Value} {size bytes : Nat} (T : SliceTy P t e z size bytes) (ao : Option Addr) (n cap : Nat) (k k' : IntKind) (lo hi : Nat) (h1 : lo ≤ hi) (h2 : hi ≤ cap) (w : World) :
    (Instr.sliceAt t (.slice ao n cap) (some (.int k (lo : Int))) (some (.int k' (hi : Int))) none).run P w = .ok (.slice (tailAt ao cap lo size) (hi - lo) (cap - lo)) w := by
  obtain ⟨ht, hinfo, hzs, hpos⟩ := T
  obtain ⟨i, hi', hsize⟩ : ∃ i, P.info? e = some i ∧ i.size = size := by
    cases hq : P.info? e with
    | none => simp [hq] at hinfo
    | some i => simp [hq] at hinfo; exact ⟨i, rfl, hinfo.2.1⟩
  subst hsize
  have h0 : (0 : Int) ≤ (hi : Int) ∧ (hi : Int) ≤ (cap : Int) := by omega
  have h3 : (0 : Int) ≤ (lo : Int) ∧ (lo : Int) ≤ (hi : Int) := by omega
  simp [Instr.sliceAt, Instr.slice, run_underlying ht, Instr.sliceBounds, Instr.sliceBound, asIntOf, h0, h1, h2, h3, sizeOf, typeInfo, hi', tailAt]
theorem run_sliceAt_lhm {P : Program} {t e : TypeId} {z : Value} {size bytes : Nat} (T : SliceTy P t e z size bytes) (ao : Option Addr) (n cap : Nat) (k k' k'' : IntKind) (lo hi mx : Nat) (h1 : lo ≤ hi) (h2 : hi ≤ mx) (h3 : mx ≤ cap) (w : World) :
    (Instr.sliceAt t (.slice ao n cap) (some (.int k (lo : Int))) (some (.int k' (hi : Int))) (some (.int k'' (mx : Int)))).run P w = .ok (.slice (tailAt ao mx lo size) (hi - lo) (mx - lo)) w := by
  obtain ⟨ht, hinfo, hzs, hpos⟩ := T
  obtain ⟨i, hi', hsize⟩ : ∃ i, P.info? e = some i ∧ i.size = size := by
    cases hq : P.info? e with
    | none => simp [hq] at hinfo
    | some i => simp [hq] at hinfo; exact ⟨i, rfl, hinfo.2.1⟩
  subst hsize
  have h0 : (0 : Int) ≤ (hi : Int) ∧ (hi : Int) ≤ (mx : Int) := by omega
  have h4 : (0 : Int) ≤ (lo : Int) ∧ (lo : Int) ≤ (hi : Int) := by omega
  have h5 : (0 : Int) ≤ (mx : Int) ∧ (mx : Int) ≤ (cap : Int) := by omega
  simp [Instr.sliceAt, Instr.slice, run_underlying ht, Instr.sliceBounds, Instr.sliceBound, asIntOf, h0, h1, h2, h3, h4, h5, sizeOf, typeInfo, hi', tailAt]

/-- append where there is room. -/
theorem run_append_in {P : Program} {w : World} {t ty e : TypeId} {z : Value} {size bytes : Nat} (T : SliceTy P t e z size bytes) (g n cap : Nat) (cur : Array Value) (fz : Nat × Nat) (hg : w.heap[g]? = some (.cells cur e fz)) (hfz : Free fz cur.size) (hcs : cur.size = cap * size)
    (ao : Option Addr) (m c : Nat) (news : List Value) (hsrc : Cells w ao m size news) (h1 : ∀ u ∈ news, u.oneCell' = true) (hroom : n + m ≤ cap) :
    (Builtin.append_ #[t, t] ty #[.slice (some ⟨g, 0, none⟩) n cap, .slice ao m c]).run P w = .ok (.slice (some ⟨g, 0, none⟩) (n + m) cap) (w.setRow g (splice cur.toList (n * size) news).toArray) := by
  obtain ⟨ht, hinfo, hzs, hpos⟩ := T
  obtain ⟨i, hi, hsize⟩ : ∃ i, P.info? e = some i ∧ i.size = size := by
    cases hq : P.info? e with
    | none => simp [hq] at hinfo
    | some i => simp [hq] at hinfo; exact ⟨i, rfl, hinfo.2.1⟩
  subst hsize
  have hf := run_first (P := P) i.size m ao c m news hsrc
  have hfit : n * i.size + news.length ≤ cur.size := by rw [hsrc.1, hcs, ← Nat.add_mul]; exact Nat.mul_le_mul_right _ hroom
  have hst := run_storeCells_free (P := P) g (n * i.size) e fz news 0 cur w hg hfz (by simpa using hfit) h1
  simp only [Nat.add_zero] at hst
  simp [Builtin.append_, run_underlying ht, sizeOf, typeInfo, hi, Builtin.lenOf, hroom, hf, Addr.add_lit, hst, splice]

theorem one_zero : ∀ u ∈ entZero.cells, u.oneCell' = true := by
  intro u hu
  have h : u ∈ [Value.int .u64 0, Value.slice none 0 0] := by
    have := Array.mem_toList_iff.2 hu
    exact this
  simp only [List.mem_cons, List.not_mem_nil, or_false] at h
  rcases h with rfl | rfl <;> rfl

theorem wp_append_in {P : Program} {o : Oper} {a : Act} {w : World} {K : Act → World → Prop} {Q : Exit → Act → World → Prop} {t e : TypeId} {z : Value} {size bytes : Nat} (_T : SliceTy P t e z size bytes) (s x : Operand)
    (ho : o.op = .call { callee := .builtin .append, args := #[s, x], argTypes := #[t, t] }) (v y v' : Value) (w' : World) (hs : a.eval s = v) (hx : a.eval x = y)
    (hr : (Builtin.append_ #[t, t] o.type #[v, y]).run P w = .ok v' w') (h : K (a.put o.dst v') w') : o.wp P a w K Q := by
  unfold Oper.wp execOp
  simp only [ho, resolve, invoke, builtin, Sem.run_bind, Sem.run_pure, Result.andThen_ok, List.map_toArray, List.map_cons, List.map_nil, hs, hx, hr]
  exact h

/-- clear of a part. -/
theorem run_clear_at {P : Program} {w : World} {t ty e : TypeId} {z : Value} {size bytes : Nat} (T : SliceTy P t e z size bytes) (hz1 : ∀ u ∈ z.cells, u.oneCell' = true) (g o n cap : Nat) (cur : Array Value) (fz : Nat × Nat) (hg : w.heap[g]? = some (.cells cur e fz)) (hfz : Free fz cur.size)
    (hfit : o + n * size ≤ cur.size) (hn : 0 < n) :
    (Builtin.clear_ #[t] ty #[.slice (some ⟨g, o, none⟩) n cap]).run P w = .ok (.tuple #[]) (w.setRow g (splice cur.toList o (Builtin.zeroCells z.cells n).toList).toArray) := by
  obtain ⟨ht, hinfo, hzs, hpos⟩ := T
  obtain ⟨i, hi, hz, hsize⟩ : ∃ i, P.info? e = some i ∧ i.zero = some z ∧ i.size = size := by
    cases hq : P.info? e with
    | none => simp [hq] at hinfo
    | some i => simp [hq] at hinfo; exact ⟨i, rfl, hinfo.1, hinfo.2.1⟩
  have hzl : (Builtin.zeroCells z.cells n).toList.length = n * size := by simp [size_zeroCells, hzs]
  have hst := run_storeCells_free (P := P) g o e fz (Builtin.zeroCells z.cells n).toList 0 cur w hg hfz (by omega) (by
    intro u hu
    simp only [Builtin.zeroCells, Array.toList_map, List.mem_map] at hu
    obtain ⟨k, _, rfl⟩ := hu
    have hzp : 0 < z.cells.size := by omega
    have hk : k % z.cells.size < z.cells.size := Nat.mod_lt _ hzp
    rw [getElem!_pos z.cells (k % z.cells.size) hk]
    exact hz1 _ (Array.getElem_mem hk))
  simp only [Nat.add_zero] at hst
  obtain ⟨n', rfl⟩ : ∃ n', n = n' + 1 := ⟨n - 1, by omega⟩
  simp [Builtin.clear_, run_underlying ht, zeroValue, typeInfo, hi, hz, hst, splice]

set_option maxRecDepth 20000 in
set_option maxHeartbeats 1000000 in
theorem delete_any (w : World) (v : Value) (n j : Nat) (us : List (Nat × Value)) (hr : Row w 32 2 v n (entsV us)) (hn : us.length = n) (hsm : n ≤ 1000000) (hj : j ≤ n) (hus : ∀ x ∈ entsV us, x.oneCell' = true) :
    Calls Try.prog 43 #[v, .int .i64 0, .int .i64 j] w fun r w' =>
      ∃ v', r = .returned v' ∧ Row w' 32 2 v' (n - j) (entsV (us.drop j)) ∧ Keep (fun k => v.ownBlock = some k) w w' ∧ v'.ownBlock = v.ownBlock := by
  obtain ⟨ad, cap, rfl, hcap, hmax, -⟩ := hr.form
  have hs3 : ∀ w, (Instr.sliceAt 35 (.slice ad n cap) (some (.int .i64 0)) (some (.int .i64 j)) (some (.int .i64 n))).run Try.prog w = .ok (.slice (tailAt ad n 0 2) j n) w := fun w => run_sliceAt_lhm ty_ents ad n cap .i64 .i64 .i64 0 j n (Nat.zero_le _) hj hcap w
  by_cases hj0 : j = 0
  · have t1 : ((0 : Int) == (j : Int)) = true := by rw [hj0]; rfl
    have HX := hid (And.intro hr hj0)
    clear hr hj0
    go_enter Try.func43, Try.ntmps43
    go_wp2_with (at_builtin; refine stopAt ?_; intro q hq)
    go_ret
    obtain ⟨h1, rfl⟩ := HX.out
    exact ⟨.slice ad n cap, by rfl, h1, Keep.refl _ _, by rfl⟩
  · have t1 : ((0 : Int) == (j : Int)) = false := by simp; omega
    obtain ⟨g, cap', cur, fz, hv', hg, hfz, -, hcm, hsz, htk⟩ := hr.some (by omega)
    cases hv'
    have hsl1 : ∀ w, (Instr.sliceAt 35 (.slice (some ⟨g, 0, none⟩) n cap) none (some (.int .i64 0)) none).run Try.prog w = .ok (.slice (some ⟨g, 0, none⟩) 0 cap) w := fun w => run_sliceAt_hi2 ty_ents (some ⟨g, 0, none⟩) n cap .i64 0 (Nat.zero_le _) w
    have hsl2 := fun w => run_sliceAt_lo (P := Try.prog) ty_ents (some ⟨g, 0, none⟩) n cap .i64 j hj w
    have hxl : (entsV us).length = n * 2 := by rw [entsV_length, hn]
    have hdl : ((entsV us).drop (j * 2)).length = (n - j) * 2 := by rw [List.length_drop, hxl]; omega
    have htail := Cells.tail (Cells.of_row hr) j hj hcap (by decide)
    have htd := htail.keep (Keep.refl (fun _ => False) w).drew (fun _ _ x => x)
    have hap := run_append_in (P := Try.prog) (w := w.drew) (t := 35) (ty := 35) ty_ents g 0 cap cur fz hg hfz hsz (tailAt (some ⟨g, 0, none⟩) cap j 2) (n - j) (cap - j) ((entsV us).drop (j * 2)) htd (fun u hu => hus u (List.mem_of_mem_drop hu)) (by omega)
    have hg1 := setRow_heap w.drew g cur (splice cur.toList (0 * 2) ((entsV us).drop (j * 2))).toArray _ fz hg
    have k1 : Keep (fun k => k = g) w (w.drew.setRow g (splice cur.toList (0 * 2) ((entsV us).drop (j * 2))).toArray) := by refine Keep.setRow (Keep.refl _ _).drew (.inl ?_) _; rfl
    have hl1 : (splice cur.toList (0 * 2) ((entsV us).drop (j * 2))).length = cap * 2 := by
      rw [length_splice _ _ _ (by simp only [Array.length_toList, hsz, hdl]; omega)]
      simp [hsz]
    have ht1 : (splice cur.toList (0 * 2) ((entsV us).drop (j * 2))).take ((n - j) * 2) = (entsV us).drop (j * 2) := by
      unfold splice
      rw [Nat.zero_mul, List.take_zero, List.nil_append, ← hdl, List.take_left]
    rw [Nat.zero_add] at hap
    obtain ⟨c1, hc1⟩ : ∃ c1, c1 = splice cur.toList (0 * 2) ((entsV us).drop (j * 2)) := ⟨_, rfl⟩
    rw [← hc1] at hap hg1 k1 hl1 ht1
    obtain ⟨w1, hw1⟩ : ∃ w1, w1 = w.drew.setRow g c1.toArray := ⟨_, rfl⟩
    rw [← hw1] at hap hg1 k1
    have hf1 : Free fz c1.toArray.size := by rw [List.size_toArray, hl1, ← hsz]; exact hfz
    have hsl3 := fun w => run_sliceAt_lh (P := Try.prog) ty_ents (some ⟨g, 0, none⟩) (n - j) cap .i64 .i64 (n - j) n (by omega) hcap w
    rw [show tailAt (some ⟨g, 0, none⟩) cap (n - j) 2 = some ⟨g, (n - j) * 2, none⟩ by unfold tailAt; rw [if_neg (by omega)]; simp [addr_add], show n - (n - j) = j by omega] at hsl3
    have hcl := fun ty => run_clear_at (P := Try.prog) (w := w1) (t := 35) (ty := ty) ty_ents one_zero g ((n - j) * 2) j (cap - (n - j)) c1.toArray fz hg1 hf1 (by rw [List.size_toArray, hl1]; omega) (by omega)
    have hg2 := setRow_heap w1 g c1.toArray (splice c1.toArray.toList ((n - j) * 2) (Builtin.zeroCells entZero.cells j).toList).toArray _ fz hg1
    have k2 : Keep (fun k => k = g) w (w1.setRow g (splice c1.toArray.toList ((n - j) * 2) (Builtin.zeroCells entZero.cells j).toList).toArray) := by refine Keep.setRow k1 (.inl ?_) _; rfl
    have hzl : (Builtin.zeroCells entZero.cells j).toList.length = j * 2 := by rw [Array.length_toList, size_zeroCells]; rfl
    have hl2 : (splice c1.toArray.toList ((n - j) * 2) (Builtin.zeroCells entZero.cells j).toList).length = cap * 2 := by
      rw [length_splice _ _ _ (by simp only [hzl, hl1]; omega)]
      exact hl1
    have ht2 : (splice c1.toArray.toList ((n - j) * 2) (Builtin.zeroCells entZero.cells j).toList).take ((n - j) * 2) = (entsV us).drop (j * 2) := by
      have hq : (c1.toArray.toList.take ((n - j) * 2)).length = (n - j) * 2 := by rw [List.length_take]; simp only [hl1]; omega
      unfold splice
      refine Eq.trans ?_ ht1
      exact List.take_left' hq
    obtain ⟨c2, hc2⟩ : ∃ c2, c2 = splice c1.toArray.toList ((n - j) * 2) (Builtin.zeroCells entZero.cells j).toList := ⟨_, rfl⟩
    rw [← hc2] at hcl hg2 k2 hl2 ht2
    obtain ⟨w2, hw2⟩ : ∃ w2, w2 = w1.setRow g c2.toArray := ⟨_, rfl⟩
    rw [← hw2] at hcl hg2 k2
    have hr2 : Row w2 32 2 (.slice (some ⟨g, 0, none⟩) (n - j) cap) (n - j) (entsV (us.drop j)) := by
      rw [← entsV_drop]
      exact ⟨hdl, .inr ⟨g, cap, c2.toArray, fz, rfl, hg2, by rw [List.size_toArray, hl2, ← hsz]; exact hfz, by omega, hcm, by rw [List.size_toArray, hl2], ht2⟩⟩
    have HX := hid (And.intro hr2 k2)
    have Hap := hid hap
    have Hcl := hid hcl
    clear hr2 k2 hap hcl hw2 hc2 hw1 hc1 ht2 hl2 hzl hg2 hf1 ht1 hl1 k1 hg1 htd htail hdl hxl
    go_enter Try.func43, Try.ntmps43
    go_wp2_with (at_builtin; refine stopAt ?_; intro q hq)
    refine wp_region_canon [] (by kernel_rfl) (by kernel_rfl) ?_
    repeat (first | (apply wpC_pure (by rfl); (intro K w'; go_simp; exact id)) | (apply wpC_load (by rfl); (intro K; go_simp; exact id)))
    refine wpC_act (by rfl) (by rfl) (fun K hK => ?_)
    refine wp_append_in ty_ents (.tmp 22) (.tmp 25) rfl _ _ _ _ rfl rfl Hap.out ?_
    refine hK _ _ ?_
    clear hK K
    repeat (apply wpC_pure (by rfl); (intro K w'; go_simp; exact id))
    refine wpC_nil ?_
    have hcl := Hcl.out
    go_wp2_with (at_builtin; refine stopAt ?_; intro q hq)
    go_ret
    exact ⟨_, by rfl, HX.out.1, HX.out.2.mono (fun k _ x => by rw [x]; rfl), by rfl⟩

/-- A log without its first entries. -/
theorem LogIs.dropped {w w2 : World} {b : Nat} {F : Nat → Prop} {g : Lg} {v v' : Value} {us : List (Nat × Value)} (h : LogIs w b F g v us) (j : Nat) (hk : Keep (fun k => v.ownBlock = some k) w w2)
    (hr : Row w2 32 2 v' (g.l.length - j) (entsV (us.drop j))) (hv : v'.ownBlock = v.ownBlock) : LogIs (w2.setCell ⟨b, 1, none⟩ v') b F { g with l := g.l.drop j } v' (us.drop j) := by
  have hh2 := hk.get h.head fun e => (h.own b e).2 rfl
  have k3 : Keep (fun k => k = b) w2 (w2.setCell ⟨b, 1, none⟩ v') := by refine Keep.setCell (Keep.refl _ _) (.inl ?_) _; rfl
  have hh3 := heap_setCell_same w2 b 1 _ _ v' hh2
  obtain ⟨w3, hw3⟩ : ∃ w3, w3 = w2.setCell ⟨b, 1, none⟩ v' := ⟨_, rfl⟩
  rw [← hw3] at k3 hh3 ⊢
  refine ⟨hh3, ?_, by simp [h.keys], fun i hi => ?_, h.self, fun k e => h.own k (hv ▸ e), fun k x => Nat.lt_of_lt_of_le (h.lt k x) (Nat.le_trans hk.size k3.size), h.ok.drop j⟩
  · show Row w3 _ 2 v' (g.l.drop j).length _
    rw [List.length_drop]
    exact hr.keep k3 fun k e x => (h.own k (hv ▸ e)).2 x
  · change i < (g.l.drop j).length at hi
    rw [List.length_drop] at hi
    obtain ⟨ao, c, h1, h2, h3⟩ := h.each (j + i) (by omega)
    have e1 : (g.l.drop j)[i]'(by rw [List.length_drop]; exact hi) = g.l[j + i] := List.getElem_drop
    dsimp only
    rw [e1]
    refine ⟨ao, c, by rw [List.getElem?_drop]; exact h1, (h2.keep0 hk fun hp x hx y => (h3 (by omega) x hx).2.2 y).keep0 k3 fun hp x hx y => (h3 (by omega) x hx).2.1 y, fun hp x hx => ?_⟩
    obtain ⟨q1, q2, q3⟩ := h3 hp x hx
    exact ⟨q1, q2, hv ▸ q3⟩

set_option maxRecDepth 20000 in
set_option maxHeartbeats 1000000 in
theorem trim_any (w : World) (b : Nat) (F : Nat → Prop) (g : Lg) (s : Nat) (hL : LogAt w b F g) :
    Calls Try.prog 31 #[.pointer (some ⟨b, 0, none⟩), .int .u64 s] w fun e w' => e = .returned (.int .i64 ((RM.trim g s).1 : Nat)) ∧ LogAt w' b F (RM.trim g s).2 ∧ Keep F w w' := by
  obtain ⟨v, us, hI⟩ := hL
  obtain ⟨ad, cap, rfl, -⟩ := hI.row.form
  obtain ⟨a0, a1, af, -⟩ := cells2 hI.head
  have hap := hI.ok.ap
  obtain ⟨m, hm⟩ : ∃ m, m = min s g.ap := ⟨_, rfl⟩
  have hmap : m ≤ g.ap := by omega
  have hf := find_any w b F g (m + 1) ⟨_, _, hI⟩
  rw [show (((m + 1 : Nat) : Nat) : Int) = (m : Int) + 1 by omega] at hf
  have Hf := hid hf
  have HI := hid hI
  obtain ⟨G, hG⟩ : ∃ G, G = RM.trim g s := ⟨_, rfl⟩
  rw [← hG]
  unfold RM.trim at hG
  rw [← hm] at hG
  obtain ⟨j, hj⟩ : ∃ j, j = below g.l (m + 1) := ⟨_, rfl⟩
  rw [← hj] at hG Hf
  have hjl : j ≤ g.l.length := by rw [hj]; exact below_le _ _
  have HG := hid hG
  clear hI hf hG hj
  rcases Nat.lt_or_ge g.ap s with hlt | hlt
  · obtain rfl : m = g.ap := by omega
    clear hm
    go_enter Try.func31, Try.ntmps31
    go_wp2_with (at_builtin; refine stopAt ?_; intro q hq)
    refine Hf.out.mono ?_
    rintro e w2 ⟨rfl, hk2⟩
    have hI2 := HI.out.keep hk2 (fun _ _ x => x)
    obtain ⟨a0, a1, af, -⟩ := cells2 hI2.head
    have HY := hid (And.intro hI2 hk2)
    have hdel := delete_any w2 _ _ j us hI2.row hI2.len (by have := HI.out.ok.few; omega) hjl (one_ents hI2.slices)
    obtain ⟨len, hlen⟩ : ∃ z, z = g.l.length := ⟨_, rfl⟩
    rw [← hlen] at a1 hdel
    have Hdel := hid hdel
    have Hlen := hid hlen
    clear hI2 hk2 hdel hlen
    go_wp2_with (at_builtin; refine stopAt ?_; intro q hq)
    refine Hdel.out.mono ?_
    rintro r w3 ⟨v', rfl, hr3, hk3, ho3⟩
    obtain ⟨ad3, cap3, rfl, -⟩ := hr3.form
    obtain ⟨hI2, hk2⟩ := HY.out
    rw [Hlen.out] at hr3 hk3 ho3
    obtain ⟨b0, b1, bf, -⟩ := cells2 (hk3.get hI2.head fun e => (hI2.own b e).2 rfl)
    have HZ := hid (hI2.dropped j hk3 hr3 ho3)
    have k3 : Keep F w w3 := (hk2.mono (fun _ _ x => x.elim : ∀ i, i < w.heap.size → False → F i)).next hk3 (fun _ _ x => x) (fun i _ x => (HI.out.own i x).1)
    have k4 : Keep F w (w3.setCell ⟨b, 1, none⟩ (.slice ad3 (g.l.length - j) cap3)) := k3.setCell (.inl HI.out.self) _
    have HK4 := hid k4
    rw [← Hlen.out] at HK4 HZ
    clear hI2 hk2 hr3 hk3 ho3 k3 k4 a0 a1 af
    go_wp2_with (at_builtin; refine stopAt ?_; intro q hq)
    go_ret
    have hG := HG.out
    subst hG
    exact ⟨by rfl, ⟨_, _, HZ.out⟩, HK4.out⟩
  · obtain rfl : m = s := by omega
    have hlt' : ¬ g.ap < m := by omega
    clear hm hlt
    go_enter Try.func31, Try.ntmps31
    go_wp2_with (at_builtin; refine stopAt ?_; intro q hq)
    refine Hf.out.mono ?_
    rintro e w2 ⟨rfl, hk2⟩
    have hI2 := HI.out.keep hk2 (fun _ _ x => x)
    obtain ⟨a0, a1, af, -⟩ := cells2 hI2.head
    have HY := hid (And.intro hI2 hk2)
    have hdel := delete_any w2 _ _ j us hI2.row hI2.len (by have := HI.out.ok.few; omega) hjl (one_ents hI2.slices)
    obtain ⟨len, hlen⟩ : ∃ z, z = g.l.length := ⟨_, rfl⟩
    rw [← hlen] at a1 hdel
    have Hdel := hid hdel
    have Hlen := hid hlen
    clear hI2 hk2 hdel hlen
    go_wp2_with (at_builtin; refine stopAt ?_; intro q hq)
    refine Hdel.out.mono ?_
    rintro r w3 ⟨v', rfl, hr3, hk3, ho3⟩
    obtain ⟨ad3, cap3, rfl, -⟩ := hr3.form
    obtain ⟨hI2, hk2⟩ := HY.out
    rw [Hlen.out] at hr3 hk3 ho3
    obtain ⟨b0, b1, bf, -⟩ := cells2 (hk3.get hI2.head fun e => (hI2.own b e).2 rfl)
    have HZ := hid (hI2.dropped j hk3 hr3 ho3)
    have k3 : Keep F w w3 := (hk2.mono (fun _ _ x => x.elim : ∀ i, i < w.heap.size → False → F i)).next hk3 (fun _ _ x => x) (fun i _ x => (HI.out.own i x).1)
    have k4 : Keep F w (w3.setCell ⟨b, 1, none⟩ (.slice ad3 (g.l.length - j) cap3)) := k3.setCell (.inl HI.out.self) _
    have HK4 := hid k4
    rw [← Hlen.out] at HK4 HZ
    clear hI2 hk2 hr3 hk3 ho3 k3 k4 a0 a1 af
    go_wp2_with (at_builtin; refine stopAt ?_; intro q hq)
    go_ret
    have hG := HG.out
    subst hG
    exact ⟨by rfl, ⟨_, _, HZ.out⟩, HK4.out⟩
end Go.Proofs.Ytnignhfallhblaa
