/- Texts MirW, MirX, MirY, MirZ, MiaA, MiaB, MiaC, MiaD in one. Conditions: as each law names them. -/
import Derived.Deep.CutBlock
import Derived.Deep.DeepCutAuto
import Derived.Test.YtiilondhppipnaaBab
import Derived.Test.YtiilondhppipnaaBah
/- The document's Lay of one change on pairs. Conditions: as the contract names them. -/
namespace Go.Proofs.Ytiilondhppipnaa
open Go.RowKit
open MI

theorem MI.lay1_eq : ∀ (ps : List (Str × Str)) (c : Ch) (k : Nat), k ≤ ps.length → (∀ i (h : i < ps.length), i < k → ps[i].1 < c.key) → (∀ (h : k < ps.length), ¬ ps[k].1 < c.key) →
    lay1 ps c = ps.take k ++ (if c.gone then [] else [(c.key, c.value)]) ++ ps.drop (if (ps[k]?.map (·.1)) = some c.key then k + 1 else k)
  | [], c, k, hk, _, _ => by
    have : k = 0 := by simpa using hk
    subst this
    simp [lay1]
  | p :: ps, c, 0, _, _, h2 => by
    have h := h2 (by simp)
    simp only [List.getElem_cons_zero] at h
    unfold lay1
    rw [if_neg h]
    simp only [List.take_zero, List.nil_append, List.getElem?_cons_zero, Option.map_some, Option.some.injEq]
    by_cases he : p.1 = c.key
    · rw [if_pos he, if_pos he]; rfl
    · rw [if_neg he, if_neg he]; rfl
  | p :: ps, c, k + 1, hk, h1, h2 => by
    have h := h1 0 (by simp) (by omega)
    simp only [List.getElem_cons_zero] at h
    unfold lay1
    rw [if_pos h, lay1_eq ps c k (by simpa using hk) (fun i hi hik => by have := h1 (i + 1) (by simpa using hi) (by omega); simpa using this) (fun hh => by have := h2 (by simpa using hh); simpa using this)]
    simp only [List.take_succ_cons, List.getElem?_cons_succ, List.cons_append]
    by_cases he : Option.map (fun x => x.fst) ps[k]? = some c.key
    · rw [if_pos he, if_pos he]; rfl
    · rw [if_neg he, if_neg he]; rfl

theorem prsV_drop (l : List (Str × Str)) (j : Nat) : (prsV l).drop (j * 2) = prsV (l.drop j) := by
  induction l generalizing j with
  | nil => simp [prsV]
  | cons p l ih =>
    cases j with
    | zero => rfl
    | succ j =>
      have e : prsV (p :: l) = prV p ++ prsV l := rfl
      rw [e, List.drop_append, List.drop_of_length_le (by simp [prV]; omega), List.nil_append, List.drop_succ_cons, ← ih j]
      congr 1
      simp [prV]
      omega
theorem prsV_oneCell (l : List (Str × Str)) : ∀ u ∈ prsV l, u.oneCell' = true := by
  intro u hu
  obtain ⟨p, _, h⟩ := List.mem_flatMap.1 hu
  exact prV_oneCell p u h
/-- What is said of an order of strings and of lists. -/
theorem str_lt (a b : Str) : Op.bytesLess (str a).toList (str b).toList = decide (a < b) := by
  rw [str_toList, str_toList]
  exact bytesLess_eq a b
structure LayRel (w1 : World) (ps : List (Str × Str)) (key : Str) (k : Nat) (v : Value) (wr : World) : Prop where
  keep : Keep (fun _ => False) w1 wr
  row : Row wr 72 2 v k (prsV (ps.take k))
  own : ∀ b, v.ownBlock = some b → w1.heap.size ≤ b
  less : ∀ i (h : i < ps.length), i < k → ps[i].1 < key
structure LayEnd (w1 : World) (out : List (Str × Str)) (v : Value) (wr : World) : Prop where
  keep : Keep (fun _ => False) w1 wr
  row : Row wr 72 2 v out.length (prsV out)
  own : ∀ b, v.ownBlock = some b → w1.heap.size ≤ b

set_option maxRecDepth 20000 in
set_option maxHeartbeats 2000000 in
theorem lay_any (w : World) (ao : Option Addr) (n cap : Nat) (ps : List (Str × Str)) (g gc : Nat) (c : Ch) (hrow : Row w 72 2 (.slice ao n cap) n (prsV ps)) (hn : n = ps.length) (hn1 : n ≤ 1000000)
    (h0 : w.cell? ⟨g, 0, none⟩ = some (.string (str c.key))) (h1 : w.cell? ⟨g, 1, none⟩ = some (.string (str c.value))) (h2 : w.cell? ⟨g, 2, none⟩ = some (.bool c.gone)) :
    Calls Try.prog 38 #[.slice ao n cap, .slice (some ⟨g, 0, none⟩) 1 gc] w fun e w' =>
      ∃ v, e = .returned v ∧ Row w' 72 2 v (lay1 ps c).length (prsV (lay1 ps c)) ∧ Keep (fun _ => False) w w' ∧ (∀ i, v.ownBlock = some i → w.heap.size ≤ i) := by
  obtain ⟨key, value, gone⟩ := c
  simp only at h0 h1 h2
  have HR := hid hrow
  have HN := hid hn
  clear hrow hn
  go_enter Try.func38, Try.ntmps38
  go_wp2_with (at_builtin; refine stopAt ?_; intro q hq)
  refine wp_loop_rounds 2 ?_
  rw [rounds_succ]
  go_upto_block 2 with fail
  have hkA : Keep (fun _ => False) w (w.alloc (.cells #[.string (str key), .string (str value), .bool gone] 31)) := (Keep.refl _ _).alloc _
  have hnA := heap_alloc_new w (.cells #[.string (str key), .string (str value), .bool gone] 31)
  obtain ⟨w1, hw1⟩ : ∃ w1, w1 = w.alloc (.cells #[.string (str key), .string (str value), .bool gone] 31) := ⟨_, rfl⟩
  rw [← hw1] at hkA hnA ⊢
  clear hw1 h0 h1 h2
  obtain ⟨gb, hgb⟩ : ∃ gb, gb = w.heap.size := ⟨_, rfl⟩
  rw [← hgb] at hnA ⊢
  have HA := hid (And.intro hkA (And.intro hnA hgb))
  clear hkA hnA hgb
  go_cut [7, 8] (fun v iv wx => ∃ k : Nat, k ≤ n ∧ iv = .int .i64 k ∧ Hid (LayRel w1 ps key k v wx ∧ ∀ (h : k < ps.length), ¬ ps[k].1 < key))
  case first =>
    go_wp2_with (at_builtin; refine stopAt ?_; intro q hq)
    go_loopw [7, 8] (fun v iv wr => ∃ k : Nat, k ≤ n ∧ iv = .int .i64 k ∧ Hid (LayRel w1 ps key k v wr)) (fun _ iv _ => n - (intOf iv).toNat)
    case atStart => exact ⟨0, Nat.zero_le _, rfl, hid ⟨Keep.refl _ _, Row.nil _ _ _, fun b e => by simp [Value.ownBlock] at e, fun i _ hi => by omega⟩⟩
    case round =>
      obtain ⟨k, hk, rfl, HT⟩ := hrel
      obtain ⟨bo, bcap, hv, hbc, hbm, -⟩ := HT.out.row.form
      subst hv
      have hnr := HT.out.keep.get HA.out.2.1 id
      obtain ⟨j0, j1, j2, jf, jb⟩ := cells3i hnr
      clear hnr
      by_cases hkn : k < n
      · have h4 : (k : Int) < n := by omega
        have hil : k < ps.length := by rw [← HN.out]; exact hkn
        have hr' := (HR.out.keep HA.out.1 (fun _ _ x => x)).keep HT.out.keep (fun _ _ x => x)
        have gets : ∃ g, ao = some ⟨g, 0, none⟩ ∧ ∀ t u, (prV ps[k])[t]? = some u → wr.cell? ⟨g, k * 2 + t, none⟩ = some u := by
          have h0 := prsV_get ps k hil 0 (by decide)
          obtain ⟨g, cap, hv, hc⟩ := hr'.getCell (show (prsV ps)[k * 2 + 0]? = some (.string (str ps[k].1)) by rw [h0]; rfl)
          cases hv
          refine ⟨g, rfl, fun t u hu => ?_⟩
          have ht : t < 2 := (List.getElem?_eq_some_iff.1 hu).1
          have h1 := prsV_get ps k hil t ht
          rw [hu] at h1
          obtain ⟨g', cap', hv', hc'⟩ := hr'.getCell h1
          cases hv'
          exact hc'
        obtain ⟨ga, rfl, k0⟩ := gets
        have a0 := k0 0 _ rfl
        have a1 := k0 1 _ rfl
        rw [Nat.add_zero] at a0
        clear k0 hr'
        obtain ⟨q, hq⟩ : ∃ q, q = ps[k] := ⟨_, rfl⟩
        rw [← hq] at a0 a1
        have HQ := hid (And.intro hil hq)
        clear hq
        by_cases hlt : q.1 < key
        · have hlt' : Op.bytesLess (str q.1).toList (str key).toList = true := by rw [str_lt]; simpa using hlt
          go_wp2_with (at_builtin; refine stopAt ?_; intro q hq)
          go_quiet (fail)
          go_wp2_with (at_builtin; refine stopAt ?_; intro q hq)
          (refine hq.out ?_; clear hq q)
          have hn7 : ((wr.drewN nq).alloc (.cells #[.string (str q.1), .string (str q.2)] 72)).heap[wr.heap.size]? = _ := heap_alloc_new (wr.drewN nq) (.cells #[.string (str q.1), .string (str q.2)] 72)
          have hk7 : Keep (fun _ => False) wr ((wr.drewN nq).alloc (.cells #[.string (str q.1), .string (str q.2)] 72)) := ((Keep.refl _ _).drewN _).alloc _
          obtain ⟨w7, hw7⟩ : ∃ w7, w7 = (wr.drewN nq).alloc (.cells #[.string (str q.1), .string (str q.2)] 72) := ⟨_, rfl⟩
          rw [← hw7] at hn7 hk7 ⊢
          clear hw7
          refine wpList_plain rfl (fun K hK => ?_)
          refine wp_append ty_prs (.tmp 33) (.tmp 38) rfl rfl (HT.out.row.keep hk7 (fun _ _ x => x)) (some ⟨wr.heap.size, 0, none⟩) 1 1 (prV q) (by rfl)
            ⟨rfl, fun _ => ⟨_, rfl, fun t u hu => by rw [addr_add, Nat.zero_add, cell_of_row _ _ _ _ _ _ hn7]; simpa [prV] using hu⟩⟩ (prV_oneCell _) (by unfold maxLen; omega) (by omega) ?_
          intro v8 w8 hr8 hk8 hv8
          refine hK _ _ ?_
          clear hK K
          have hsz := HT.out.keep.size
          have hsz2 := hk7.size
          have hown := HT.out.own
          have htk : ps.take (k + 1) = ps.take k ++ [q] := by rw [List.take_add_one, List.getElem?_eq_getElem hil, Option.toList_some, HQ.out.2]
          have HT8 := hid (LayRel.mk (w1 := w1) (ps := ps) (key := key) (k := k + 1) (v := v8) (wr := w8)
            ((HT.out.keep.next hk7 (fun _ _ x => x) (fun _ _ x => x)).next hk8 (fun _ _ x => x) (fun j hj x => absurd (hown j x) (by omega)))
            (by rw [htk, prsV_append, prsV_one]; exact hr8)
            (fun b e => by
              rcases hv8 with ⟨_, h0⟩ | ⟨b', h1, h2⟩
              · omega
              · rw [e] at h1
                cases h1
                rcases h2 with h2 | h2
                · exact hown _ h2
                · omega)
            (fun i hi hik => by
              rcases Nat.lt_or_eq_of_le (Nat.le_of_lt_succ hik) with h | h
              · exact HT.out.less i hi h
              · subst h
                have := HQ.out.2
                rw [← this]
                exact hlt))
          clear hr8 hk8 hv8 hn7 hk7 hsz hsz2 hown a0 a1 htk hlt' j0 j1 j2 jf jb
          go_wp2_with (at_builtin; refine stopAt ?_; intro q hq)
          go_roundw
          case rel => exact ⟨k + 1, by omega, by go_num, HT8⟩
          case measure => simp [intOf]; omega
        · have hlt' : Op.bytesLess (str q.1).toList (str key).toList = false := by rw [str_lt]; simpa using hlt
          go_wp2_with (at_builtin; refine stopAt ?_; intro q hq)
          go_quiet (fail)
          go_wp2_with (at_builtin; refine stopAt ?_; intro q hq)
          go_meet
          exact ⟨k, hk, rfl, hid ⟨⟨HT.out.keep.drewN _, HT.out.row.keep ((Keep.refl (fun _ => False) _).drewN _) (fun _ _ x => x), HT.out.own, HT.out.less⟩, fun h => by rw [← HQ.out.2]; exact hlt⟩⟩
      · have h4 : decide ((k : Int) < n) = false := by simp; omega
        go_wp2_with (at_builtin; refine stopAt ?_; intro q hq)
        go_quiet (fail)
        go_wp2_with (at_builtin; refine stopAt ?_; intro q hq)
        go_meet
        exact ⟨k, hk, rfl, hid ⟨⟨HT.out.keep.drewN _, HT.out.row.keep ((Keep.refl (fun _ => False) _).drewN _) (fun _ _ x => x), HT.out.own, HT.out.less⟩, fun h => by have := HN.out; omega⟩⟩
  case rest =>
    rename_i v7 iv8 
    obtain ⟨k, hk, rfl, HT⟩ := hcut
    obtain ⟨bo, bcap, rfl, hbc, hbm, -⟩ := HT.out.1.row.form
    have hnr := HT.out.1.keep.get HA.out.2.1 id
    obtain ⟨j0, j1, j2, jf, jb⟩ := cells3i hnr
    clear hnr
    obtain ⟨o2, ho2⟩ : ∃ o2, o2 = ps.take k ++ (if gone then [] else [(key, value)]) := ⟨_, rfl⟩
    have Ho2 := hid ho2
    clear ho2
    go_upto_if 44 with fail
    go_cut [7] (fun v wx => Hid (LayEnd w1 o2 v wx))
    case first =>
      cases gone with
      | true =>
        go_wp2_with (at_builtin; refine stopAt ?_; intro q hq)
        go_meet
        have e2 : o2 = ps.take k := by rw [Ho2.out]; simp
        refine hid ⟨HT.out.1.keep, ?_, HT.out.1.own⟩
        rw [e2, List.length_take, Nat.min_eq_left (by rw [← HN.out]; exact hk)]
        exact HT.out.1.row
      | false =>
        go_wp2_with (at_builtin; refine stopAt ?_; intro q hq)
        (refine hq.out ?_; clear hq q)
        have hn7 := heap_alloc_new wc (.cells #[.string (str key), .string (str value)] 72)
        have hk7 : Keep (fun _ => False) wc (wc.alloc (.cells #[.string (str key), .string (str value)] 72)) := (Keep.refl _ _).alloc _
        obtain ⟨w7, hw7⟩ : ∃ w7, w7 = wc.alloc (.cells #[.string (str key), .string (str value)] 72) := ⟨_, rfl⟩
        rw [← hw7] at hn7 hk7 ⊢
        clear hw7
        refine wpList_plain rfl (fun K hK => ?_)
        refine wp_append ty_prs (.tmp 45) (.tmp 51) rfl rfl (HT.out.1.row.keep hk7 (fun _ _ x => x)) (some ⟨wc.heap.size, 0, none⟩) 1 1 (prV (key, value)) (by rfl)
          ⟨rfl, fun _ => ⟨_, rfl, fun t u hu => by rw [addr_add, Nat.zero_add, cell_of_row _ _ _ _ _ _ hn7]; simpa [prV] using hu⟩⟩ (prV_oneCell _) (by unfold maxLen; omega) (by omega) ?_
        intro v8 w8 hr8 hk8 hv8
        refine hK _ _ ?_
        clear hK K
        have hsz := HT.out.1.keep.size
        have hsz2 := hk7.size
        have hown := HT.out.1.own
        have e2 : o2 = ps.take k ++ [(key, value)] := by rw [Ho2.out]; simp
        have HT8 := hid (LayEnd.mk (w1 := w1) (out := o2) (v := v8) (wr := w8)
            ((HT.out.1.keep.next hk7 (fun _ _ x => x) (fun _ _ x => x)).next hk8 (fun _ _ x => x) (fun j hj x => absurd (hown j x) (by omega)))
            (by
              rw [e2, prsV_append, prsV_one, List.length_append, List.length_take, Nat.min_eq_left (by rw [← HN.out]; exact hk)]
              exact hr8)
            (fun b e => by
              rcases hv8 with ⟨_, h0⟩ | ⟨b', h1, h2⟩
              · omega
              · rw [e] at h1
                cases h1
                rcases h2 with h2 | h2
                · exact hown _ h2
                · omega))
        clear hr8 hk8 hv8 hn7 hk7 hsz hsz2 hown e2
        go_wp2_with (at_builtin; refine stopAt ?_; intro q hq)
        go_meet
        exact HT8
    case rest =>
      clear j0 j1 j2 jf jb
      have HE : Hid (LayEnd w1 o2 _ wc) := hcut
      clear hcut
      have HL : Hid (∀ i (h : i < ps.length), i < k → ps[i].1 < key) := hid HT.out.1.less
      have HL2 : Hid (∀ (h : k < ps.length), ¬ ps[k].1 < key) := hid HT.out.2
      clear HT
      have hnr := HE.out.keep.get HA.out.2.1 id
      obtain ⟨j0, j1, j2, jf, jb⟩ := cells3i hnr
      clear hnr
      obtain ⟨B, hB⟩ : ∃ B : Bool, B = decide ((ps[k]?.map (·.1)) = some key) := ⟨_, rfl⟩
      have HB := hid hB
      clear hB
      go_upto_region 12 with fail
      go_cut [66] (fun tv wx => tv = .bool B ∧ Hid (LayEnd w1 o2 u7 wx))
      case first =>
        by_cases hkn : k < n
        · have h4 : (k : Int) < n := by omega
          have hil : k < ps.length := by rw [← HN.out]; exact hkn
          have hr' := (HR.out.keep HA.out.1 (fun _ _ x => x)).keep HE.out.keep (fun _ _ x => x)
          have h0 := prsV_get ps k hil 0 (by decide)
          obtain ⟨ga, cap', hv, hc⟩ := hr'.getCell (show (prsV ps)[k * 2 + 0]? = some (.string (str ps[k].1)) by rw [h0]; rfl)
          cases hv
          obtain ⟨q, hq⟩ : ∃ q, q = ps[k] := ⟨_, rfl⟩
          rw [← hq] at hc
          rw [Nat.add_zero] at hc
          have hBq : B = decide (q.1 = key) := by rw [HB.out, hq, List.getElem?_eq_getElem hil]; simp
          have HBq := hid hBq
          clear hr' h0 hq hBq
          go_wp2_with (at_builtin; refine stopAt ?_; intro q hq)
          go_quiet (fail)
          go_wp2_with (at_builtin; refine stopAt ?_; intro q hq)
          go_meet
          refine ⟨?_, hid ⟨HE.out.keep.drewN _, HE.out.row.keep ((Keep.refl (fun _ => False) _).drewN _) (fun _ _ x => x), HE.out.own⟩⟩
          rw [str_toList, str_toList, HBq.out]
          congr 1
          by_cases he : q.1 = key <;> simp [he]
        · have h4 : decide ((k : Int) < n) = false := by simp; omega
          go_wp2_with (at_builtin; refine stopAt ?_; intro q hq)
          go_quiet (fail)
          go_wp2_with (at_builtin; refine stopAt ?_; intro q hq)
          go_meet
          have hBf : B = false := by
            rw [HB.out, List.getElem?_eq_none (by have := HN.out; omega)]
            simp
          rw [hBf]
          exact ⟨rfl, hid ⟨HE.out.keep.drewN _, HE.out.row.keep ((Keep.refl (fun _ => False) _).drewN _) (fun _ _ x => x), HE.out.own⟩⟩
      case rest =>
        obtain ⟨rfl, HE⟩ := hcut
        clear j0 j1 j2 jf jb
        obtain ⟨k2, hk2⟩ : ∃ k2, k2 = if B then k + 1 else k := ⟨_, rfl⟩
        have hkb : B = true → k < n := fun h => by
          rw [HB.out] at h
          cases hg : ps[k]? with
          | none => rw [hg] at h; simp at h
          | some q => rw [HN.out]; exact (List.getElem?_eq_some_iff.1 hg).1
        have hk2n : k2 ≤ n := by
          rw [hk2]
          split
          · rename_i h; exact hkb h
          · exact hk
        have Hk2 := hid hk2
        clear hk2 hkb
        go_upto_if 66 with fail
        go_cut [8] (fun iv wx => iv = .int .i64 k2 ∧ Hid (LayEnd w1 o2 u7 wx))
        case first =>
          cases B with
          | true =>
            go_wp2_with (at_builtin; refine stopAt ?_; intro q hq)
            go_meet
            exact ⟨by rw [Hk2.out]; rfl, HE⟩
          | false =>
            go_wp2_with (at_builtin; refine stopAt ?_; intro q hq)
            go_meet
            exact ⟨by rw [Hk2.out]; rfl, HE⟩
        case rest =>
          obtain ⟨rfl, HE⟩ := hcut
          obtain ⟨co, ccap, rfl, hcb, hcm, -⟩ := HE.out.row.form
          have hrow2 := (HR.out.keep HA.out.1 (fun _ _ x => x)).keep HE.out.keep (fun _ _ x => x)
          have hcn : n ≤ cap := by obtain ⟨a1, c1, e1, e2, _⟩ := hrow2.form; cases e1; exact e2
          have hsl := fun w => run_sliceAt_lo (P := Try.prog) ty_prs ao n cap .i64 k2 hk2n w
          have hcells := (Cells.of_row hrow2).tail k2 hk2n hcn (by decide)
          rw [prsV_drop] at hcells
          obtain ⟨T, hT⟩ : ∃ T, T = tailAt ao cap k2 2 := ⟨_, rfl⟩
          obtain ⟨r, hr⟩ : ∃ r, r = n - k2 := ⟨_, rfl⟩
          rw [← hT, ← hr] at hsl
          rw [← hT, ← hr] at hcells
          have ho2l : o2.length ≤ n + 1 := by
            rw [Ho2.out, List.length_append, List.length_take]
            have : (if gone = true then [] else [(key, value)] : List (Str × Str)).length ≤ 1 := by split <;> simp
            omega
          have HD := hid (And.intro hcells hr)
          clear hcells hT hr hrow2
          go_wp2_with (at_builtin; refine stopAt ?_; intro q hq)
          (refine hq.out ?_; clear hq q)
          refine wpList_plain rfl (fun K hK => ?_)
          refine wp_append ty_prs (.tmp 69) (.tmp 72) rfl rfl HE.out.row T r (cap - k2) (prsV (ps.drop k2)) (by rfl) HD.out.1 (prsV_oneCell _) (by have := HD.out.2; unfold maxLen; omega) (by have := HD.out.2; omega) ?_
          intro v8 w8 hr8 hk8 hv8
          refine hK _ _ ?_
          clear hK K
          have hown := HE.out.own
          have hfin : o2 ++ ps.drop k2 = lay1 ps ⟨key, value, gone⟩ := by
            rw [lay1_eq ps ⟨key, value, gone⟩ k (by rw [← HN.out]; exact hk) HL.out HL2.out, Ho2.out, Hk2.out, HB.out]
            simp only [decide_eq_true_eq]
          have hl : (lay1 ps ⟨key, value, gone⟩).length = o2.length + r := by rw [← hfin, List.length_append, List.length_drop, HD.out.2, HN.out]
          rw [← prsV_append, hfin, ← hl] at hr8
          have HF := hid (And.intro hr8 (And.intro ((HA.out.1.next HE.out.keep (fun _ _ x => x) (fun _ _ x => x)).next hk8 (fun _ _ x => x) (fun j hj x => absurd (hown j x) (by have := HA.out.1.size; omega))) (show ∀ i, v8.ownBlock = some i → w.heap.size ≤ i from fun b e => by
            have := HA.out.1.size
            have := HE.out.keep.size
            rcases hv8 with ⟨e1, h0⟩ | ⟨b', h1, h2⟩
            · rw [e1] at e
              have := hown _ e
              omega
            · rw [e] at h1
              cases h1
              rcases h2 with h2 | h2
              · have := hown _ h2
                omega
              · omega)))
          clear hr8 hk8 hv8 hown hfin hl hsl
          go_wp2_with (at_builtin; refine stopAt ?_; intro q hq)
          rw [rounds_succ]
          go_wp2_with (at_builtin; refine stopAt ?_; intro q hq)
          go_ret
          exact ⟨_, rfl, HF.out⟩
end Go.Proofs.Ytiilondhppipnaa
/- The document's Pairs: what items up to a number come to. Conditions: as the contract names them. -/
namespace Go.Proofs.Ytiilondhppipnaa
open Go.RowKit
open MI

def MI.upTo (l : List It) (u : Nat) : List It := l.filter fun i => decide (i.seq ≤ u)
theorem MI.layAll_len (l : List It) : (layAll l).length ≤ l.length := by
  have h2 : ∀ (ps : List (Str × Str)) (c : Ch), (lay1 ps c).length ≤ ps.length + 1 := by
    intro ps c
    induction ps with
    | nil => unfold lay1; split <;> simp
    | cons p ps ih =>
      unfold lay1
      split
      · simp; omega
      · rw [List.length_append]
        have e1 : (if c.gone then [] else [(c.key, c.value)]).length ≤ 1 := by split <;> simp
        have e2 : (if p.1 = c.key then ps else p :: ps).length ≤ ps.length + 1 := by split <;> simp
        simp only [List.length_cons]
        omega
  have h3 : ∀ (l : List It) (ps : List (Str × Str)), (l.foldl layI ps).length ≤ ps.length + l.length := by
    intro l
    induction l with
    | nil => intro ps; simp
    | cons i l ih =>
      intro ps
      rw [List.foldl_cons]
      have e1 := ih (layI ps i)
      have e2 : (layI ps i).length ≤ ps.length + 1 := by
        unfold layI
        split
        · omega
        · exact h2 _ _
      simp only [List.length_cons]
      omega
  have h4 := h3 l []
  simp only [List.length_nil, Nat.zero_add] at h4
  exact h4
theorem MI.upTo_len (l : List It) (u : Nat) : (upTo l u).length ≤ l.length := List.length_filter_le _ _
theorem MI.upTo_snoc (l : List It) (u i : Nat) (h : i < l.length) : layAll (upTo (l.take (i + 1)) u) = if l[i].seq ≤ u then layI (layAll (upTo (l.take i) u)) l[i] else layAll (upTo (l.take i) u) := by
  rw [List.take_add_one, List.getElem?_eq_getElem h, Option.toList_some]
  unfold upTo
  rw [List.filter_append]
  by_cases hs : l[i].seq ≤ u
  · rw [if_pos hs, show ([l[i]].filter fun i => decide (i.seq ≤ u)) = [l[i]] by simp [hs], layAll_snoc]
  · rw [if_neg hs, show ([l[i]].filter fun i => decide (i.seq ≤ u)) = [] by simp [hs], List.append_nil]

structure PrsRel (w : World) (o : List (Str × Str)) (v : Value) (wr : World) : Prop where
  keep : Keep (fun _ => False) w wr
  row : Row wr 72 2 v o.length (prsV o)
  own : ∀ b, v.ownBlock = some b → w.heap.size ≤ b

set_option maxRecDepth 20000 in
set_option maxHeartbeats 2000000 in
theorem rpairs_any (w : World) (ao : Option Addr) (cap n u : Nat) (l : List It) (h1 : Row w 33 5 (.slice ao n cap) n (itsV l)) (hn : n = l.length) (hl : n ≤ 999999) (_hu : u < 18446744073709551616) :
    Calls Try.prog 21 #[.slice ao n cap, .int .u64 (u : Int)] w fun e w' =>
      ∃ v, e = .returned v ∧ Row w' 72 2 v (layAll (upTo l u)).length (prsV (layAll (upTo l u))) ∧ Keep (fun _ => False) w w' ∧ (∀ i, v.ownBlock = some i → w.heap.size ≤ i) := by
  have H1 := hid h1
  have HN := hid hn
  clear h1 hn
  go_enter Try.func21, Try.ntmps21
  go_wp2_with (at_builtin; refine stopAt ?_; intro q hq)
  go_loopw [5, 6] (fun v iv wr => ∃ i : Nat, i ≤ n ∧ iv = .int .i64 i ∧ Hid (PrsRel w (layAll (upTo (l.take i) u)) v wr)) (fun _ iv _ => n - (intOf iv).toNat)
  case atStart => exact ⟨0, Nat.zero_le _, rfl, hid ⟨Keep.refl _ _, Row.nil _ _ _, fun b e => by simp [Value.ownBlock] at e⟩⟩
  case round =>
    obtain ⟨i, hi, rfl, HT⟩ := hrel
    have hol : (layAll (upTo (l.take i) u)).length ≤ n := by
      have e1 := layAll_len (upTo (l.take i) u)
      have e2 := upTo_len (l.take i) u
      rw [List.length_take] at e2
      omega
    obtain ⟨o, ho⟩ : ∃ o, o = layAll (upTo (l.take i) u) := ⟨_, rfl⟩
    rw [← ho] at HT hol
    have Ho := hid ho
    clear ho
    obtain ⟨bo, bcap, hv, hbc, hbm, -⟩ := HT.out.row.form
    subst hv
    by_cases hin : i < n
    · have h4 : (i : Int) < n := by omega
      have hil : i < l.length := by rw [← HN.out]; exact hin
      have hr' := H1.out.keep HT.out.keep (fun _ _ x => x)
      have gets : ∃ g, ao = some ⟨g, 0, none⟩ ∧ ∀ t u, (itV l[i])[t]? = some u → wr.cell? ⟨g, i * 5 + t, none⟩ = some u := by
        have h0 := itsV_get l i hil 0 (by decide)
        obtain ⟨g, cap, hv, hc⟩ := hr'.getCell (show (itsV l)[i * 5 + 0]? = some (.int .u64 (l[i].seq : Int)) by rw [h0]; rfl)
        cases hv
        refine ⟨g, rfl, fun t u hu => ?_⟩
        have ht : t < 5 := (List.getElem?_eq_some_iff.1 hu).1
        have h1 := itsV_get l i hil t ht
        rw [hu] at h1
        obtain ⟨g', cap', hv', hc'⟩ := hr'.getCell h1
        cases hv'
        exact hc'
      obtain ⟨ga, rfl, k0⟩ := gets
      have a0 := k0 0 _ rfl
      have a1 := k0 1 _ rfl
      have a2 := k0 2 _ rfl
      have a3 := k0 3 _ rfl
      have a4 := k0 4 _ rfl
      rw [Nat.add_zero] at a0
      clear k0 hr'
      have hsn := upTo_snoc l u i hil
      obtain ⟨q, hq⟩ : ∃ q, q = l[i] := ⟨_, rfl⟩
      rw [← hq] at a0 a1 a2 a3 a4 hsn
      rw [← Ho.out] at hsn
      obtain ⟨o2, ho2⟩ : ∃ o2, o2 = layAll (upTo (l.take (i + 1)) u) := ⟨_, rfl⟩
      rw [← ho2] at hsn
      have HO := hid (And.intro hq ho2)
      obtain ⟨seq, mark, key, value, gone⟩ := q
      simp only at a0 a1 a2 a3 a4 hsn
      have HS := hid hsn
      clear hq ho2 hsn
      by_cases hsu : seq ≤ u
      · have t1 : decide ((seq : Int) ≤ (u : Int)) = true := by simp; omega
        cases mark with
        | true =>
          go_wp2_with (at_builtin; refine stopAt ?_; intro q hq)
          refine ⟨⟨i + 1, by omega, by go_num, ?_⟩, by simp [intOf]; omega⟩
          rw [← HO.out.2, HS.out, if_pos hsu]
          exact HT
        | false =>
          go_wp2_with (at_builtin; refine stopAt ?_; intro q hq)
          have hrow7 := HT.out.row.keep ((Keep.refl (fun _ => False) wr).alloc (.cells #[.string (str key), .string (str value), .bool gone] 31)) (fun _ _ x => x)
          obtain ⟨k0, k1, k2, -, -⟩ := cells3i (heap_alloc_new wr (.cells #[.string (str key), .string (str value), .bool gone] 31))
          refine (lay_any _ bo o.length bcap o wr.heap.size 1 ⟨key, value, gone⟩ hrow7 rfl (by omega) k0 k1 k2).mono ?_
          rintro e w8 ⟨v8, rfl, hr8, hk8, ho8⟩
          have hk08 := ((Keep.refl (fun _ => False) wr).alloc (.cells #[.string (str key), .string (str value), .bool gone] 31)).next hk8 (fun _ _ x => x) (fun _ _ x => x)
          have hsz : wr.heap.size ≤ (wr.alloc (.cells #[.string (str key), .string (str value), .bool gone] 31)).heap.size := ((Keep.refl (fun _ => False) wr).alloc _).size
          have HF := hid (And.intro hr8 (And.intro hk08 (fun b e => Nat.le_trans HT.out.keep.size (Nat.le_trans hsz (ho8 b e)))))
          clear k0 k1 k2 hrow7 hr8 hk8 ho8 hk08 hsz
          go_wp2_with (at_builtin; refine stopAt ?_; intro q hq)
          refine ⟨⟨i + 1, by omega, by go_num, ?_⟩, by simp [intOf]; omega⟩
          have e : o2 = lay1 o ⟨key, value, gone⟩ := by rw [HS.out, if_pos hsu]; rfl
          rw [← HO.out.2, e]
          exact hid ⟨HT.out.keep.next HF.out.2.1 (fun _ _ x => x) (fun _ _ x => x), HF.out.1, HF.out.2.2⟩
      · have t1 : decide ((seq : Int) ≤ (u : Int)) = false := by simp; omega
        go_wp2_with (at_builtin; refine stopAt ?_; intro q hq)
        refine ⟨⟨i + 1, by omega, by go_num, ?_⟩, by simp [intOf]; omega⟩
        rw [← HO.out.2, HS.out, if_neg hsu]
        exact HT
    · have h4 : decide ((i : Int) < n) = false := by simp; omega
      have he : l.take i = l := List.take_of_length_le (by have := HN.out; omega)
      have ho := Ho.out
      rw [he] at ho
      have HO := hid ho
      clear he ho
      go_wp2_with (at_builtin; refine stopAt ?_; intro q hq)
      go_ret
      rw [← HO.out]
      exact ⟨_, rfl, HT.out.row, HT.out.keep, HT.out.own⟩
end Go.Proofs.Ytiilondhppipnaa
/- The document's sink: At, Next. Conditions: as each contract names them. -/
namespace Go.Proofs.Ytiilondhppipnaa
open Go.RowKit
open MI

/-- The document's sink in memory; dv, hv: its slices. -/
structure RSnkIs (w : World) (b : Nat) (F : Nat → Prop) (k : Snk) (dv hv : Value) : Prop where
  head : w.heap[b]? = some (.cells #[.int .u64 (k.cut : Int), dv, hv] 28 (0, 0))
  done : Row w 33 5 dv k.done.length (itsV k.done)
  held : Row w 33 5 hv k.held.length (itsV (k.held.map (·.2)))
  self : F b
  fd : ∀ i, dv.ownBlock = some i → F i ∧ i ≠ b
  fh : ∀ i, hv.ownBlock = some i → F i ∧ i ≠ b
  apart : ∀ i, dv.ownBlock = some i → hv.ownBlock ≠ some i
  lt : ∀ i, F i → i < w.heap.size
  ok : AL.Ok k.held
  seqs : ∀ q ∈ k.held, q.2.seq = q.1 ∧ k.cut < q.1 ∧ rightI q.2 = true
def RSnkAt (w : World) (b : Nat) (F : Nat → Prop) (k : Snk) : Prop := ∃ dv hv, RSnkIs w b F k dv hv
def RSnkTo (b : Nat) (F : Nat → Prop) (w : World) (k' : Snk) (w' : World) : Prop := ∃ F', RSnkAt w' b F' k' ∧ Keep F w w' ∧ ∀ i, F' i → F i ∨ w.heap.size ≤ i

theorem RSnkIs.keep {w w' : World} {b : Nat} {F K : Nat → Prop} {k : Snk} {dv hv : Value} (H : RSnkIs w b F k dv hv) (hk : Keep K w w') (hn : ∀ i, F i → ¬ K i) : RSnkIs w' b F k dv hv :=
  ⟨hk.get H.head (hn _ H.self), H.done.keep hk (fun i e => hn i (H.fd i e).1), H.held.keep hk (fun i e => hn i (H.fh i e).1), H.self, H.fd, H.fh, H.apart, fun i x => Nat.lt_of_lt_of_le (H.lt i x) hk.size, H.ok, H.seqs⟩
theorem RSnkAt.keep {w w' : World} {b : Nat} {F K : Nat → Prop} {k : Snk} (H : RSnkAt w b F k) (hk : Keep K w w') (hn : ∀ i, F i → ¬ K i) : RSnkAt w' b F k := let ⟨dv, hv, h⟩ := H; ⟨dv, hv, h.keep hk hn⟩
theorem RSnkAt.later {w w' : World} {b : Nat} {F : Nat → Prop} {k : Snk} (H : RSnkAt w b F k) (hk : Keep (fun _ => False) w w') : RSnkAt w' b F k := H.keep hk (fun _ _ x => x)
theorem RSnkAt.to {w : World} {b : Nat} {F : Nat → Prop} {k : Snk} (H : RSnkAt w b F k) : RSnkTo b F w k w := ⟨F, H, Keep.refl _ _, fun _ x => .inl x⟩
theorem RSnkTo.since {b : Nat} {F : Nat → Prop} {w w1 w' : World} {k' : Snk} (h : RSnkTo b F w1 k' w') (hk : Keep (fun _ => False) w w1) : RSnkTo b F w k' w' := by
  obtain ⟨F', h1, h2, h3⟩ := h
  exact ⟨F', h1, hk.next h2 (fun _ _ x => x.elim) (fun _ _ x => x), fun k x => (h3 k x).imp id fun y => Nat.le_trans hk.size y⟩
theorem RSnkAt.toLater {w w' : World} {b : Nat} {F : Nat → Prop} {k : Snk} (H : RSnkAt w b F k) (hk : Keep (fun _ => False) w w') : RSnkTo b F w k w' := (H.later hk).to.since hk

/-- An item of a row. -/
theorem row_item {w : World} {v : Value} {n : Nat} {l : List It} (h : Row w 33 5 v n (itsV l)) (i : Nat) (hi : i < l.length) :
    ∃ g cap, v = .slice (some ⟨g, 0, none⟩) n cap ∧ ∀ t u, (itV l[i])[t]? = some u → w.cell? ⟨g, i * 5 + t, none⟩ = some u := by
  have h0 := itsV_get l i hi 0 (by decide)
  obtain ⟨g, cap, hv, hc⟩ := h.getCell (show (itsV l)[i * 5 + 0]? = some (.int .u64 (l[i].seq : Int)) by rw [h0]; rfl)
  refine ⟨g, cap, hv, fun t u hu => ?_⟩
  have ht : t < 5 := (List.getElem?_eq_some_iff.1 hu).1
  have h1 := itsV_get l i hi t ht
  rw [hu] at h1
  obtain ⟨g', cap', hv', hc'⟩ := h.getCell h1
  rw [hv] at hv'
  cases hv'
  exact hc'

/-- Where in the row an item of a number lies. -/
def AtPost (k : Snk) (seq : Nat) (e : Ending) : Prop :=
  (AL.get k.held seq = none ∧ e = .returned (.int .i64 (-1))) ∨ ∃ j : Nat, ∃ h : j < k.held.length, e = .returned (.int .i64 (j : Int)) ∧ k.held[j].1 = seq ∧ AL.get k.held seq = some k.held[j].2

theorem AL.get_at {κ α : Type} [DecidableEq κ] {m : List (κ × α)} (hm : AL.Ok m) {j : Nat} (hj : j < m.length) : AL.get m m[j].1 = some m[j].2 := by
  induction m generalizing j with
  | nil => simp at hj
  | cons p m ih =>
    have h' := List.pairwise_cons.1 hm
    rw [AL.get_cons]
    cases j with
    | zero => simp
    | succ j =>
      have hj' : j < m.length := by simpa using hj
      have := ih h'.2 hj'
      simp only [List.getElem_cons_succ]
      rw [if_neg (h'.1 _ (List.getElem_mem hj'))]
      exact this

set_option maxRecDepth 20000 in
set_option maxHeartbeats 1000000 in
theorem rat_any (w : World) (b : Nat) (F : Nat → Prop) (k : Snk) (seq : Nat) (hk : RSnkAt w b F k) (hs : seq < 18446744073709551616) :
    Calls Try.prog 36 #[.pointer (some ⟨b, 0, none⟩), .int .u64 (seq : Int)] w fun e w' => AtPost k seq e ∧ Keep (fun _ => False) w w' := by
  obtain ⟨dv, hv, H⟩ := hk
  obtain ⟨i0, i1, i2, if0, ib0⟩ := cells3i H.head
  obtain ⟨ao, cap, rfl, hcap, hmax, -⟩ := H.held.form
  have H0 := hid H
  obtain ⟨n, hn⟩ : ∃ n, n = k.held.length := ⟨_, rfl⟩
  rw [← hn] at i2 hcap
  have HN := hid hn
  have hn63 : (n : Int) ≤ 9223372036854775807 := by unfold maxLen at hmax; omega
  clear H hn
  go_enter Try.func36, Try.ntmps36
  go_wp2_with (at_builtin; refine stopAt ?_; intro q hq)
  clear i0 i1 i2 if0 ib0
  go_loopw [5] (fun iv wr => ∃ i : Nat, i ≤ n ∧ iv = .int .i64 i ∧ Hid (Keep (fun _ => False) w wr ∧ ∀ j (h : j < k.held.length), j < i → k.held[j].1 ≠ seq)) (fun iv _ => n - (intOf iv).toNat)
  case atStart => exact ⟨0, Nat.zero_le _, rfl, hid ⟨Keep.refl _ _, fun j _ h => by omega⟩⟩
  case round =>
    obtain ⟨i, hi, rfl, HK⟩ := hrel
    have hr3 := H0.out.keep HK.out.1 (fun _ _ x => x)
    obtain ⟨i0, i1, i2, if0, ib0⟩ := cells3i hr3.head
    rw [← HN.out] at i2
    by_cases hin : i < n
    · have h4 : (i : Int) < n := by omega
      have hil : i < k.held.length := by rw [← HN.out]; exact hin
      obtain ⟨g, cap', hv, k0⟩ := row_item hr3.held i (by rw [List.length_map]; exact hil)
      rw [← HN.out] at hv
      cases hv
      rw [List.getElem_map] at k0
      have a0 := k0 0 _ rfl
      rw [Nat.add_zero, (H0.out.seqs _ (List.getElem_mem hil)).1] at a0
      clear k0 hr3
      obtain ⟨q, hq⟩ : ∃ q, q = k.held[i].1 := ⟨_, rfl⟩
      rw [← hq] at a0
      have HQ := hid hq
      clear hq
      by_cases he : q = seq
      · subst he
        go_wp2_with (at_builtin; refine stopAt ?_; intro q hq)
        go_ret
        refine ⟨.inr ⟨i, hil, rfl, HQ.out.symm, ?_⟩, HK.out.1⟩
        rw [HQ.out]
        exact AL.get_at H0.out.ok hil
      · have t1 : decide ((q : Int) = (seq : Int)) = false := by simp; omega
        have t2 : ((q : Int) == (seq : Int)) = false := by simp; omega
        go_wp2_with (at_builtin; refine stopAt ?_; intro q hq)
        refine ⟨⟨i + 1, by omega, by go_num, hid ⟨HK.out.1, fun j hj hji => ?_⟩⟩, by simp [intOf]; omega⟩
        rcases Nat.lt_or_eq_of_le (Nat.le_of_lt_succ hji) with h | h
        · exact HK.out.2 j hj h
        · subst h
          rw [← HQ.out]
          exact he
    · have h4 : decide ((i : Int) < n) = false := by simp; omega
      go_wp2_with (at_builtin; refine stopAt ?_; intro q hq)
      go_ret
      refine ⟨.inl ⟨?_, rfl⟩, HK.out.1⟩
      rw [AL.get_none]
      intro p hp
      obtain ⟨j, hj, rfl⟩ := List.getElem_of_mem hp
      exact HK.out.2 j hj (by have := HN.out; omega)

set_option maxRecDepth 20000 in
set_option maxHeartbeats 1000000 in
theorem rnext_any (w : World) (b : Nat) (F : Nat → Prop) (k : Snk) (hk : RSnkAt w b F k) (hc : k.cut + k.held.length < 4611686018427387904) :
    Calls Try.prog 17 #[.pointer (some ⟨b, 0, none⟩)] w fun e w' =>
      ∃ j, e = .returned (.int .u64 ((k.cut + 1 + j : Nat) : Int)) ∧ (∀ i, i < j → (AL.get k.held (k.cut + 1 + i)).isSome = true) ∧ AL.get k.held (k.cut + 1 + j) = none ∧ Keep (fun _ => False) w w' := by
  have H00 := hid hk
  obtain ⟨dv, hv, H⟩ := hk
  obtain ⟨i0, i1, i2, if0, ib0⟩ := cells3i H.head
  obtain ⟨ao, cap, rfl, hcap, hmax, -⟩ := H.held.form
  have H0 := hid H
  obtain ⟨n, hn⟩ : ∃ n, n = k.held.length := ⟨_, rfl⟩
  rw [← hn] at i2 hcap hc
  obtain ⟨cut, hcut⟩ : ∃ cut, cut = k.cut := ⟨_, rfl⟩
  rw [← hcut] at i0 hc ⊢
  have HN := hid (And.intro hn hcut)
  have hn63 : (n : Int) ≤ 9223372036854775807 := by unfold maxLen at hmax; omega
  clear H hn hcut
  go_enter Try.func17, Try.ntmps17
  go_wp2_with (at_builtin; refine stopAt ?_; intro q hq)
  clear i0 i1 i2 if0 ib0
  go_loopw [3, 4] (fun av iv wr => ∃ i : Nat, av = .int .u64 ((cut + 1 + i : Nat) : Int) ∧ iv = .int .i64 i ∧ Hid (Keep (fun _ => False) w wr ∧ ∀ j, j < i → (AL.get k.held (cut + 1 + j)).isSome = true)) (fun _ iv _ => n + 1 - (intOf iv).toNat)
  case atStart => exact ⟨0, by go_num, rfl, hid ⟨Keep.refl _ _, fun j h => by omega⟩⟩
  case round =>
    obtain ⟨i, rfl, rfl, HK⟩ := hrel
    have hin : i ≤ n := by rw [HN.out.1]; exact row_len H0.out.ok (cut + 1) i HK.out.2
    obtain ⟨a, ha⟩ : ∃ a, a = cut + 1 + i := ⟨_, rfl⟩
    rw [← ha]
    have HA := hid ha
    have ha62 : a < 9223372036854775808 := by omega
    clear ha
    have hr3 := H0.out.keep HK.out.1 (fun _ _ x => x)
    obtain ⟨i0, i1, i2, if0, ib0⟩ := cells3i hr3.head
    rw [← HN.out.1] at i2
    have h4 : (i : Int) ≤ n := by omega
    clear hr3
    go_wp2_with (at_builtin; refine stopAt ?_; intro q hq)
    refine (rat_any wr b F k a (H00.out.later HK.out.1) (by omega)).mono ?_
    rintro e w2 ⟨hp, hk2⟩
    rcases hp with ⟨hno, rfl⟩ | ⟨j, hj, rfl, hjs, hjg⟩
    · have HF := hid (And.intro hno hk2)
      clear hno hk2 i0 i1 i2 if0 ib0
      go_wp2_with (at_builtin; refine stopAt ?_; intro q hq)
      go_ret
      have ha := HA.out
      refine ⟨i, by rw [ha]; rfl, HK.out.2, by rw [← ha]; exact HF.out.1, HK.out.1.next HF.out.2 (fun _ _ x => x) (fun _ _ x => x)⟩
    · have t1 : decide ((j : Int) < 0) = false := by simp
      have hnx : ∀ j, j < i + 1 → (AL.get k.held (cut + 1 + j)).isSome = true := fun j' hj' => by
        rcases Nat.lt_or_eq_of_le (Nat.le_of_lt_succ hj') with h | h
        · exact HK.out.2 j' h
        · have e := HA.out
          rw [h, ← e, hjg, Option.isSome_some]
      have hi1 : i + 1 ≤ n := by rw [HN.out.1]; exact row_len H0.out.ok (cut + 1) (i + 1) hnx
      have HF := hid (And.intro hnx hk2)
      clear hjs hjg hk2 i0 i1 i2 if0 ib0 hnx
      go_wp2_with (at_builtin; refine stopAt ?_; intro q hq)
      have ha := HA.out
      exact ⟨⟨i + 1, by rw [show cut + 1 + (i + 1) = a + 1 by omega]; rfl, by go_num, hid ⟨HK.out.1.next HF.out.2 (fun _ _ x => x) (fun _ _ x => x), HF.out.1⟩⟩, by simp [intOf]; omega⟩
end Go.Proofs.Ytiilondhppipnaa
/- The document's sink: Take. Conditions: as each contract names them. -/
namespace Go.Proofs.Ytiilondhppipnaa
open Go.RowKit
open MI

theorem AL.del_none {κ α : Type} [DecidableEq κ] {m : List (κ × α)} {x : κ} (h : AL.get m x = none) : AL.del m x = m := by
  unfold AL.del
  rw [List.filter_eq_self]
  intro p hp
  have := AL.get_none.1 h p hp
  simpa using this
theorem MI.adv_get : ∀ (n : Nat) (k : Snk) (x : Nat), k.cut + n < x → AL.get (adv k n).held x = AL.get k.held x
  | 0, _, _, _ => rfl
  | n + 1, k, x, h => by
    rw [adv_step]
    simp only [step1]
    rw [AL.get_del_other _ (by rw [adv_cut]; omega), adv_get n k x (by omega)]
theorem MI.adv_held : ∀ (n : Nat) (k : Snk), (∀ q ∈ k.held, k.cut < q.1) → (adv k n).held = k.held.filter fun q => decide (k.cut + n < q.1)
  | 0, k, h => by
    show k.held = _
    rw [List.filter_eq_self.2]
    intro q hq
    simpa using h q hq
  | n + 1, k, h => by
    rw [adv_step]
    simp only [step1]
    rw [adv_held n k h, adv_cut]
    unfold AL.del
    rw [List.filter_filter]
    congr 1
    funext q
    by_cases h1 : k.cut + n < q.1 <;> by_cases h2 : q.1 = k.cut + n + 1 <;> simp [h1, h2] <;> omega
theorem MI.adv_done1 (n : Nat) (k : Snk) : (adv k (n + 1)).done = (adv k n).done ++ [(AL.get k.held (k.cut + n + 1)).getD It.zero] := by
  rw [adv_step]
  simp only [step1]
  rw [adv_cut, adv_get n k _ (by omega)]

/-- A field of the sink is stored: its slice of what is done. -/
theorem RSnkIs.setDone {w w5 : World} {b : Nat} {F : Nat → Prop} {k : Snk} {dv hv v5 : Value} (H : RSnkIs w b F k dv hv) {d5 : List It} (hk : Keep (fun i => dv.ownBlock = some i) w w5) (hr : Row w5 33 5 v5 d5.length (itsV d5))
    (ho : ∀ i, v5.ownBlock = some i → dv.ownBlock = some i ∨ w.heap.size ≤ i) : RSnkTo b F w ⟨k.cut, d5, k.held⟩ (w5.setCell ⟨b, 1, none⟩ v5) := by
  have hb5 := hk.get H.head (fun e => (H.fd b e).2 rfl)
  have hk6 : Keep (fun k => k = b) w5 (w5.setCell ⟨b, 1, none⟩ v5) := by refine Keep.setCell (Keep.refl _ _) (.inl ?_) _; rfl
  have hb6 : (w5.setCell ⟨b, 1, none⟩ v5).heap[b]? = some (.cells #[.int .u64 (k.cut : Int), v5, hv] 28 (0, 0)) := by
    simp [World.setCell, Array.getElem?_modify, hb5]
  have hbl := H.lt b H.self
  have hne : ∀ i, v5.ownBlock = some i → i ≠ b := fun i e => by
    rcases ho i e with h | h
    · exact (H.fd i h).2
    · omega
  have hkA : Keep F w (w5.setCell ⟨b, 1, none⟩ v5) := hk.next hk6 (fun i _ e => (H.fd i e).1) (fun i _ e => by rw [e]; exact H.self)
  refine ⟨fun i => F i ∨ (w.heap.size ≤ i ∧ i < (w5.setCell ⟨b, 1, none⟩ v5).heap.size), ⟨v5, hv, hb6, hr.keep hk6 (fun i e x => hne i e x), (H.held.keep hk (fun i e x => H.apart i x e)).keep hk6 (fun i e x => (H.fh i e).2 x), .inl H.self, fun i e => ⟨?_, hne i e⟩, fun i e => ⟨.inl (H.fh i e).1, (H.fh i e).2⟩, fun i e h => ?_, fun i x => ?_, H.ok, H.seqs⟩, hkA, fun i x => x.imp id fun y => y.1⟩
  · rcases ho i e with h | h
    · exact .inl (H.fd i h).1
    · exact .inr ⟨h, by have := hr.lt e; have := hk6.size; omega⟩
  · rcases ho i e with h1 | h1
    · exact H.apart i h1 h
    · have := H.lt i (H.fh i h).1
      omega
  · exact x.elim (fun y => Nat.lt_of_lt_of_le (H.lt i y) hkA.size) (fun y => y.2)
/-- .. its slice of what is held. -/
theorem RSnkIs.setHeld {w w5 : World} {b : Nat} {F : Nat → Prop} {k : Snk} {dv hv v5 : Value} (H : RSnkIs w b F k dv hv) {h5 : List (Nat × It)} (hk : Keep (fun i => hv.ownBlock = some i) w w5) (hr : Row w5 33 5 v5 h5.length (itsV (h5.map (·.2))))
    (ho : ∀ i, v5.ownBlock = some i → hv.ownBlock = some i ∨ w.heap.size ≤ i) (hok : AL.Ok h5) (hs : ∀ q ∈ h5, q.2.seq = q.1 ∧ k.cut < q.1 ∧ rightI q.2 = true) : RSnkTo b F w ⟨k.cut, k.done, h5⟩ (w5.setCell ⟨b, 2, none⟩ v5) := by
  have hb5 := hk.get H.head (fun e => (H.fh b e).2 rfl)
  have hk6 : Keep (fun k => k = b) w5 (w5.setCell ⟨b, 2, none⟩ v5) := by refine Keep.setCell (Keep.refl _ _) (.inl ?_) _; rfl
  have hb6 : (w5.setCell ⟨b, 2, none⟩ v5).heap[b]? = some (.cells #[.int .u64 (k.cut : Int), dv, v5] 28 (0, 0)) := by
    simp [World.setCell, Array.getElem?_modify, hb5]
  have hbl := H.lt b H.self
  have hne : ∀ i, v5.ownBlock = some i → i ≠ b := fun i e => by
    rcases ho i e with h | h
    · exact (H.fh i h).2
    · omega
  have hkA : Keep F w (w5.setCell ⟨b, 2, none⟩ v5) := hk.next hk6 (fun i _ e => (H.fh i e).1) (fun i _ e => by rw [e]; exact H.self)
  refine ⟨fun i => F i ∨ (w.heap.size ≤ i ∧ i < (w5.setCell ⟨b, 2, none⟩ v5).heap.size), ⟨dv, v5, hb6, (H.done.keep hk (fun i e x => H.apart i e x)).keep hk6 (fun i e x => (H.fd i e).2 x), hr.keep hk6 (fun i e x => hne i e x), .inl H.self, fun i e => ⟨.inl (H.fd i e).1, (H.fd i e).2⟩, fun i e => ⟨?_, hne i e⟩, fun i e h => ?_, fun i x => ?_, hok, hs⟩, hkA, fun i x => x.imp id fun y => y.1⟩
  · rcases ho i e with h | h
    · exact .inl (H.fh i h).1
    · exact .inr ⟨h, by have := hr.lt e; have := hk6.size; omega⟩
  · rcases ho i h with h1 | h1
    · exact H.apart i e h1
    · have := H.lt i (H.fd i e).1
      omega
  · exact x.elim (fun y => Nat.lt_of_lt_of_le (H.lt i y) hkA.size) (fun y => y.2)
/-- .. its cut. -/
theorem RSnkTo.setCut {w w1 : World} {b : Nat} {F : Nat → Prop} {k : Snk} (h : RSnkTo b F w k w1) (c : Nat) (hs : ∀ q ∈ k.held, c < q.1) : RSnkTo b F w ⟨c, k.done, k.held⟩ (w1.setCell ⟨b, 0, none⟩ (.int .u64 (c : Int))) := by
  obtain ⟨F', ⟨dv, hv, H⟩, g2, g3⟩ := h
  have hk6 : Keep (fun k => k = b) w1 (w1.setCell ⟨b, 0, none⟩ (.int .u64 (c : Int))) := by refine Keep.setCell (Keep.refl _ _) (.inl ?_) _; rfl
  have hb6 : (w1.setCell ⟨b, 0, none⟩ (.int .u64 (c : Int))).heap[b]? = some (.cells #[.int .u64 (c : Int), dv, hv] 28 (0, 0)) := by
    simp [World.setCell, Array.getElem?_modify, H.head]
  refine ⟨F', ⟨dv, hv, hb6, H.done.keep hk6 (fun i e x => (H.fd i e).2 x), H.held.keep hk6 (fun i e x => (H.fh i e).2 x), H.self, H.fd, H.fh, H.apart, fun i x => Nat.lt_of_lt_of_le (H.lt i x) hk6.size, H.ok, fun q hq => ⟨(H.seqs q hq).1, hs q hq, (H.seqs q hq).2.2⟩⟩, g2.next hk6 (fun _ _ x => x) (fun i hi x => ?_), g3⟩
  rw [x]
  rcases g3 b H.self with y | y
  · exact y
  · omega
theorem RSnkTo.next {b : Nat} {F F' : Nat → Prop} {w w1 w2 : World} {k2 : Snk} (h1 : Keep F w w1) (h2 : ∀ i, F' i → F i ∨ w.heap.size ≤ i) (h : RSnkTo b F' w1 k2 w2) : RSnkTo b F w k2 w2 := by
  obtain ⟨F2, g1, g2, g3⟩ := h
  exact ⟨F2, g1, h1.next g2 (fun _ _ x => x) (fun i hi x => (h2 i x).elim id fun y => absurd hi (by omega)), fun i x => by
    rcases g3 i x with y | y
    · exact h2 i y
    · exact .inr (Nat.le_trans h1.size y)⟩

/-- Items compared. -/
theorem item_eql (x y : It) (w : World) : (binOp .eql 33 (itVal x) (itVal y)).run Try.prog w = .ok (.bool (decide (x = y))) w := by
  obtain ⟨s, m, k, v, g⟩ := x
  obtain ⟨s', m', k', v', g'⟩ := y
  unfold itVal
  simp only
  go_simp
  simp only [str_toList, Int.natCast_inj]
  by_cases h1 : s = s' <;> by_cases h2 : m = m' <;> by_cases h3 : k = k' <;> by_cases h4 : v = v' <;> by_cases h5 : g = g' <;> simp [h1, h2, h3, h4, h5]

set_option maxRecDepth 20000 in
set_option maxHeartbeats 4000000 in
theorem rtake_any (w : World) (b : Nat) (F : Nat → Prop) (k : Snk) (i : It) (hk : RSnkAt w b F k) (hc : k.cut + k.held.length < 2305843009213693952) (hd : k.done.length + k.held.length + 1 ≤ 1000000) (hs : i.seq < 18446744073709551616) :
    Calls Try.prog 14 #[.pointer (some ⟨b, 0, none⟩), itVal i] w fun e w' => e = .returned (.int .i64 ((k.take i).2 : Int)) ∧ RSnkTo b F w (k.take i).1 w' := by
  obtain ⟨cut, done, held⟩ := k
  simp only at hc hd
  have H0 := hid hk
  obtain ⟨R, hR⟩ : ∃ R, R = Snk.take ⟨cut, done, held⟩ i := ⟨_, rfl⟩
  rw [← hR]
  unfold Snk.take at hR
  simp only at hR
  obtain ⟨seq, mark, key, value, gone⟩ := i
  have HR := hid hR
  simp only at hs
  have hn1 := heap_alloc_new w (.cells #[.int .u64 (seq : Int), .bool mark, .string (str key), .string (str value), .bool gone] 33)
  have hk1 : Keep (fun _ => False) w (w.alloc (.cells #[.int .u64 (seq : Int), .bool mark, .string (str key), .string (str value), .bool gone] 33)) := (Keep.refl _ _).alloc _
  obtain ⟨j0, j1, j2, j3, j4, jf, jb⟩ := cells5i hn1
  obtain ⟨rt, hrt⟩ : ∃ rt, rt = rightI ⟨seq, mark, key, value, gone⟩ := ⟨_, rfl⟩
  have Hrt := hid hrt
  have H1 := hid (And.intro hn1 hk1)
  clear hk hR hn1 hk1 hrt
  unfold itVal
  simp only
  go_enter Try.func14, Try.ntmps14
  go_wp2_with (at_builtin; refine stopAt ?_; intro q hq)
  clear j0 j1 j2 j3 j4 jf jb
  obtain ⟨w1, hw1⟩ : ∃ w1, w1 = w.alloc (.cells #[.int .u64 (seq : Int), .bool mark, .string (str key), .string (str value), .bool gone] 33) := ⟨_, rfl⟩
  rw [← hw1] at H1 ⊢
  clear hw1
  have hright := rrightI_any w1 ⟨seq, mark, key, value, gone⟩
  rw [← Hrt.out] at hright
  refine hright.mono ?_
  rintro e w2 ⟨rfl, hk2⟩
  have hk02 := hid (H1.out.2.next hk2 (fun _ _ x => x) (fun _ _ x => x))
  have hn2 := hk2.get H1.out.1 id
  have HN2 := hid hn2
  clear hk2 hright H1
  cases rt with
  | false =>
    go_wp2_with (at_builtin; refine stopAt ?_; intro q hq)
    go_ret
    have hR := HR.out
    rw [← Hrt.out, if_pos rfl] at hR
    rw [hR]
    exact ⟨rfl, H0.out.toLater hk02.out⟩
  | true =>
    have hR := HR.out
    rw [← Hrt.out, if_neg (by simp)] at hR
    clear HR
    have HR := hid hR
    clear hR
    obtain ⟨dv, hv, H2⟩ := H0.out.later hk02.out
    obtain ⟨j0, j1, j2, j3, j4, jf, jb⟩ := cells5i hn2
    obtain ⟨i0, i1, i2, if0, ib0⟩ := cells3i H2.head
    simp only at i0
    clear hn2 H2
    go_wp2_with (at_builtin; refine stopAt ?_; intro q hq)
    go_quiet (fail)
    obtain ⟨w3, hw3⟩ : ∃ w3, w3 = w2.drewN nq := ⟨_, rfl⟩
    have hk23 : Keep (fun _ => False) w2 w3 := by rw [hw3]; exact (Keep.refl _ _).drewN _
    rw [← hw3]
    clear hw3 i0 i1 i2 if0 ib0 j0 j1 j2 j3 j4 jf jb
    have hk03 := hid (hk02.out.next hk23 (fun _ _ x => x) (fun _ _ x => x))
    have HN3 := hid (hk23.get HN2.out id)
    clear hk23 HN2 hk02
    by_cases hsc : seq ≤ cut
    · have t1 : decide ((seq : Int) ≤ (cut : Int)) = true := by simp; omega
      go_wp2_with (at_builtin; refine stopAt ?_; intro q hq)
      go_ret
      have hR := HR.out
      rw [if_pos hsc] at hR
      rw [hR]
      exact ⟨rfl, H0.out.toLater hk03.out⟩
    have t1 : decide ((seq : Int) ≤ (cut : Int)) = false := by simp; omega
    have hR := HR.out
    rw [if_neg hsc] at hR
    clear HR
    have HR := hid hR
    clear hR
    obtain ⟨j0, j1, j2, j3, j4, jf, jb⟩ := cells5i HN3.out
    go_wp2_with (at_builtin; refine stopAt ?_; intro q hq)
    clear j0 j1 j2 j3 j4 jf jb
    refine (rat_any w3 b F ⟨cut, done, held⟩ seq (H0.out.later hk03.out) hs).mono ?_
    rintro e w4 ⟨hp, hk4⟩
    have hk04 := hid (hk03.out.next hk4 (fun _ _ x => x) (fun _ _ x => x))
    have HN4 := hid (hk4.get HN3.out id)
    clear HN3 hk03 hk4
    obtain ⟨dv, hv, H4⟩ := H0.out.later hk04.out
    obtain ⟨j0, j1, j2, j3, j4, jf, jb⟩ := cells5i HN4.out
    obtain ⟨i0, i1, i2, if0, ib0⟩ := cells3i H4.head
    simp only at i0
    have HI4 := hid H4
    clear H4
    rcases hp with ⟨hno, rfl⟩ | ⟨j, hj, rfl, hjs, hjg⟩
    · rw [hno] at HR
      simp only at HR
      have Hno := hid hno
      clear hno
      obtain ⟨dd, hdd⟩ : ∃ dd : Nat, dd = seq - cut := ⟨_, rfl⟩
      have hwd : IntKind.u64.wrap ((seq : Int) - (cut : Int)) = (dd : Int) := by rw [show ((seq : Int) - (cut : Int)) = (dd : Int) by omega]; exact wrapU64 _ (by omega)
      rw [← hdd] at HR
      have Hdd := hid hdd
      clear hdd
      go_wp2_with (at_builtin; refine stopAt ?_; intro q hq)
      go_quiet (fail)
      obtain ⟨w5, hw5⟩ : ∃ w5, w5 = w4.drewN nq := ⟨_, rfl⟩
      have hk45 : Keep (fun _ => False) w4 w5 := by rw [hw5]; exact (Keep.refl _ _).drewN _
      rw [← hw5]
      clear hw5 i0 i1 i2 if0 ib0 j0 j1 j2 j3 j4 jf jb
      have H5 := hid (HI4.out.keep hk45 (fun _ _ x => x))
      have HN5 := hid (hk45.get HN4.out id)
      obtain ⟨i0, i1, i2, if0, ib0⟩ := cells3i H5.out.head
      obtain ⟨j0, j1, j2, j3, j4, jf, jb⟩ := cells5i HN5.out
      simp only at i0
      go_wp2_with (at_builtin; refine stopAt ?_; intro q hq)
      go_quiet (fail)
      obtain ⟨w6, hw6⟩ : ∃ w6, w6 = w5.drewN nq := ⟨_, rfl⟩
      have hk46 : Keep (fun _ => False) w4 w6 := by rw [hw6]; exact hk45.drewN _
      rw [← hw6]
      clear hw6 i0 i1 i2 if0 ib0 j0 j1 j2 j3 j4 jf jb
      have hk06 := hid (hk04.out.next hk46 (fun _ _ x => x) (fun _ _ x => x))
      have H6 := hid (HI4.out.keep hk46 (fun _ _ x => x))
      have HN6 := hid (hk46.get HN4.out id)
      clear hk46 HI4 HN4 hk04 hwd hk45 H5 HN5
      by_cases hfar : 512 < dd
      · have t2 : decide ((512 : Int) < (dd : Int)) = true := by simp; omega
        go_wp2_with (at_builtin; refine stopAt ?_; intro q hq)
        go_ret
        have hR := HR.out
        rw [if_pos hfar] at hR
        rw [hR]
        exact ⟨rfl, H0.out.toLater hk06.out⟩
      have t2 : decide ((512 : Int) < (dd : Int)) = false := by simp; omega
      have hR := HR.out
      rw [if_neg hfar] at hR
      clear HR
      have HR := hid hR
      clear hR
      obtain ⟨i0, i1, i2, if0, ib0⟩ := cells3i H6.out.head
      obtain ⟨j0, j1, j2, j3, j4, jf, jb⟩ := cells5i HN6.out
      obtain ⟨ao, cap, rfl, hcap, hmax, -⟩ := H6.out.held.form
      simp only at i0 i2
      go_wp2_with (at_builtin; refine stopAt ?_; intro q hq)
      refine wp_region_canon [] (by kernel_rfl) (by kernel_rfl) ?_
      repeat (first | (apply wpC_pure (by rfl); (intro K w'; go_simp; exact id)) | (apply wpC_load (by rfl); (intro K; go_simp; exact id)))
      (refine wpC_new (by rfl) (by rfl) (fun K hK => ?_); go_simp; refine hK _ _ (Pre.push _ rfl) ?_; clear hK K)
      have hk7 : Keep (fun _ => False) w6 (w6.alloc (.cells #[.int .u64 (seq : Int), .bool mark, .string (str key), .string (str value), .bool gone] 33)).drew := ((Keep.refl _ _).alloc _).drew
      have hn7 : (w6.alloc (.cells #[.int .u64 (seq : Int), .bool mark, .string (str key), .string (str value), .bool gone] 33)).drew.heap[w6.heap.size]? = some (.cells #[.int .u64 (seq : Int), .bool mark, .string (str key), .string (str value), .bool gone] 33) := heap_alloc_new w6 _
      obtain ⟨w7, hw7⟩ : ∃ w7, w7 = (w6.alloc (.cells #[.int .u64 (seq : Int), .bool mark, .string (str key), .string (str value), .bool gone] 33)).drew := ⟨_, rfl⟩
      rw [← hw7] at hk7 hn7 ⊢
      clear hw7 i0 i1 i2 if0 ib0 j0 j1 j2 j3 j4 jf jb
      have H7 := hid (H6.out.keep hk7 (fun _ _ x => x))
      refine wpC_act (by rfl) (by rfl) (fun K hK => ?_)
      refine wp_append ty_items (.tmp 58) (.tmp 60) rfl rfl H7.out.held (some ⟨w6.heap.size, 0, none⟩) 1 1 (itV ⟨seq, mark, key, value, gone⟩) rfl
        ⟨rfl, fun _ => ⟨_, rfl, fun t u hu => by rw [addr_add, Nat.zero_add, cell_of_row _ _ _ _ _ _ hn7]; simpa [itV] using hu⟩⟩ (itV_oneCell _) (by unfold maxLen; simp only; omega) (by simp only; omega) ?_
      intro v8 w8 hr8 hk8 hv8
      refine hK _ _ ?_
      clear hK K
      have hb8 := hk8.get H7.out.head (fun e => (H7.out.fh b e).2 rfl)
      obtain ⟨i0, i1, i2, if0, ib0⟩ := cells3i hb8
      obtain ⟨ad8, cap8, rfl, -⟩ := hr8.form
      obtain ⟨h1, hh1⟩ : ∃ h1, h1 = AL.put held seq ⟨seq, mark, ⟨key, value, gone⟩⟩ := ⟨_, rfl⟩
      have hput : h1 = held ++ [(seq, ⟨seq, mark, ⟨key, value, gone⟩⟩)] := by rw [hh1]; unfold AL.put; rw [AL.del_none Hno.out]
      have hok1 : AL.Ok h1 := by rw [hh1]; exact H7.out.ok.put _ _
      have hsq1 : ∀ q ∈ h1, q.2.seq = q.1 ∧ cut < q.1 ∧ rightI q.2 = true := fun q hq => by
        rw [hput] at hq
        rcases List.mem_append.1 hq with hq | hq
        · exact H7.out.seqs q hq
        · simp only [List.mem_singleton] at hq
          subst hq
          exact ⟨rfl, by simp only; omega, Hrt.out.symm⟩
      have hl1 : h1.length = held.length + 1 := by rw [hput]; simp
      have hset := H7.out.setHeld (h5 := h1) hk8 (by
        rw [hl1, hput, List.map_append, itsV_append, List.map_cons, List.map_nil, itsV_one]
        exact hr8) (fun i e => by
          rcases hv8 with ⟨_, h0⟩ | ⟨k', h1, h2⟩
          · omega
          · rw [e] at h1
            cases h1
            rcases h2 with h2 | h2
            · exact .inl h2
            · exact .inr (by omega)) hok1 hsq1
      simp only at hset
      have hset2 := hid (RSnkTo.next ((hk06.out.next hk7 (fun _ _ x => x) (fun _ _ x => x)).mono (fun _ _ x => x.elim)) (fun i x => .inl x) hset)
      clear hset
      have HR2 : Hid (∀ n, n = (Snk.next ⟨cut, done, h1⟩) - cut - 1 → R = (adv ⟨cut, done, h1⟩ (lastMark h1 cut n - cut), 0)) := hid fun n hn => by
        rw [HR.out, hn, hh1]
      have HP := hid (And.intro hok1 (And.intro hsq1 hl1))
      clear hr8 hk8 hv8 hb8 hn7 hk7 hh1 hput hok1 hsq1 hl1 H6 HN6 H7 HR
      repeat (first | (apply wpC_pure (by rfl); (intro K w'; go_simp; exact id)) | (apply wpC_load (by rfl); (intro K; go_simp; exact id)))
      (refine wpC_act (by rfl) (by rfl) (fun K hK => ?_); go_simp; refine hK _ _ ?_; clear hK K)
      refine wpC_nil ?_
      clear i0 i1 i2 if0 ib0
      obtain ⟨w9, hw9⟩ : ∃ w9, w9 = w8.setCell ⟨b, 2, none⟩ (.slice ad8 (held.length + 1) cap8) := ⟨_, rfl⟩
      rw [← hw9] at hset2 ⊢
      clear hw9
      obtain ⟨F9, hA9, hk9, hF9⟩ := hset2.out
      have H9 := hid (And.intro hA9 (And.intro hk9 hF9))
      have hl1 : h1.length = held.length + 1 := HP.out.2.2
      clear hk9 hF9 hset2
      go_wp2_with (at_builtin; refine stopAt ?_; intro q hq)
      refine (rnext_any w9 b F9 ⟨cut, done, h1⟩ hA9 (by simp only; omega)).mono ?_
      rintro e w10 ⟨J, rfl, hJ1, hJ2, hk10⟩
      simp only at hJ1 hJ2
      have HJ := hid (And.intro hJ1 hJ2)
      have hJl : J ≤ h1.length := row_len HP.out.1 (cut + 1) J hJ1
      have H10 := hid (And.intro (hA9.later hk10) (H9.out.2.1.next hk10 (fun _ _ x => x) (fun _ _ x => x.elim)))
      clear hA9 hJ1 hJ2 hk10
      obtain ⟨dv, hv, hI10⟩ := H10.out.1
      obtain ⟨i0, i1, i2, if0, ib0⟩ := cells3i hI10.head
      simp only at i0
      clear hI10
      have hJ62 : cut + 1 + J < 4611686018427387904 := by omega
      go_wp2_with (at_builtin; refine stopAt ?_; intro q hq)
      clear i0 i1 i2 if0 ib0
      go_loopw [8, 9] (fun lv av wr => ∃ a j l : Nat, lv = .int .u64 (l : Int) ∧ av = .int .u64 (a : Int) ∧ j ≤ J ∧ Hid (a = cut + 1 + j) ∧ Hid (l = lastMark h1 cut j) ∧ Hid (RSnkAt wr b F9 ⟨cut, done, h1⟩ ∧ Keep F w wr)) (fun _ av _ => cut + 1 + J - (intOf av).toNat)
      case atStart => exact ⟨cut + 1, 0, cut, by go_num, by go_num, Nat.zero_le _, hid rfl, hid rfl, H10⟩
      case round =>
        obtain ⟨a, j, l, rfl, rfl, hjJ, HA, HL, HK⟩ := hrel
        by_cases hjl : j < J
        · have h4 : (a : Int) < (cut : Int) + 1 + (J : Int) := by have := HA.out; omega
          have ha : a < 9223372036854775808 := by have := HA.out; omega
          go_wp2_with (at_builtin; refine stopAt ?_; intro q hq)
          refine (rat_any wr b F9 ⟨cut, done, h1⟩ a HK.out.1 (by omega)).mono ?_
          rintro e w11 ⟨hp, hk11⟩
          have hpres := HJ.out.1 j hjl
          rw [← HA.out] at hpres
          rcases hp with ⟨hno, rfl⟩ | ⟨jj, hjj, rfl, hjs, hjg⟩
          · simp only at hno
            rw [hno] at hpres
            cases hpres
          · simp only at hjj hjs hjg
            have HK11 := hid (And.intro (HK.out.1.later hk11) (HK.out.2.next hk11 (fun _ _ x => x) (fun _ _ x => x.elim)))
            obtain ⟨dv, hv, hI⟩ := HK11.out.1
            obtain ⟨i0, i1, i2, if0, ib0⟩ := cells3i hI.head
            simp only at i0
            obtain ⟨g, cap', rfl, k0⟩ := row_item hI.held jj (by rw [List.length_map]; exact hjj)
            simp only [List.getElem_map] at k0
            have a1 := k0 1 _ rfl
            obtain ⟨mk, hmk⟩ : ∃ mk, mk = h1[jj].2.mark := ⟨_, rfl⟩
            rw [← hmk] at a1
            have hjn : (jj : Int) < h1.length := by omega
            have hnx : ∀ l', l' = (if mk then a else l) → l' = lastMark h1 cut (j + 1) := fun l' hl' => by
              have e : cut + j + 1 = a := by have := HA.out; omega
              unfold lastMark
              rw [e, hjg, hl', ← HL.out, Option.map_some, Option.getD_some, ← hmk]
            have Hnx := hid hnx
            clear hI k0 hmk hjs hjg hpres hk11 hnx
            obtain ⟨hl, hhl⟩ : ∃ hl, hl = h1.length := ⟨_, rfl⟩
            rw [← hhl] at i2 hjn
            clear hhl
            cases mk with
            | true =>
              go_wp2_with (at_builtin; refine stopAt ?_; intro q hq)
              exact ⟨⟨a + 1, j + 1, a, by go_num, by go_num, by omega, hid (by have := HA.out; omega), hid (Hnx.out _ (by simp)), HK11⟩, by simp [intOf]; omega⟩
            | false =>
              go_wp2_with (at_builtin; refine stopAt ?_; intro q hq)
              exact ⟨⟨a + 1, j + 1, l, by go_num, by go_num, by omega, hid (by have := HA.out; omega), hid (Hnx.out _ (by simp)), HK11⟩, by simp [intOf]; omega⟩
        · have h4 : decide ((a : Int) < (cut : Int) + 1 + (J : Int)) = false := by have := HA.out; simp; omega
          have he : j = J := by omega
          subst he
          obtain ⟨dv, hv, hI⟩ := HK.out.1
          obtain ⟨i0, i1, i2, if0, ib0⟩ := cells3i hI.head
          simp only at i0
          clear hI
          go_wp2_with (at_builtin; refine stopAt ?_; intro q hq)
          clear i0 i1 i2 if0 ib0
          have hlm := lastMark_le h1 cut j
          rw [← HL.out] at hlm
          obtain ⟨N, hN⟩ : ∃ N, l = cut + N := ⟨l - cut, by omega⟩
          subst hN
          have hNl : N ≤ h1.length := by omega
          have HR3 : Hid (R = (adv ⟨cut, done, h1⟩ N, 0)) := hid (by
            have e3 := run_eq (n := h1.length) (a := cut + 1) hJl HJ.out.1 HJ.out.2
            rw [HR2.out j (by unfold Snk.next; simp only; rw [e3]; omega), ← HL.out, show cut + N - cut = N by omega])
          have HT0 : Hid (RSnkTo b F w ⟨cut, (adv ⟨cut, done, h1⟩ 0).done, h1⟩ wr) := hid ⟨F9, HK.out.1, HK.out.2, H9.out.2.2⟩
          have hNJ : N ≤ j := by omega
          have HNJ := hid hNJ
          have hlc : ((cut + N : Nat) : Int) = (cut : Int) + (N : Int) := by omega
          rw [hlc]
          clear HR2 HL HK H10 H9 hlm hlc HA h4
          go_loopw [10] (fun av wr => ∃ t : Nat, av = .int .u64 ((cut + 1 + t : Nat) : Int) ∧ t ≤ N ∧ Hid (RSnkTo b F w ⟨cut, (adv ⟨cut, done, h1⟩ t).done, h1⟩ wr)) (fun av _ => cut + 1 + N - (intOf av).toNat)
          case atStart => exact ⟨0, by go_num, Nat.zero_le _, HT0⟩
          case round =>
            clear HT0
            obtain ⟨t, rfl, htN, HT⟩ := hrel
            obtain ⟨a, ha⟩ : ∃ a, a = cut + 1 + t := ⟨_, rfl⟩
            rw [← ha]
            have HA := hid ha
            obtain ⟨F1, hA1, hk1, hF1⟩ := HT.out
            by_cases htl : t < N
            · have h4 : (a : Int) ≤ (cut : Int) + (N : Int) := by omega
              have ha62 : a < 9223372036854775808 := by omega
              clear ha
              go_wp2_with (at_builtin; refine stopAt ?_; intro q hq)
              refine (rat_any wr b F1 ⟨cut, _, h1⟩ a hA1 (by omega)).mono ?_
              rintro e w11 ⟨hp, hk11⟩
              have hpres := HJ.out.1 t (by omega)
              rw [← HA.out] at hpres
              rcases hp with ⟨hno, rfl⟩ | ⟨jj, hjj, rfl, hjs, hjg⟩
              · simp only at hno
                rw [hno] at hpres
                cases hpres
              · simp only at hjj hjs hjg
                obtain ⟨dv, hv, hI⟩ := hA1.later hk11
                have HK11 := hid (And.intro hI (hk1.next hk11 (fun _ _ x => x) (fun _ _ x => x.elim)))
                have Hd1 : Hid ((adv ⟨cut, done, h1⟩ (t + 1)).done = (adv ⟨cut, done, h1⟩ t).done ++ [h1[jj].2]) := hid (by
                  rw [adv_done1]
                  simp only
                  rw [show cut + t + 1 = a by have := HA.out; omega, hjg]
                  rfl)
                obtain ⟨dn, hdn⟩ : ∃ dn, dn = (adv ⟨cut, done, h1⟩ t).done := ⟨_, rfl⟩
                rw [← hdn] at Hd1 HK11 hI
                have hdl : dn.length ≤ 1000000 := by
                  rw [hdn, adv_done]
                  simp only
                  omega
                obtain ⟨i0, i1, i2, if0, ib0⟩ := cells3i hI.head
                simp only at i0
                obtain ⟨g, cap', rfl, k0⟩ := row_item hI.held jj (by rw [List.length_map]; exact hjj)
                simp only [List.getElem_map] at k0
                obtain ⟨it, hit⟩ : ∃ it, it = h1[jj].2 := ⟨_, rfl⟩
                rw [← hit] at k0 Hd1
                have a0 := k0 0 _ rfl
                have a1 := k0 1 _ rfl
                have a2 := k0 2 _ rfl
                have a3 := k0 3 _ rfl
                have a4 := k0 4 _ rfl
                rw [Nat.add_zero] at a0
                have hjn : (jj : Int) < h1.length := by omega
                obtain ⟨seqi, marki, keyi, valuei, gonei⟩ := it
                simp only at a0 a1 a2 a3 a4
                obtain ⟨ad, cp, rfl, hcap3, hmax3, -⟩ := hI.done.form
                simp only at i1
                clear hI k0 hit hjs hjg hpres hk11 hA1 hdn
                obtain ⟨hl, hhl⟩ : ∃ hl, hl = h1.length := ⟨_, rfl⟩
                rw [← hhl] at i2 hjn
                clear hhl
                go_wp2_with (at_builtin; refine stopAt ?_; intro q hq)
                refine wp_region_canon [] (by kernel_rfl) (by kernel_rfl) ?_
                repeat (first | (apply wpC_pure (by rfl); (intro K w'; go_simp; exact id)) | (apply wpC_load (by rfl); (intro K; go_simp; exact id)))
                (refine wpC_new (by rfl) (by rfl) (fun K hK => ?_); go_simp; refine hK _ _ (Pre.push _ rfl) ?_; clear hK K)
                have hk7 : Keep (fun _ => False) w11 (w11.alloc (.cells #[.int .u64 (seqi : Int), .bool marki, .string (str keyi), .string (str valuei), .bool gonei] 33)).drew := ((Keep.refl _ _).alloc _).drew
                have hn7 : (w11.alloc (.cells #[.int .u64 (seqi : Int), .bool marki, .string (str keyi), .string (str valuei), .bool gonei] 33)).drew.heap[w11.heap.size]? = some (.cells #[.int .u64 (seqi : Int), .bool marki, .string (str keyi), .string (str valuei), .bool gonei] 33) := heap_alloc_new w11 _
                obtain ⟨w12, hw12⟩ : ∃ w12, w12 = (w11.alloc (.cells #[.int .u64 (seqi : Int), .bool marki, .string (str keyi), .string (str valuei), .bool gonei] 33)).drew := ⟨_, rfl⟩
                rw [← hw12] at hk7 hn7 ⊢
                clear hw12 i0 i1 i2 if0 ib0 a0 a1 a2 a3 a4
                have H12 := hid (HK11.out.1.keep hk7 (fun _ _ x => x))
                refine wpC_act (by rfl) (by rfl) (fun K hK => ?_)
                refine wp_append ty_items (.tmp 109) (.tmp 117) rfl rfl H12.out.done (some ⟨w11.heap.size, 0, none⟩) 1 1 (itV ⟨seqi, marki, keyi, valuei, gonei⟩) rfl
                  ⟨rfl, fun _ => ⟨_, rfl, fun t u hu => by rw [addr_add, Nat.zero_add, cell_of_row _ _ _ _ _ _ hn7]; simpa [itV] using hu⟩⟩ (itV_oneCell _) (by unfold maxLen; simp only; omega) (by simp only; omega) ?_
                intro v13 w13 hr13 hk13 hv13
                refine hK _ _ ?_
                clear hK K
                have hb13 := hk13.get H12.out.head (fun e => (H12.out.fd b e).2 rfl)
                obtain ⟨i0, i1, i2, if0, ib0⟩ := cells3i hb13
                obtain ⟨ad13, cap13, rfl, -⟩ := hr13.form
                have hset := H12.out.setDone (d5 := dn ++ [⟨seqi, marki, keyi, valuei, gonei⟩]) hk13 (by
                  rw [List.length_append, List.length_singleton, itsV_append, itsV_one]
                  exact hr13) (fun i e => by
                    rcases hv13 with ⟨_, h0⟩ | ⟨k', h1, h2⟩
                    · omega
                    · rw [e] at h1
                      cases h1
                      rcases h2 with h2 | h2
                      · exact .inl h2
                      · exact .inr (by omega))
                simp only at hset
                rw [← Hd1.out] at hset
                have hset2 := hid (RSnkTo.next (HK11.out.2.next hk7 (fun _ _ x => x) (fun _ _ x => x.elim)) hF1 hset)
                clear hr13 hk13 hv13 hb13 hn7 hk7 hset
                repeat (first | (apply wpC_pure (by rfl); (intro K w'; go_simp; exact id)) | (apply wpC_load (by rfl); (intro K; go_simp; exact id)))
                (refine wpC_act (by rfl) (by rfl) (fun K hK => ?_); go_simp; refine hK _ _ ?_; clear hK K)
                refine wpC_nil ?_
                clear i0 i1 i2 if0 ib0
                go_wp2_with (at_builtin; refine stopAt ?_; intro q hq)
                have ha := HA.out
                exact ⟨⟨t + 1, by rw [show cut + 1 + (t + 1) = a + 1 by omega]; rfl, by omega, hset2⟩, by simp [intOf]; omega⟩
            · have h4 : decide ((a : Int) ≤ (cut : Int) + (N : Int)) = false := by simp; omega
              have he : t = N := by omega
              subst he
              clear ha
              go_wp2_with (at_builtin; refine stopAt ?_; intro q hq)
              obtain ⟨dn, hdn⟩ : ∃ dn, dn = (adv ⟨cut, done, h1⟩ t).done := ⟨_, rfl⟩
              rw [← hdn] at hA1 HT
              have Hdn := hid hdn
              have Hk1 := hid (And.intro hk1 hF1)
              have HA1 := hid hA1
              clear hdn hk1 hF1 hA1
              obtain ⟨wo, hwo⟩ : ∃ wo, wo = wr := ⟨_, rfl⟩
              rw [← hwo] at HA1 HT Hk1 ⊢
              clear hwo
              go_loopw [11, 12] (fun v iv wr' => ∃ i : Nat, iv = .int .i64 (i : Int) ∧ i ≤ h1.length ∧ Hid (Keep (fun _ => False) wo wr' ∧ Row wr' 33 5 v (((h1.take i).filter fun q => decide (cut + t < q.1)).map (·.2)).length (itsV (((h1.take i).filter fun q => decide (cut + t < q.1)).map (·.2))) ∧ ∀ b, v.ownBlock = some b → wo.heap.size ≤ b)) (fun _ iv _ => h1.length - (intOf iv).toNat)
              case atStart => exact ⟨0, rfl, Nat.zero_le _, hid ⟨Keep.refl _ _, Row.nil _ _ _, fun b e => by simp [Value.ownBlock] at e⟩⟩
              case round =>
                obtain ⟨i, rfl, hih, HQ⟩ := hrel
                obtain ⟨o, ho⟩ : ∃ o, o = ((h1.take i).filter fun q => decide (cut + t < q.1)).map (·.2) := ⟨_, rfl⟩
                rw [← ho] at HQ
                have hol : o.length ≤ h1.length := by
                  rw [ho, List.length_map]
                  have e1 := List.length_filter_le (fun q : Nat × It => decide (cut + t < q.1)) (h1.take i)
                  rw [List.length_take] at e1
                  omega
                have Ho := hid ho
                clear ho
                obtain ⟨ad, cp, rfl, hcap3, hmax3, -⟩ := HQ.out.2.1.form
                obtain ⟨dv, hv, hI⟩ := HA1.out.later HQ.out.1
                obtain ⟨ah, ch, rfl, -⟩ := hI.held.form
                obtain ⟨i0, i1, i2, if0, ib0⟩ := cells3i hI.head
                simp only at i0 i2
                have hl9 : h1.length ≤ 1000000 := by omega
                by_cases hil : i < h1.length
                · have h4 : (i : Int) < h1.length := by omega
                  obtain ⟨g, cap', hgv, k0⟩ := row_item hI.held i (by rw [List.length_map]; exact hil)
                  cases hgv
                  simp only [List.getElem_map] at k0
                  have hsn : ((h1.take (i + 1)).filter fun q => decide (cut + t < q.1)).map (·.2) = if cut + t < h1[i].1 then o ++ [h1[i].2] else o := by
                    rw [Ho.out, List.take_add_one, List.getElem?_eq_getElem hil, Option.toList_some, List.filter_append, List.map_append]
                    by_cases hc : cut + t < h1[i].1 <;> simp [hc]
                  have hsq := (hI.seqs _ (List.getElem_mem hil)).1
                  obtain ⟨ky, hky⟩ : ∃ ky, ky = h1[i].1 := ⟨_, rfl⟩
                  obtain ⟨it, hit⟩ : ∃ it, it = h1[i].2 := ⟨_, rfl⟩
                  rw [← hit] at k0 hsn hsq
                  rw [← hky] at hsn hsq
                  have a0 := k0 0 _ rfl
                  have a1 := k0 1 _ rfl
                  have a2 := k0 2 _ rfl
                  have a3 := k0 3 _ rfl
                  have a4 := k0 4 _ rfl
                  rw [Nat.add_zero, hsq] at a0
                  obtain ⟨seqi, marki, keyi, valuei, gonei⟩ := it
                  simp only at a0 a1 a2 a3 a4 hsq
                  subst hsq
                  have Hsn := hid hsn
                  clear hI k0 hit hky hsn
                  obtain ⟨hl, hhl⟩ : ∃ hl, hl = h1.length := ⟨_, rfl⟩
                  rw [← hhl] at i2 h4 hil hih hol hl9 ⊢
                  have Hhl := hid hhl
                  clear hhl
                  by_cases hgt : cut + t < seqi
                  · have t3 : (cut : Int) + (t : Int) < (seqi : Int) := by omega
                    go_wp2_with (at_builtin; refine stopAt ?_; intro q hq)
                    (refine hq.out ?_; clear hq q)
                    have hn7 := heap_alloc_new wr (.cells #[.int .u64 (seqi : Int), .bool marki, .string (str keyi), .string (str valuei), .bool gonei] 33)
                    have hk7 : Keep (fun _ => False) wr (wr.alloc (.cells #[.int .u64 (seqi : Int), .bool marki, .string (str keyi), .string (str valuei), .bool gonei] 33)) := (Keep.refl _ _).alloc _
                    obtain ⟨w7, hw7⟩ : ∃ w7, w7 = wr.alloc (.cells #[.int .u64 (seqi : Int), .bool marki, .string (str keyi), .string (str valuei), .bool gonei] 33) := ⟨_, rfl⟩
                    rw [← hw7] at hn7 hk7 ⊢
                    clear hw7 i0 i1 i2 if0 ib0 a0 a1 a2 a3 a4
                    refine wpList_plain rfl (fun K hK => ?_)
                    refine wp_append ty_items (.tmp 140) (.tmp 148) rfl rfl (HQ.out.2.1.keep hk7 (fun _ _ x => x)) (some ⟨wr.heap.size, 0, none⟩) 1 1 (itV ⟨seqi, marki, keyi, valuei, gonei⟩) rfl
                      ⟨rfl, fun _ => ⟨_, rfl, fun t u hu => by rw [addr_add, Nat.zero_add, cell_of_row _ _ _ _ _ _ hn7]; simpa [itV] using hu⟩⟩ (itV_oneCell _) (by unfold maxLen; omega) (by omega) ?_
                    intro v8 w8 hr8 hk8 hv8
                    refine hK _ _ ?_
                    clear hK K
                    have hsz := HQ.out.1.size
                    have hsz2 := hk7.size
                    have hown := HQ.out.2.2
                    have HF := hid (And.intro ((HQ.out.1.next hk7 (fun _ _ x => x) (fun _ _ x => x)).next hk8 (fun _ _ x => x) (fun j hj x => absurd (hown j x) (by omega))) (And.intro (by
                        rw [← itsV_one, ← itsV_append, show o.length + 1 = (o ++ [(⟨seqi, marki, ⟨keyi, valuei, gonei⟩⟩ : It)]).length by simp] at hr8
                        exact hr8) (show ∀ b, v8.ownBlock = some b → wo.heap.size ≤ b from fun b e => by
                          rcases hv8 with ⟨_, h0⟩ | ⟨b', h1, h2⟩
                          · omega
                          · rw [e] at h1
                            cases h1
                            rcases h2 with h2 | h2
                            · exact hown _ h2
                            · omega)))
                    clear hr8 hk8 hv8 hn7 hk7 hsz hsz2 hown
                    go_wp2_with (at_builtin; refine stopAt ?_; intro q hq)
                    refine ⟨⟨i + 1, by go_num, by omega, ?_⟩, by simp [intOf]; omega⟩
                    rw [Hsn.out, if_pos hgt]
                    exact HF
                  · have t3 : decide ((cut : Int) + (t : Int) < (seqi : Int)) = false := by simp; omega
                    go_wp2_with (at_builtin; refine stopAt ?_; intro q hq)
                    refine ⟨⟨i + 1, by go_num, by omega, ?_⟩, by simp [intOf]; omega⟩
                    rw [Hsn.out, if_neg hgt]
                    exact HQ
                · have h4 : decide ((i : Int) < h1.length) = false := by simp; omega
                  have HI := hid hI
                  clear hI
                  have Hil := hid hil
                  clear hil
                  obtain ⟨hl, hhl⟩ : ∃ hl, hl = h1.length := ⟨_, rfl⟩
                  rw [← hhl] at i2 h4 hih hol hl9 HI Hil
                  have Hhl := hid hhl
                  clear hhl
                  go_wp2_with (at_builtin; refine stopAt ?_; intro q hq)
                  go_ret
                  clear i0 i1 i2 if0 ib0
                  obtain ⟨dv1, hv1, hO⟩ := HA1.out
                  have hown := HQ.out.2.2
                  have htk : h1.take i = h1 := List.take_of_length_le (by have := Hil.out; have := Hhl.out; omega)
                  obtain ⟨h5, hh5⟩ : ∃ h5, h5 = h1.filter fun q => decide (cut + t < q.1) := ⟨_, rfl⟩
                  have ho := Ho.out
                  rw [htk, ← hh5] at ho
                  have hmem : ∀ q ∈ h5, q ∈ h1 ∧ cut + t < q.1 := fun q hq => by
                    rw [hh5] at hq
                    have := List.mem_filter.1 hq
                    simpa using this
                  have hset := hO.setHeld (h5 := h5) (HQ.out.1.mono (fun _ _ x => x.elim)) (by
                    have hr := HQ.out.2.1
                    rw [ho, List.length_map] at hr
                    exact hr) (fun i e => .inr (hown i (by rw [ho, List.length_map]; exact e))) (by rw [hh5]; exact List.Pairwise.filter _ HP.out.1) (fun q hq => HP.out.2.1 q (hmem q hq).1)
                  simp only at hset
                  have hset2 := (RSnkTo.next Hk1.out.1 Hk1.out.2 hset).setCut (cut + t) (fun q hq => (hmem q hq).2)
                  simp only at hset2
                  have hadv : adv ⟨cut, done, h1⟩ t = ⟨cut + t, dn, h5⟩ := by
                    have e1 := adv_cut t ⟨cut, done, h1⟩
                    have e2 := adv_held t ⟨cut, done, h1⟩ (fun q hq => (HP.out.2.1 q hq).2.1)
                    simp only at e1 e2
                    rw [← hh5] at e2
                    rw [Hdn.out]
                    cases hx : adv ⟨cut, done, h1⟩ t
                    rw [hx] at e1 e2
                    simp only at e1 e2
                    rw [e1, e2]
                  rw [HR3.out, hadv]
                  rw [ho, List.length_map]
                  exact ⟨rfl, hset2⟩
    · simp only at hj hjs hjg
      rw [hjg] at HR
      simp only at HR
      obtain ⟨g, cap', rfl, k0⟩ := row_item HI4.out.held j (by rw [List.length_map]; exact hj)
      simp only [List.getElem_map] at k0
      have hcmp := fun w => item_eql held[j].2 ⟨seq, mark, key, value, gone⟩ w
      obtain ⟨o, ho⟩ : ∃ o, o = held[j].2 := ⟨_, rfl⟩
      rw [← ho] at k0 hcmp HR
      obtain ⟨cb, hcb⟩ : ∃ cb, cb = decide (o = ⟨seq, mark, key, value, gone⟩) := ⟨_, rfl⟩
      rw [← hcb] at hcmp
      have HC := hid hcb
      clear ho hcb hjs hjg
      obtain ⟨seq', mark', key', value', gone'⟩ := o
      have a0 := k0 0 _ rfl
      have a1 := k0 1 _ rfl
      have a2 := k0 2 _ rfl
      have a3 := k0 3 _ rfl
      have a4 := k0 4 _ rfl
      rw [Nat.add_zero] at a0
      simp only [itVal] at a0 a1 a2 a3 a4 hcmp
      obtain ⟨n, hn⟩ : ∃ n, n = held.length := ⟨_, rfl⟩
      rw [← hn] at hj i2
      have hjn : (j : Int) < n := by omega
      clear k0 hn
      go_wp2_with (at_builtin; refine stopAt ?_; intro q hq)
      go_quiet (fail)
      cases cb with
      | true =>
        go_wp2_with (at_builtin; refine stopAt ?_; intro q hq)
        go_ret
        have hR := HR.out
        rw [if_pos (of_decide_eq_true HC.out.symm)] at hR
        rw [hR]
        exact ⟨rfl, H0.out.toLater (hk04.out.drewN _)⟩
      | false =>
        go_wp2_with (at_builtin; refine stopAt ?_; intro q hq)
        go_ret
        have hR := HR.out
        rw [if_neg (of_decide_eq_false HC.out.symm)] at hR
        rw [hR]
        exact ⟨rfl, H0.out.toLater (hk04.out.drewN _)⟩
end Go.Proofs.Ytiilondhppipnaa
/- The document's source: Add. Conditions: as each contract names them. -/
namespace Go.Proofs.Ytiilondhppipnaa
open Go.RowKit
open MI

/-- A source and all its items. -/
structure MI.Whole (s : Src) (A : List It) : Prop where
  len : A.length = s.last
  l : s.l = A.drop s.gone
  seq : ∀ i (h : i < A.length), A[i].seq = i + 1

theorem MI.Whole.new : Whole Src.new [] := ⟨rfl, rfl, fun _ h => by simp at h⟩
theorem MI.Whole.gone_le {s : Src} {A : List It} (h : Whole s A) : s.gone ≤ A.length := by rw [h.len]; unfold Src.last; omega
theorem MI.Whole.add {s : Src} {A : List It} (h : Whole s A) (c : Ch) (m : Bool) : Whole ⟨s.gone, s.l ++ [⟨s.last + 1, m, c⟩]⟩ (A ++ [⟨s.last + 1, m, c⟩]) := by
  refine ⟨?_, ?_, fun i hi => ?_⟩
  · rw [List.length_append, h.len]; unfold Src.last; simp only [List.length_append]; simp; omega
  · simp only
    rw [List.drop_append_of_le_length h.gone_le, h.l]
  · rw [List.getElem_append]
    split
    · exact h.seq i _
    · rename_i hn
      simp only [List.length_append, List.length_singleton] at hi
      have hl := h.len
      simp only [List.getElem_singleton]
      omega
theorem MI.Whole.trim {s : Src} {A : List It} (h : Whole s A) (n : Nat) (hn : n ≤ s.l.length) : Whole ⟨s.gone + n, s.l.drop n⟩ A := by
  refine ⟨?_, ?_, h.seq⟩
  · rw [h.len]; unfold Src.last; simp only [List.length_drop]; omega
  · simp only
    rw [h.l, List.drop_drop]

/-- The document's source in memory. -/
structure RSrcIs (w : World) (b : Nat) (F : Nat → Prop) (s : Src) (A : List It) (v : Value) : Prop where
  head : w.heap[b]? = some (.cells #[v, .int .i64 (s.gone : Int)] 58 (0, 0))
  row : Row w 33 5 v A.length (itsV A)
  self : F b
  foot : ∀ k, v.ownBlock = some k → F k ∧ k ≠ b
  lt : ∀ k, F k → k < w.heap.size
  whole : Whole s A
def RSrcAt (w : World) (b : Nat) (F : Nat → Prop) (s : Src) (A : List It) : Prop := ∃ v, RSrcIs w b F s A v
def RSrcTo (b : Nat) (F : Nat → Prop) (w : World) (s' : Src) (A' : List It) (w' : World) : Prop := ∃ F', RSrcAt w' b F' s' A' ∧ Keep F w w' ∧ ∀ k, F' k → F k ∨ w.heap.size ≤ k

theorem RSrcIs.keep {w w' : World} {b : Nat} {F K : Nat → Prop} {s : Src} {A : List It} {v : Value} (H : RSrcIs w b F s A v) (hk : Keep K w w') (hn : ∀ k, F k → ¬ K k) : RSrcIs w' b F s A v :=
  ⟨hk.get H.head (hn _ H.self), H.row.keep hk (fun k e => hn k (H.foot k e).1), H.self, H.foot, fun k x => Nat.lt_of_lt_of_le (H.lt k x) hk.size, H.whole⟩
theorem RSrcAt.keep {w w' : World} {b : Nat} {F K : Nat → Prop} {s : Src} {A : List It} (H : RSrcAt w b F s A) (hk : Keep K w w') (hn : ∀ k, F k → ¬ K k) : RSrcAt w' b F s A := let ⟨v, h⟩ := H; ⟨v, h.keep hk hn⟩
theorem RSrcAt.later {w w' : World} {b : Nat} {F : Nat → Prop} {s : Src} {A : List It} (H : RSrcAt w b F s A) (hk : Keep (fun _ => False) w w') : RSrcAt w' b F s A := H.keep hk (fun _ _ x => x)
theorem RSrcAt.to {w : World} {b : Nat} {F : Nat → Prop} {s : Src} {A : List It} (H : RSrcAt w b F s A) : RSrcTo b F w s A w := ⟨F, H, Keep.refl _ _, fun _ x => .inl x⟩
theorem RSrcTo.since {b : Nat} {F : Nat → Prop} {w w1 w' : World} {s' : Src} {A' : List It} (h : RSrcTo b F w1 s' A' w') (hk : Keep (fun _ => False) w w1) : RSrcTo b F w s' A' w' := by
  obtain ⟨F', h1, h2, h3⟩ := h
  exact ⟨F', h1, hk.next h2 (fun _ _ x => x.elim) (fun _ _ x => x), fun k x => (h3 k x).imp id fun y => Nat.le_trans hk.size y⟩
theorem RSrcAt.toLater {w w' : World} {b : Nat} {F : Nat → Prop} {s : Src} {A : List It} (H : RSrcAt w b F s A) (hk : Keep (fun _ => False) w w') : RSrcTo b F w s A w' := (H.later hk).to.since hk

theorem wrapI64 (n : Int) (h : -9223372036854775808 ≤ n ∧ n ≤ 9223372036854775807) : IntKind.i64.wrap n = n := by simp [IntKind.wrap, IntKind.signed, IntKind.bits]; omega
/-- What Add comes to. -/
def MI.radd (s : Src) (A : List It) (c : Ch) (m : Bool) : Src × List It × Nat × Nat :=
  if rightI ⟨A.length + 1, m, c⟩ = false then (s, A, 0, 2) else if 4096 ≤ s.l.length then (s, A, 0, 5) else (⟨s.gone, s.l ++ [⟨s.last + 1, m, c⟩]⟩, A ++ [⟨s.last + 1, m, c⟩], s.last + 1, 0)

set_option maxRecDepth 20000 in
set_option maxHeartbeats 2000000 in
theorem radd_any (w : World) (b : Nat) (F : Nat → Prop) (s : Src) (A : List It) (c : Ch) (m : Bool) (hs : RSrcAt w b F s A) (h63 : A.length ≤ 1000000) :
    Calls Try.prog 26 #[.pointer (some ⟨b, 0, none⟩), .agg #[.string (str c.key), .string (str c.value), .bool c.gone], .bool m] w fun e w' =>
      e = .returned (.tuple #[.int .u64 ((radd s A c m).2.2.1 : Int), .int .i64 ((radd s A c m).2.2.2 : Int)]) ∧ RSrcTo b F w (radd s A c m).1 (radd s A c m).2.1 w' := by
  obtain ⟨key, value, gone⟩ := c
  obtain ⟨v, H⟩ := hs
  obtain ⟨ao, cap, rfl, hcap, hmax, -⟩ := H.row.form
  have hlen := H.whole.len
  have hle := H.whole.gone_le
  have hsl : s.l.length = A.length - s.gone := by rw [H.whole.l, List.length_drop]
  have H0 := hid H
  obtain ⟨R, hR⟩ : ∃ R, R = radd s A ⟨key, value, gone⟩ m := ⟨_, rfl⟩
  rw [← hR]
  unfold radd at hR
  have hn1 := heap_alloc_new w (.cells #[.string (str key), .string (str value), .bool gone] 31)
  have hk1 : Keep (fun _ => False) w (w.alloc (.cells #[.string (str key), .string (str value), .bool gone] 31)) := (Keep.refl _ _).alloc _
  obtain ⟨j0, j1, j2, jf, jb⟩ := cells3i hn1
  obtain ⟨i0, i1, if0, ib0⟩ := cells2i (hk1.get H.head id)
  obtain ⟨n, hn⟩ : ∃ n, n = A.length := ⟨_, rfl⟩
  obtain ⟨g, hg⟩ : ∃ g, g = s.gone := ⟨_, rfl⟩
  rw [← hn] at i0 hR h63 hcap hlen hle hsl
  rw [← hg] at i1 hle hsl
  obtain ⟨sl, hsl2⟩ : ∃ sl, sl = s.l.length := ⟨_, rfl⟩
  rw [← hsl2] at hR hsl
  rw [← hlen] at hR
  obtain ⟨rt, hrt⟩ : ∃ rt, rt = rightI ⟨n + 1, m, ⟨key, value, gone⟩⟩ := ⟨_, rfl⟩
  rw [← hrt] at hR
  have HR := hid hR
  have HA := hid (And.intro hn (And.intro hg (And.intro hsl2 (And.intro hlen hrt))))
  have H1 := hid (And.intro hn1 hk1)
  clear H hn1 hk1 hR hn hg hsl2 hrt hlen
  go_enter Try.func26, Try.ntmps26
  go_wp2_with (at_builtin; refine stopAt ?_; intro q hq)
  obtain ⟨w1, hw1⟩ : ∃ w1, w1 = w.alloc (.cells #[.string (str key), .string (str value), .bool gone] 31) := ⟨_, rfl⟩
  rw [← hw1] at H1 i0 i1 if0 ib0 j0 j1 j2 jf jb ⊢
  clear hw1
  obtain ⟨N, hN⟩ : ∃ N, N = n + 1 := ⟨_, rfl⟩
  have q1 : IntKind.i64.wrap ((n : Int) + 1) = (N : Int) := by rw [show ((n : Int) + 1) = (N : Int) by omega]; exact wrapI64 _ (by omega)
  have q2 : IntKind.u64.wrap (N : Int) = (N : Int) := wrapU64 _ (by omega)
  have q3 : IntKind.i64.wrap ((n : Int) - (g : Int)) = (sl : Int) := by rw [show ((n : Int) - (g : Int)) = (sl : Int) by omega]; exact wrapI64 _ (by omega)
  have HN := hid (And.intro hN hsl)
  clear hN hsl
  refine wp_region_canon [] (by kernel_rfl) (by kernel_rfl) ?_
  repeat (first | (apply wpC_pure (by rfl); (intro K w'; go_simp; exact id)) | (apply wpC_load (by rfl); (intro K; go_simp; exact id)))
  (refine wpC_new (by rfl) (by rfl) (fun K hK => ?_); go_simp; refine hK _ _ (Pre.push _ rfl) ?_; clear hK K)
  have hn4' : (w1.alloc (.cells itZero.cells 33)).drew.heap[w1.heap.size]? = some (.cells itZero.cells 33 (0, 0)) := heap_alloc_new w1 (.cells itZero.cells 33)
  have hk4 : Keep (fun _ => False) w1 (w1.alloc (.cells itZero.cells 33)).drew := ((Keep.refl _ _).alloc _).drew
  obtain ⟨w4, hw4⟩ : ∃ w4, w4 = (w1.alloc (.cells itZero.cells 33)).drew := ⟨_, rfl⟩
  simp only [itZero, Value.cells] at hw4
  rw [← hw4]
  simp only [itZero, Value.cells] at hk4 hn4'
  rw [← hw4] at hk4 hn4'
  clear hw4
  refine wpC_act (by rfl) (by rfl) (fun K hK => ?_)
  refine wp_store_row 33 (.tmp 8) (.tmp 19) rfl w1.heap.size rfl (itV ⟨N, m, key, value, gone⟩) rfl 33 _ (0, 0) hn4' (Free.zero _) rfl (itV_oneCell _) (by kernel_rfl) ?_
  refine hK _ _ ?_
  clear hK K
  refine wpC_nil ?_
  have hn5 := setRow_heap w4 w1.heap.size _ (itV ⟨N, m, key, value, gone⟩).toArray _ _ hn4'
  have hk5 : Keep (fun _ => False) w1 (w4.setRow w1.heap.size (itV ⟨N, m, key, value, gone⟩).toArray) := Keep.setRow hk4 (.inr (Nat.le_refl _)) _
  obtain ⟨gi, hgi⟩ : ∃ gi, gi = w1.heap.size := ⟨_, rfl⟩
  obtain ⟨w5, hw5⟩ : ∃ w5, w5 = w4.setRow w1.heap.size (itV ⟨N, m, key, value, gone⟩).toArray := ⟨_, rfl⟩
  rw [← hw5] at hn5 hk5 ⊢
  rw [← hgi] at hn5 ⊢
  have hgi2 : w.heap.size ≤ gi := by have := H1.out.2.size; omega
  have Hgi := hid hgi2
  clear hgi2
  have hk05 := hid (H1.out.2.next hk5 (fun _ _ x => x) (fun _ _ x => x))
  have HN5 := hid hn5
  clear hw5 hn4' hk4 i0 i1 if0 ib0 j0 j1 j2 jf jb hk5 hgi
  obtain ⟨j0, j1, j2, j3, j4, jf, jb⟩ := cells5i hn5
  clear hn5
  go_wp2_with (at_builtin; refine stopAt ?_; intro q hq)
  have hright := rrightI_any w5 ⟨N, m, key, value, gone⟩
  rw [HN.out.1, ← HA.out.2.2.2.2] at hright
  have hright := hid hright
  rw [← HN.out.1] at hright
  refine hright.out.mono ?_
  rintro e w6 ⟨rfl, hk6⟩
  have hk06 := hid (hk05.out.next hk6 (fun _ _ x => x) (fun _ _ x => x))
  have HN6 := hid (hk6.get HN5.out id)
  clear j0 j1 j2 j3 j4 jf jb hk6 HN5 hk05 hright
  cases rt with
  | false =>
    have hR := HR.out
    rw [if_pos rfl] at hR
    clear HR
    have HR := hid hR
    clear hR
    go_wp2_with (at_builtin; refine stopAt ?_; intro q hq)
    go_ret2
    rw [HR.out]
    exact ⟨rfl, RSrcAt.toLater ⟨_, H0.out⟩ hk06.out⟩
  | true =>
    have hR := HR.out
    rw [if_neg (by simp)] at hR
    clear HR
    have HR := hid hR
    clear hR
    have hh6 := hk06.out.get H0.out.head id
    rw [← HA.out.1, ← HA.out.2.1] at hh6
    obtain ⟨i0, i1, if0, ib0⟩ := cells2i hh6
    clear hh6
    go_wp2_with (at_builtin; refine stopAt ?_; intro q hq)
    go_quiet (fail)
    obtain ⟨w7, hw7⟩ : ∃ w7, w7 = w6.drewN nq := ⟨_, rfl⟩
    have hk67 : Keep (fun _ => False) w6 w7 := by rw [hw7]; exact (Keep.refl _ _).drewN _
    rw [← hw7]
    clear hw7 i0 i1 if0 ib0
    have hk07 := hid (hk06.out.next hk67 (fun _ _ x => x) (fun _ _ x => x))
    have HN7 := hid (hk67.get HN6.out id)
    clear HN6 hk06 hk67
    by_cases hfull : 4096 ≤ sl
    · have t1 : decide ((4096 : Int) ≤ (sl : Int)) = true := by simp; omega
      go_wp2_with (at_builtin; refine stopAt ?_; intro q hq)
      go_ret2
      have hR := HR.out
      rw [if_pos hfull] at hR
      rw [hR]
      exact ⟨rfl, RSrcAt.toLater ⟨_, H0.out⟩ hk07.out⟩
    · have t1 : decide ((4096 : Int) ≤ (sl : Int)) = false := by simp; omega
      have hR := HR.out
      rw [if_neg hfull] at hR
      clear HR
      have HR := hid hR
      clear hR
      have H7 := hid (H0.out.keep hk07.out (fun _ _ x => x))
      obtain ⟨i0, i1, if0, ib0⟩ := cells2i H7.out.head
      obtain ⟨j0, j1, j2, j3, j4, jf, jb⟩ := cells5i HN7.out
      rw [← HA.out.1] at i0
      go_wp2_with (at_builtin; refine stopAt ?_; intro q hq)
      refine wp_region_canon [] (by kernel_rfl) (by kernel_rfl) ?_
      repeat (first | (apply wpC_pure (by rfl); (intro K w'; go_simp; exact id)) | (apply wpC_load (by rfl); (intro K; go_simp; exact id)))
      (refine wpC_new (by rfl) (by rfl) (fun K hK => ?_); go_simp; refine hK _ _ (Pre.push _ rfl) ?_; clear hK K)
      have hk8 : Keep (fun _ => False) w7 (w7.alloc (.cells #[.int .u64 (N : Int), .bool m, .string (str key), .string (str value), .bool gone] 33)).drew := ((Keep.refl _ _).alloc _).drew
      have hn8 : (w7.alloc (.cells #[.int .u64 (N : Int), .bool m, .string (str key), .string (str value), .bool gone] 33)).drew.heap[w7.heap.size]? = some (.cells #[.int .u64 (N : Int), .bool m, .string (str key), .string (str value), .bool gone] 33) := heap_alloc_new w7 _
      obtain ⟨w8, hw8⟩ : ∃ w8, w8 = (w7.alloc (.cells #[.int .u64 (N : Int), .bool m, .string (str key), .string (str value), .bool gone] 33)).drew := ⟨_, rfl⟩
      rw [← hw8] at hk8 hn8 ⊢
      clear hw8
      have hrow8 := H7.out.row.keep hk8 (fun _ _ x => x)
      rw [← HA.out.1] at hrow8
      refine wpC_act (by rfl) (by rfl) (fun K hK => ?_)
      refine wp_append ty_items (.tmp 41) (.tmp 43) rfl rfl hrow8 (some ⟨w7.heap.size, 0, none⟩) 1 1 (itV ⟨N, m, key, value, gone⟩) rfl
        ⟨rfl, fun _ => ⟨_, rfl, fun t u hu => by rw [addr_add, Nat.zero_add, cell_of_row _ _ _ _ _ _ hn8]; simpa [itV] using hu⟩⟩ (itV_oneCell _) (by unfold maxLen; omega) (by omega) ?_
      intro v9 w9 hr9 hk9 hv9
      refine hK _ _ ?_
      clear hK K
      have hfoot : ∀ k, (Value.slice ao n cap).ownBlock = some k → F k ∧ k ≠ b := fun k e => H0.out.foot k (by rw [ownBlock_len ao A.length n cap]; exact e)
      have hb9 := hk9.get (hk8.get H7.out.head id) (fun e => (hfoot b e).2 rfl)
      have hlt := H0.out.lt
      have hgi : w.heap.size ≤ gi := Hgi.out
      have hi9 := hk9.get (hk8.get HN7.out id) (fun e => by have := hlt _ (hfoot _ e).1; omega)
      clear i0 i1 if0 ib0 j0 j1 j2 j3 j4 jf jb
      obtain ⟨i0, i1, if0, ib0⟩ := cells2i hb9
      obtain ⟨ad9, cap9, rfl, -⟩ := hr9.form
      have H9 := hid (And.intro hr9 (And.intro hv9 (And.intro hb9 (And.intro hi9 (And.intro hk8 hk9)))))
      clear hr9 hv9 hb9 hi9 hk8 hk9 hn8 hrow8
      repeat (first | (apply wpC_pure (by rfl); (intro K w'; go_simp; exact id)) | (apply wpC_load (by rfl); (intro K; go_simp; exact id)))
      (refine wpC_act (by rfl) (by rfl) (fun K hK => ?_); go_simp; refine hK _ _ ?_; clear hK K)
      refine wpC_nil ?_
      obtain ⟨hr5, hv5, hb5, hi5, hk4, hk5⟩ := H9.out
      have hk6 : Keep (fun k => k = b) w9 (w9.setCell ⟨b, 0, none⟩ (.slice ad9 (n + 1) cap9)) := by refine Keep.setCell (Keep.refl _ _) (.inl ?_) _; rfl
      have hb6 : (w9.setCell ⟨b, 0, none⟩ (.slice ad9 (n + 1) cap9)).heap[b]? = some (.cells #[.slice ad9 (n + 1) cap9, .int .i64 (s.gone : Int)] 58 (0, 0)) := by
        simp [World.setCell, Array.getElem?_modify, hb5]
      obtain ⟨w10, hw10⟩ : ∃ w10, w10 = w9.setCell ⟨b, 0, none⟩ (.slice ad9 (n + 1) cap9) := ⟨_, rfl⟩
      rw [← hw10] at hk6 hb6 ⊢
      clear hw10
      have hs3 := hk07.out.size
      have hs4 := hk4.size
      have hs5 := hk5.size
      have hbs := hlt b H0.out.self
      have hi6 := hk6.get hi5 (by omega)
      obtain ⟨j0, j1, j2, j3, j4, jf, jb⟩ := cells5i hi6
      have hown5 : ∀ k, (Value.slice ad9 (n + 1) cap9).ownBlock = some k → (F k ∨ w.heap.size ≤ k) ∧ k ≠ b := fun k e => by
        rcases hv5 with ⟨_, h0⟩ | ⟨k', h1, h2⟩
        · omega
        · rw [e] at h1
          cases h1
          rcases h2 with h2 | h2
          · exact ⟨.inl (hfoot _ h2).1, (hfoot _ h2).2⟩
          · exact ⟨.inr (by omega), by omega⟩
      have hr6 : Row w10 33 5 (.slice ad9 (n + 1) cap9) (n + 1) (itsV (A ++ [⟨N, m, ⟨key, value, gone⟩⟩])) := by
        rw [itsV_append, itsV_one]
        exact hr5.keep hk6 (fun k e x => (hown5 k e).2 x)
      have hkAll : Keep F w w10 := ((hk07.out.next hk4 (fun _ _ x => x.elim) (fun _ _ x => x.elim)).next hk5 (fun _ _ x => x) (fun k _ e => (hfoot k e).1)).next hk6 (fun _ _ x => x) (fun k _ e => by rw [e]; exact H0.out.self)
      have hNl : N = s.last + 1 := by rw [HN.out.1, HA.out.2.2.2.1]
      have hwh := H0.out.whole.add ⟨key, value, gone⟩ m
      rw [← hNl] at hwh
      have HS := hid (show RSrcTo b F w ⟨s.gone, s.l ++ [⟨N, m, ⟨key, value, gone⟩⟩]⟩ (A ++ [⟨N, m, ⟨key, value, gone⟩⟩]) w10 from ⟨fun k => F k ∨ (w.heap.size ≤ k ∧ k < w10.heap.size), ⟨_, hb6, by rw [List.length_append, List.length_singleton, ← HA.out.1]; exact hr6, .inl H0.out.self,
        fun k e => ⟨(hown5 k e).1.imp id fun y => ⟨y, hr6.lt e⟩, (hown5 k e).2⟩, fun k x => x.elim (fun y => Nat.lt_of_lt_of_le (hlt k y) hkAll.size) (fun y => y.2), hwh⟩, hkAll, fun k x => x.imp id fun y => y.1⟩)
      clear hr5 hv5 hb5 hi5 hk4 hk5 hk6 hb6 hi6 hs3 hs4 hs5 hown5 hr6 hkAll hfoot H9 i0 i1 if0 ib0 hwh hNl
      go_wp2_with (at_builtin; refine stopAt ?_; intro q hq)
      go_ret2
      rw [HR.out, ← HN.out.1]
      exact ⟨rfl, HS.out⟩
end Go.Proofs.Ytiilondhppipnaa
/- The document's source: From, Trim. Conditions: as each contract names them. -/
namespace Go.Proofs.Ytiilondhppipnaa
open Go.RowKit
open MI

/-- What From gathers of the items behind a place. -/
def MI.pick (l : List It) (seq : Nat) : List It := l.filter fun i => decide (seq ≤ i.seq)
theorem MI.pick_drop : ∀ (l : List It) (g seq : Nat), (∀ i (h : i < l.length), l[i].seq = g + i + 1) → pick l seq = l.drop (max seq (g + 1) - g - 1)
  | [], _, _, _ => by simp [pick]
  | x :: l, g, seq, h => by
    have hx := h 0 (by simp)
    simp only [List.getElem_cons_zero] at hx
    have ih := pick_drop l (g + 1) seq (fun i hi => by have := h (i + 1) (by simpa using hi); simp only [List.getElem_cons_succ] at this; omega)
    unfold pick at ih ⊢
    rw [List.filter_cons]
    by_cases hs : seq ≤ x.seq
    · rw [if_pos (by simpa using hs), ih]
      rw [show max seq (g + 1) - g - 1 = 0 by omega, show max seq (g + 1 + 1) - (g + 1) - 1 = 0 by omega]
      rfl
    · rw [if_neg (by simpa using hs), ih]
      rw [show max seq (g + 1) - g - 1 = (max seq (g + 1 + 1) - (g + 1) - 1) + 1 by omega]
      rfl
theorem MI.from_pick {s : Src} {A : List It} (h : Whole s A) (seq : Nat) (most : Int) : s.from_ seq most = (pick (A.drop s.gone) seq).take most.toNat := by
  have e := pick_drop (A.drop s.gone) s.gone seq (fun i hi => by
    rw [List.getElem_drop, h.seq])
  rw [e, ← h.l]
  unfold Src.from_
  split
  · rename_i hc
    rcases hc with hc | hc
    · rw [show most.toNat = 0 by omega]; simp
    · rw [List.drop_of_length_le (by have := h.len; have := h.l; unfold Src.last at hc; omega)]; simp
  · rfl

structure RFromRel (w : World) (o : List It) (v : Value) (wr : World) : Prop where
  keep : Keep (fun _ => False) w wr
  row : Row wr 33 5 v o.length (itsV o)
  own : ∀ b, v.ownBlock = some b → w.heap.size ≤ b

set_option maxRecDepth 20000 in
set_option maxHeartbeats 2000000 in
theorem rfrom_any (w : World) (b : Nat) (F : Nat → Prop) (s : Src) (A : List It) (seq : Nat) (most : Int) (hs : RSrcAt w b F s A) (h63 : A.length ≤ 1000000) (_hseq : seq < 18446744073709551616) (hm : -9223372036854775808 ≤ most ∧ most ≤ 9223372036854775807) :
    Calls Try.prog 30 #[.pointer (some ⟨b, 0, none⟩), .int .u64 (seq : Int), .int .i64 most] w fun e w' =>
      ∃ v, e = .returned v ∧ Row w' 33 5 v (s.from_ seq most).length (itsV (s.from_ seq most)) ∧ Keep (fun _ => False) w w' ∧ (∀ k, v.ownBlock = some k → w.heap.size ≤ k) := by
  obtain ⟨v, H⟩ := hs
  obtain ⟨ao, cap, rfl, hcap, hmax, -⟩ := H.row.form
  have hle := H.whole.gone_le
  have hfp := from_pick H.whole seq most
  have H0 := hid H
  obtain ⟨i0, i1, if0, ib0⟩ := cells2i H.head
  obtain ⟨n, hn⟩ : ∃ n, n = A.length := ⟨_, rfl⟩
  obtain ⟨g, hg⟩ : ∃ g, g = s.gone := ⟨_, rfl⟩
  rw [← hn] at i0 h63 hcap hle
  rw [← hg] at i1 hle hfp
  have HA := hid (And.intro hn (And.intro hg hfp))
  clear H hn hg hfp
  go_enter Try.func30, Try.ntmps30
  go_wp2_with (at_builtin; refine stopAt ?_; intro q hq)
  clear i0 i1 if0 ib0
  go_loopw [7, 8] (fun v iv wr => ∃ i : Nat, iv = .int .i64 (i : Int) ∧ g ≤ i ∧ i ≤ n ∧ Hid (RFromRel w (pick ((A.take i).drop g) seq) v wr ∧ ((pick ((A.take i).drop g) seq).length : Int) ≤ max most 0)) (fun _ iv _ => n - (intOf iv).toNat)
  case atStart => 
    have e : (A.take g).drop g = [] := List.drop_of_length_le (by rw [List.length_take]; omega)
    refine ⟨g, rfl, Nat.le_refl _, hle, hid ?_⟩
    rw [e]
    exact ⟨⟨Keep.refl _ _, Row.nil _ _ _, fun b e => by simp [Value.ownBlock] at e⟩, by simp [pick]; omega⟩
  case round =>
    obtain ⟨i, rfl, hgi, hin, HT⟩ := hrel
    obtain ⟨o, ho⟩ : ∃ o, o = pick ((A.take i).drop g) seq := ⟨_, rfl⟩
    rw [← ho] at HT
    have hol : o.length ≤ 1000000 := by
      rw [ho]
      unfold pick
      have := List.length_filter_le (fun i : It => decide (seq ≤ i.seq)) ((A.take i).drop g)
      rw [List.length_drop, List.length_take] at this
      omega
    have Ho := hid ho
    clear ho
    obtain ⟨bo, bcap, rfl, -⟩ := HT.out.1.row.form
    have hr3 := H0.out.keep HT.out.1.keep (fun _ _ x => x)
    obtain ⟨i0, i1, if0, ib0⟩ := cells2i hr3.head
    rw [← HA.out.1] at i0
    rw [← HA.out.2.1] at i1
    by_cases hil : i < n
    · have h4 : (i : Int) < n := by omega
      have hil' : i < A.length := by rw [← HA.out.1]; exact hil
      by_cases hom : (o.length : Int) < most
      · have hsn : pick ((A.take (i + 1)).drop g) seq = if seq ≤ A[i].seq then o ++ [A[i]] else o := by
          rw [Ho.out, List.take_add_one, List.getElem?_eq_getElem hil', Option.toList_some, List.drop_append_of_le_length (by rw [List.length_take]; omega)]
          unfold pick
          rw [List.filter_append]
          by_cases hc : seq ≤ A[i].seq <;> simp [hc]
        obtain ⟨ga, cap', hgv, k0⟩ := row_item hr3.row i hil'
        rw [← HA.out.1] at hgv
        cases hgv
        obtain ⟨it, hit⟩ : ∃ it, it = A[i] := ⟨_, rfl⟩
        rw [← hit] at k0 hsn
        have a0 := k0 0 _ rfl
        have a1 := k0 1 _ rfl
        have a2 := k0 2 _ rfl
        have a3 := k0 3 _ rfl
        have a4 := k0 4 _ rfl
        rw [Nat.add_zero] at a0
        obtain ⟨seqi, marki, keyi, valuei, gonei⟩ := it
        simp only at a0 a1 a2 a3 a4 hsn
        have Hsn := hid hsn
        clear hr3 k0 hit hsn
        by_cases hgt : seq ≤ seqi
        · have t3 : (seq : Int) ≤ (seqi : Int) := by omega
          go_wp2_with (at_builtin; refine stopAt ?_; intro q hq)
          (refine hq.out ?_; clear hq q)
          have hn7 := heap_alloc_new wr (.cells #[.int .u64 (seqi : Int), .bool marki, .string (str keyi), .string (str valuei), .bool gonei] 33)
          have hk7 : Keep (fun _ => False) wr (wr.alloc (.cells #[.int .u64 (seqi : Int), .bool marki, .string (str keyi), .string (str valuei), .bool gonei] 33)) := (Keep.refl _ _).alloc _
          obtain ⟨w7, hw7⟩ : ∃ w7, w7 = wr.alloc (.cells #[.int .u64 (seqi : Int), .bool marki, .string (str keyi), .string (str valuei), .bool gonei] 33) := ⟨_, rfl⟩
          rw [← hw7] at hn7 hk7 ⊢
          clear hw7 i0 i1 if0 ib0 a0 a1 a2 a3 a4
          refine wpList_plain rfl (fun K hK => ?_)
          refine wp_append ty_items (.tmp 38) (.tmp 46) rfl rfl (HT.out.1.row.keep hk7 (fun _ _ x => x)) (some ⟨wr.heap.size, 0, none⟩) 1 1 (itV ⟨seqi, marki, keyi, valuei, gonei⟩) rfl
            ⟨rfl, fun _ => ⟨_, rfl, fun t u hu => by rw [addr_add, Nat.zero_add, cell_of_row _ _ _ _ _ _ hn7]; simpa [itV] using hu⟩⟩ (itV_oneCell _) (by unfold maxLen; omega) (by omega) ?_
          intro v8 w8 hr8 hk8 hv8
          refine hK _ _ ?_
          clear hK K
          have hsz := HT.out.1.keep.size
          have hsz2 := hk7.size
          have hown := HT.out.1.own
          have HF := hid (And.intro (RFromRel.mk (w := w) (o := o ++ [⟨seqi, marki, ⟨keyi, valuei, gonei⟩⟩]) (v := v8) (wr := w8) ((HT.out.1.keep.next hk7 (fun _ _ x => x) (fun _ _ x => x)).next hk8 (fun _ _ x => x) (fun j hj x => absurd (hown j x) (by omega))) (by
              rw [List.length_append, List.length_singleton, itsV_append, itsV_one]
              exact hr8) (fun b e => by
                rcases hv8 with ⟨_, h0⟩ | ⟨b', h1, h2⟩
                · omega
                · rw [e] at h1
                  cases h1
                  rcases h2 with h2 | h2
                  · exact hown _ h2
                  · omega)) (show ((o ++ [(⟨seqi, marki, ⟨keyi, valuei, gonei⟩⟩ : It)]).length : Int) ≤ max most 0 by rw [List.length_append, List.length_singleton]; omega))
          clear hr8 hk8 hv8 hn7 hk7 hsz hsz2 hown
          go_wp2_with (at_builtin; refine stopAt ?_; intro q hq)
          refine ⟨⟨i + 1, by go_num, by omega, by omega, ?_⟩, by simp [intOf]; omega⟩
          rw [Hsn.out, if_pos hgt]
          exact HF
        · have t3 : decide ((seq : Int) ≤ (seqi : Int)) = false := by simp; omega
          go_wp2_with (at_builtin; refine stopAt ?_; intro q hq)
          refine ⟨⟨i + 1, by go_num, by omega, by omega, ?_⟩, by simp [intOf]; omega⟩
          rw [Hsn.out, if_neg hgt]
          exact HT
      · have h5 : decide ((o.length : Int) < most) = false := by simp; omega
        have hfin : s.from_ seq most = o := by
          have e1 : pick (A.drop g) seq = o ++ pick (A.drop i) seq := by
            rw [Ho.out]
            unfold pick
            rw [← List.filter_append]
            congr 1
            conv => lhs; rw [← List.take_append_drop i A]
            rw [List.drop_append_of_le_length (by rw [List.length_take]; omega)]
          have h2 := HT.out.2
          rw [HA.out.2.2, e1, List.take_left' (by omega)]
        have HF := hid (And.intro hfin HT.out.1)
        clear hr3 hfin
        go_wp2_with (at_builtin; refine stopAt ?_; intro q hq)
        go_ret
        rw [HF.out.1]
        exact ⟨_, rfl, HF.out.2.row, HF.out.2.keep, HF.out.2.own⟩
    · have h4 : decide ((i : Int) < n) = false := by simp; omega
      have hfin : s.from_ seq most = o := by
        have h2 := HT.out.2
        rw [HA.out.2.2, Ho.out, List.take_of_length_le (l := A) (by have := HA.out.1; omega)]
        rw [List.take_of_length_le]
        rw [Ho.out, List.take_of_length_le (l := A) (by have := HA.out.1; omega)] at h2
        omega
      have HF := hid (And.intro hfin HT.out.1)
      clear hr3 hfin
      go_wp2_with (at_builtin; refine stopAt ?_; intro q hq)
      go_ret
      rw [HF.out.1]
      exact ⟨_, rfl, HF.out.2.row, HF.out.2.keep, HF.out.2.own⟩

/-- j of them went. -/
def MI.trimmedS (s : Src) (j : Nat) : Src := ⟨s.gone + j, s.l.drop j⟩
theorem MI.trim_eq (s : Src) (upto : Nat) : s.trim upto = (trimmedS s (min upto s.last - s.gone), min upto s.last - s.gone) := by
  unfold Src.trim trimmedS
  split
  · rename_i h
    rw [show min upto s.last - s.gone = 0 by omega]
    simp
  · rename_i h
    have : s.gone ≤ s.last := by unfold Src.last; omega
    rw [show s.gone + (min upto s.last - s.gone) = min upto s.last by omega]

set_option maxRecDepth 20000 in
set_option maxHeartbeats 2000000 in
theorem rtrim_any (w : World) (b : Nat) (F : Nat → Prop) (s : Src) (A : List It) (upto : Nat) (hs : RSrcAt w b F s A) (h63 : A.length ≤ 1000000) (hu : upto < 18446744073709551616) :
    Calls Try.prog 32 #[.pointer (some ⟨b, 0, none⟩), .int .u64 (upto : Int)] w fun e w' =>
      e = .returned (.int .i64 ((s.trim upto).2 : Int)) ∧ RSrcTo b F w (s.trim upto).1 A w' := by
  obtain ⟨v, H⟩ := hs
  obtain ⟨ao, cap, rfl, hcap, hmax, -⟩ := H.row.form
  have hle := H.whole.gone_le
  have hlen := H.whole.len
  have hsl : s.l.length = A.length - s.gone := by rw [H.whole.l, List.length_drop]
  have H0 := hid H
  rw [trim_eq]
  obtain ⟨n, hn⟩ : ∃ n, n = A.length := ⟨_, rfl⟩
  obtain ⟨g, hg⟩ : ∃ g, g = s.gone := ⟨_, rfl⟩
  rw [← hn] at h63 hcap hle hlen hsl
  rw [← hg] at hle hsl ⊢
  rw [← hlen]
  obtain ⟨M, hM⟩ : ∃ M, M = min upto n - g := ⟨_, rfl⟩
  simp only
  rw [← hM]
  have hM9 : M ≤ 1000000 := by omega
  have HA := hid (And.intro hn (And.intro hg (And.intro hsl hM)))
  clear H hn hg hsl hlen hM
  go_enter Try.func32, Try.ntmps32
  go_wp2_with (at_builtin; refine stopAt ?_; intro q hq)
  go_loopw [5] (fun iv wr => ∃ j : Nat, iv = .int .i64 (j : Int) ∧ j ≤ M ∧ Hid (∃ v, RSrcIs wr b F (trimmedS s j) A v ∧ Keep F w wr)) (fun iv _ => M - (intOf iv).toNat)
  case atStart =>
    have h0 : trimmedS s 0 = s := by simp [trimmedS]
    exact ⟨0, rfl, Nat.zero_le _, hid ⟨_, by rw [h0]; exact H0.out, Keep.refl _ _⟩⟩
  case round =>
    obtain ⟨j, rfl, hjM, HT⟩ := hrel
    obtain ⟨v, hI, hk⟩ := HT.out
    have hgj : (trimmedS s j).gone = g + j := by unfold trimmedS; rw [HA.out.2.1]
    have hh := hI.head
    rw [hgj] at hh
    obtain ⟨bo, bcap, rfl, -⟩ := hI.row.form
    obtain ⟨i0, i1, if0, ib0⟩ := cells2i hh
    rw [← HA.out.1] at i0
    obtain ⟨e, he⟩ : ∃ e, e = g + j := ⟨_, rfl⟩
    rw [← he] at i1
    have He := hid he
    have hMn : M = min upto n - g := HA.out.2.2.2
    have Hh := hid (And.intro hh (And.intro hI hk))
    by_cases hin : g + j < n
    · have hil : g + j < A.length := by rw [← HA.out.1]; exact hin
      obtain ⟨ga, cap', hgv, k0⟩ := row_item hI.row (g + j) hil
      cases hgv
      have a0 := k0 0 _ rfl
      rw [Nat.add_zero] at a0
      have hsq := hI.whole.seq (g + j) hil
      simp only [hsq] at a0
      rw [← he] at hin a0
      clear hh hI hk k0 hsq hgj
      have h4 : (e : Int) < n := by omega
      rw [show ((e + 1 : Nat) : Int) = (e : Int) + 1 by omega] at a0
      by_cases heu : e + 1 ≤ upto
      · have h5 : (e : Int) + 1 ≤ (upto : Int) := by omega
        have hj1 : j + 1 ≤ M := by omega
        clear he hMn
        go_wp2_with (at_builtin; refine stopAt ?_; intro q hq)
        go_quiet (fail)
        obtain ⟨w7, hw7⟩ : ∃ w7, w7 = wr.drewN nq := ⟨_, rfl⟩
        have hk67 : Keep (fun _ => False) wr w7 := by rw [hw7]; exact (Keep.refl _ _).drewN _
        rw [← hw7]
        clear hw7 i0 i1 if0 ib0
        have H7 := hid (Hh.out.2.1.keep hk67 (fun _ _ x => x))
        have hb7 := hk67.get Hh.out.1 id
        rw [← He.out] at hb7
        obtain ⟨i0, i1, if0, ib0⟩ := cells2i hb7
        have Hb7 := hid (And.intro hb7 hk67)
        clear hb7 hk67
        rw [← HA.out.1] at i0
        go_wp2_with (at_builtin; refine stopAt ?_; intro q hq)
        have ee := He.out
        refine ⟨⟨j + 1, by go_num, by omega, hid ⟨.slice (some ⟨ga, 0, none⟩) A.length bcap, ?_, ?_⟩⟩, by simp [intOf]; omega⟩
        · have hk6 : Keep (fun k => k = b) w7 (w7.setCell ⟨b, 1, none⟩ (.int .i64 ((e : Int) + 1))) := by refine Keep.setCell (Keep.refl _ _) (.inl ?_) _; rfl
          have hb6 : (w7.setCell ⟨b, 1, none⟩ (.int .i64 ((e : Int) + 1))).heap[b]? = some (.cells #[.slice (some ⟨ga, 0, none⟩) A.length bcap, .int .i64 (((trimmedS s (j + 1)).gone : Nat) : Int)] 58 (0, 0)) := by
            have e1 : (((trimmedS s (j + 1)).gone : Nat) : Int) = (e : Int) + 1 := by
              have := HA.out.2.1
              simp only [trimmedS]
              omega
            rw [e1]
            simp [World.setCell, Array.getElem?_modify, Hb7.out.1]
          have hI7 := H7.out
          exact ⟨hb6, hI7.row.keep hk6 (fun k e x => (hI7.foot k e).2 x), hI7.self, hI7.foot, fun k x => Nat.lt_of_lt_of_le (hI7.lt k x) hk6.size, by
            have := H0.out.whole.trim (j + 1) (by have := HA.out.2.2.1; omega)
            exact this⟩
        · refine (Hh.out.2.2.next Hb7.out.2 (fun _ _ x => x) (fun _ _ x => x.elim)).next ((Keep.refl (fun k => k = b) w7).setCell (.inl ?_) _) (fun _ _ x => x) (fun _ _ x => by rw [x]; exact H0.out.self)
          rfl
      · have h5 : decide ((e : Int) + 1 ≤ (upto : Int)) = false := by simp; omega
        have h6 : decide (e + 1 ≤ upto) = false := by simp; omega
        have hjM2 : j = M := by omega
        clear he hMn
        go_wp2_with (at_builtin; refine stopAt ?_; intro q hq)
        go_quiet (fail)
        go_wp2_with (at_builtin; refine stopAt ?_; intro q hq)
        go_ret
        rw [← hjM2]
        exact ⟨rfl, F, ⟨_, Hh.out.2.1.keep ((Keep.refl (fun _ => False) wr).drewN _) (fun _ _ x => x)⟩, Hh.out.2.2.drewN _, fun _ x => .inl x⟩
    · have h4 : decide ((e : Int) < (n : Int)) = false := by simp; omega
      have h5 : decide (e < n) = false := by simp; omega
      have hjM2 : j = M := by omega
      clear hh hI hk hgj hMn he
      go_wp2_with (at_builtin; refine stopAt ?_; intro q hq)
      go_quiet (fail)
      go_wp2_with (at_builtin; refine stopAt ?_; intro q hq)
      go_ret
      rw [← hjM2]
      exact ⟨rfl, F, ⟨_, Hh.out.2.1.keep ((Keep.refl (fun _ => False) wr).drewN _) (fun _ _ x => x)⟩, Hh.out.2.2.drewN _, fun _ x => .inl x⟩
end Go.Proofs.Ytiilondhppipnaa
/- Mirror: sources and sinks as things side by side; what the chapter's example comes to. Conditions: as each law names them. -/
namespace Go.Proofs.Ytiilondhppipnaa
open Go.RowKit
open MI

abbrev SrcT (b : Nat) (s : Src) : Thing := fun w F => SrcAt w b F s
abbrev SnkT (b : Nat) (k : Snk) : Thing := fun w F => SnkAt w b F k
abbrev RSrcT (b : Nat) (s : Src) (A : List It) : Thing := fun w F => RSrcAt w b F s A
abbrev RSnkT (b : Nat) (k : Snk) : Thing := fun w F => RSnkAt w b F k
theorem SrcT.lives (b : Nat) (s : Src) : Lives (SrcT b s) := ⟨fun h hk hn => h.keep hk hn, fun h i x => let ⟨_, y⟩ := h; y.lt i x⟩
theorem SnkT.lives (b : Nat) (k : Snk) : Lives (SnkT b k) := ⟨fun h hk hn => let ⟨p, q, m, y⟩ := h; ⟨p, q, m, y.keep hk hn⟩, fun h i x => let ⟨_, _, _, y⟩ := h; y.lt i x⟩
theorem RSrcT.lives (b : Nat) (s : Src) (A : List It) : Lives (RSrcT b s A) := ⟨fun h hk hn => h.keep hk hn, fun h i x => let ⟨_, y⟩ := h; y.lt i x⟩
theorem RSnkT.lives (b : Nat) (k : Snk) : Lives (RSnkT b k) := ⟨fun h hk hn => h.keep hk hn, fun h i x => let ⟨_, _, y⟩ := h; y.lt i x⟩

/-- next is unique. -/
theorem MI.next_unique {h : List (Nat × It)} {a j n : Nat} (h1 : ∀ i, i < j → (AL.get h (a + i)).isSome = true) (h2 : AL.get h (a + j) = none) (h3 : ∀ i, i < n → (AL.get h (a + i)).isSome = true) (h4 : AL.get h (a + n) = none) : j = n := by
  rcases Nat.lt_trichotomy j n with h | h | h
  · have := h3 j h; rw [h2] at this; cases this
  · exact h
  · have := h1 n h; rw [h4] at this; cases this
theorem MI.next_eq {k : Snk} (hok : AL.Ok k.held) {j : Nat} (h1 : ∀ i, i < j → (AL.get k.held (k.cut + 1 + i)).isSome = true) (h2 : AL.get k.held (k.cut + 1 + j) = none) : k.next = k.cut + 1 + j := by
  unfold Snk.next
  rw [run_eq (row_len hok (k.cut + 1) j h1) h1 h2]

/-- The example: the source's items. -/
def MI.exC : List Ch := [⟨[97], [49], false⟩, ⟨[97], [50], false⟩, ⟨[98], [49], false⟩]
def MI.exI : List It := [⟨1, false, ⟨[97], [49], false⟩⟩, ⟨2, true, Ch.zero⟩, ⟨3, false, ⟨[97], [50], false⟩⟩, ⟨4, false, ⟨[98], [49], false⟩⟩, ⟨5, true, Ch.zero⟩]
def MI.exS1 : Src := (Src.new.do_ ⟨[97], [49], false⟩).1
def MI.exS2 : Src := exS1.mark.1
def MI.exS3 : Src := (exS2.do_ ⟨[97], [50], false⟩).1
def MI.exS4 : Src := (exS3.do_ ⟨[98], [49], false⟩).1
def MI.exS5 : Src := exS4.mark.1
def MI.exK1 : Snk := (Snk.new.take ⟨1, false, ⟨[97], [49], false⟩⟩).1
def MI.exK2 : Snk := (exK1.take ⟨2, true, Ch.zero⟩).1
def MI.exK3 : Snk := (exK2.take ⟨5, true, Ch.zero⟩).1
def MI.exK4 : Snk := (exK3.take ⟨3, false, ⟨[97], [50], false⟩⟩).1
def MI.exK5 : Snk := (exK4.take ⟨4, false, ⟨[98], [49], false⟩⟩).1
theorem MI.ex_mark : exS1.mark.2 = (2, 0) := by decide +kernel
theorem MI.ex_from : exS5.from_ 1 9 = exI := by decide +kernel
theorem MI.ex_k2 : exK2.cut = 2 ∧ layAll exK2.done = [([97], [49])] := by decide +kernel
theorem MI.ex_k4 : exK4.cut = 2 ∧ exK4.held.length = 2 ∧ exK4.next = 4 ∧ layAll exK4.done = [([97], [49])] := by decide +kernel
theorem MI.ex_k5 : exK5.cut = 5 ∧ exK5.held.length = 0 ∧ layAll exK5.done = [([97], [50]), ([98], [49])] := by decide +kernel
theorem MI.ex_s : exS1.last = 1 ∧ exS2.last = 2 ∧ exS3.last = 3 ∧ exS4.last = 4 ∧ exS5.last = 5 ∧ exS5.l.length = 5 := by decide +kernel
theorem MI.ex_k : (exK1.cut = 0 ∧ exK1.held.length = 1 ∧ exK1.done.length = 0) ∧ (exK2.held.length = 0 ∧ exK2.done.length = 2) ∧ (exK3.cut = 2 ∧ exK3.held.length = 1 ∧ exK3.done.length = 2) ∧ exK4.done.length = 2 ∧ exK5.done.length = 5 := by decide +kernel
end Go.Proofs.Ytiilondhppipnaa
/- Mirror: the chapter's example comes out. Conditions: none. -/
namespace Go.Proofs.Ytiilondhppipnaa
open Go.RowKit
open MI

set_option maxRecDepth 20000 in
set_option maxHeartbeats 4000000 in
theorem known_any (w : World) : Calls Try.prog 12 #[] w fun e w' => e = .returned (.bool true) ∧ Keep (fun _ => False) w w' := by
  go_enter Try.func12, Try.ntmps12
  go_wp2_with (at_builtin; refine stopAt ?_; intro q hq)
  refine (newSource_any w).mono ?_
  rintro e w1 ⟨a, F, rfl, hs, hk1, hF⟩
  have H1 := hid (And.intro hs (And.intro hk1 hF))
  clear hs hk1 hF
  go_wp2_with (at_builtin; refine stopAt ?_; intro q hq)
  refine (newSink_any w1).mono ?_
  rintro e w2 ⟨b, G, rfl, hs, hk2, hG⟩
  have H2 := hid (show Two w (SrcT a Src.new) F (SnkT b Snk.new) G w2 from Two.make H1.out.1 H1.out.2.2 H1.out.2.1 (SrcT.lives _ _) hs hG hk2)
  clear hs hk2 hG H1
  go_wp2_with (at_builtin; refine stopAt ?_; intro q hq)
  have h3 := do_any w2 a F Src.new ⟨[97], [49], false⟩ H2.out.one (by decide)
  refine h3.mono ?_
  clear h3
  rintro e w3 ⟨rfl, ht⟩
  obtain ⟨F3, H3⟩ := H2.out.turn1 (SnkT.lives _ _) (T' := SrcT a exS1) ht
  have H3 := hid H3
  clear ht H2
  go_wp2_with (at_builtin; refine stopAt ?_; intro q hq)
  have h4 := mark_any w3 a F3 exS1 H3.out.one (by rw [ex_s.1]; decide)
  rw [ex_mark] at h4
  refine h4.mono ?_
  clear h4
  rintro e w4 ⟨rfl, ht⟩
  obtain ⟨F4, H4⟩ := H3.out.turn1 (SnkT.lives _ _) (T' := SrcT a exS2) ht
  have H4 := hid H4
  clear ht H3
  go_wp2_with (at_builtin; refine stopAt ?_; intro q hq)
  have h5 := do_any w4 a F4 exS2 ⟨[97], [50], false⟩ H4.out.one (by rw [ex_s.2.1]; decide)
  refine h5.mono ?_
  clear h5
  rintro e w5 ⟨rfl, ht⟩
  obtain ⟨F5, H5⟩ := H4.out.turn1 (SnkT.lives _ _) (T' := SrcT a exS3) ht
  have H5 := hid H5
  clear ht H4
  go_wp2_with (at_builtin; refine stopAt ?_; intro q hq)
  have h6 := do_any w5 a F5 exS3 ⟨[98], [49], false⟩ H5.out.one (by rw [ex_s.2.2.1]; decide)
  refine h6.mono ?_
  clear h6
  rintro e w6 ⟨rfl, ht⟩
  obtain ⟨F6, H6⟩ := H5.out.turn1 (SnkT.lives _ _) (T' := SrcT a exS4) ht
  have H6 := hid H6
  clear ht H5
  go_wp2_with (at_builtin; refine stopAt ?_; intro q hq)
  have h7 := mark_any w6 a F6 exS4 H6.out.one (by rw [ex_s.2.2.2.1]; decide)
  refine h7.mono ?_
  clear h7
  rintro e w7 ⟨rfl, ht⟩
  obtain ⟨F7, H7⟩ := H6.out.turn1 (SnkT.lives _ _) (T' := SrcT a exS5) ht
  have H7 := hid H7
  clear ht H6
  go_wp2_with (at_builtin; refine stopAt ?_; intro q hq)
  have h8 := from_any w7 a F7 exS5 1 9 H7.out.one (by rw [ex_s.2.2.2.2.1]; decide) (by rw [ex_s.2.2.2.2.2]; decide) (by decide) (by decide)
  rw [ex_from] at h8
  refine h8.mono ?_
  clear h8
  rintro e w8 ⟨v, rfl, hr, hk8, ho⟩
  have H8 := hid (H7.out.and (SrcT.lives _ _) (SnkT.lives _ _) (RowT.of hr) ho hk8)
  obtain ⟨ao, cap, rfl, -⟩ := hr.form
  clear hr hk8 ho H7
  simp only [show exI.length = 5 from rfl] at H8 ⊢
  obtain ⟨g, cap2, hv, -⟩ := row_item H8.out.three.1 0 (by decide)
  cases hv
  have hrow := H8.out.three.1
  have a0 : w8.cell? ⟨g, 0, none⟩ = some (.int .u64 1) := hrow.cell 0 (by decide)
  have a1 : w8.cell? ⟨g, 1, none⟩ = some (.bool false) := hrow.cell 1 (by decide)
  have a2 : w8.cell? ⟨g, 2, none⟩ = some (.string (str [97])) := hrow.cell 2 (by decide)
  have a3 : w8.cell? ⟨g, 3, none⟩ = some (.string (str [49])) := hrow.cell 3 (by decide)
  have a4 : w8.cell? ⟨g, 4, none⟩ = some (.bool false) := hrow.cell 4 (by decide)
  clear hrow
  go_wp2_with (at_builtin; refine stopAt ?_; intro q hq)
  clear a0 a1 a2 a3 a4
  refine (take_any w8 b _ Snk.new ⟨1, false, ⟨[97], [49], false⟩⟩ H8.out.two (by decide +kernel) (by decide +kernel) (by decide)).mono ?_
  rintro e w9 ⟨rfl, ht⟩
  obtain ⟨G9, H9⟩ := H8.out.turn2 (SrcT.lives _ _) (RowT.lives _ _ _ _ _) (U' := SnkT b exK1) ht
  have H9 := hid H9
  clear ht H8
  have hrow := H9.out.three.1
  have a0 : w9.cell? ⟨g, 5, none⟩ = some (.int .u64 2) := hrow.cell 5 (by decide)
  have a1 : w9.cell? ⟨g, 6, none⟩ = some (.bool true) := hrow.cell 6 (by decide)
  have a2 : w9.cell? ⟨g, 7, none⟩ = some (.string (str [])) := hrow.cell 7 (by decide)
  have a3 : w9.cell? ⟨g, 8, none⟩ = some (.string (str [])) := hrow.cell 8 (by decide)
  have a4 : w9.cell? ⟨g, 9, none⟩ = some (.bool false) := hrow.cell 9 (by decide)
  clear hrow
  go_wp2_with (at_builtin; refine stopAt ?_; intro q hq)
  clear a0 a1 a2 a3 a4
  refine (take_any w9 b _ exK1 ⟨2, true, Ch.zero⟩ H9.out.two (by decide +kernel) (by decide +kernel) (by decide)).mono ?_
  rintro e w10 ⟨rfl, ht⟩
  obtain ⟨G10, H10⟩ := H9.out.turn2 (SrcT.lives _ _) (RowT.lives _ _ _ _ _) (U' := SnkT b exK2) ht
  have H10 := hid H10
  clear ht H9
  go_wp2_with (at_builtin; refine stopAt ?_; intro q hq)
  have hc := cut_any w10 b _ exK2 H10.out.two
  rw [ex_k2.1] at hc
  refine hc.mono ?_
  clear hc
  rintro e wz ⟨rfl, rfl⟩
  go_wp2_with (at_builtin; refine stopAt ?_; intro q hq)
  have hp := pairs_any w10 b _ exK2 H10.out.two (by rw [ex_k2.2]; decide) (by rw [ex_k2.2]; decide)
  rw [ex_k2.2] at hp
  refine hp.mono ?_
  clear hp
  rintro e w11 ⟨v, rfl, hr, hk, ho⟩
  obtain ⟨pa, pc, rfl, -⟩ := hr.form
  have H11 := hid (H10.out.later (SrcT.lives _ _) (SnkT.lives _ _) (RowT.lives _ _ _ _ _) hk)
  have HR := hid hr
  clear hr hk ho H10
  go_wp2_with (at_builtin; refine stopAt ?_; intro q hq)
  have hn7 := heap_alloc_new w11 (.cells #[.string (str [97]), .string (str [49])] 72)
  have hk7 : Keep (fun _ => False) w11 (w11.alloc (.cells #[.string (str [97]), .string (str [49])] 72)) := (Keep.refl _ _).alloc _
  have hr7 : Row (w11.alloc (.cells #[.string (str [97]), .string (str [49])] 72)) 72 2 (.slice (some ⟨w11.heap.size, 0, none⟩) 1 1) 1 (prsV [([97], [49])]) := ⟨rfl, .inr ⟨w11.heap.size, 1, _, (0, 0), rfl, hn7, Free.zero _, Nat.le_refl _, by decide, rfl, rfl⟩⟩
  refine (same_prs _ _ _ _ _ [([97], [49])] (HR.out.keep hk7 (fun _ _ x => x)) hr7).mono ?_
  rintro e w12 ⟨rfl, hk⟩
  have H12 := hid (H11.out.later (SrcT.lives _ _) (SnkT.lives _ _) (RowT.lives _ _ _ _ _) (hk7.next hk (fun _ _ x => x) (fun _ _ x => x)))
  clear hn7 hk7 hr7 hk H11 HR
  have hrow := H12.out.three.1
  have a0 : w12.cell? ⟨g, 20, none⟩ = some (.int .u64 5) := hrow.cell 20 (by decide)
  have a1 : w12.cell? ⟨g, 21, none⟩ = some (.bool true) := hrow.cell 21 (by decide)
  have a2 : w12.cell? ⟨g, 22, none⟩ = some (.string (str [])) := hrow.cell 22 (by decide)
  have a3 : w12.cell? ⟨g, 23, none⟩ = some (.string (str [])) := hrow.cell 23 (by decide)
  have a4 : w12.cell? ⟨g, 24, none⟩ = some (.bool false) := hrow.cell 24 (by decide)
  clear hrow
  go_wp2_with (at_builtin; refine stopAt ?_; intro q hq)
  clear a0 a1 a2 a3 a4
  refine (take_any w12 b _ exK2 ⟨5, true, Ch.zero⟩ H12.out.two (by decide +kernel) (by decide +kernel) (by decide)).mono ?_
  rintro e w13 ⟨rfl, ht⟩
  obtain ⟨G13, H13⟩ := H12.out.turn2 (SrcT.lives _ _) (RowT.lives _ _ _ _ _) (U' := SnkT b exK3) ht
  have H13 := hid H13
  clear ht H12
  have hrow := H13.out.three.1
  have a0 : w13.cell? ⟨g, 10, none⟩ = some (.int .u64 3) := hrow.cell 10 (by decide)
  have a1 : w13.cell? ⟨g, 11, none⟩ = some (.bool false) := hrow.cell 11 (by decide)
  have a2 : w13.cell? ⟨g, 12, none⟩ = some (.string (str [97])) := hrow.cell 12 (by decide)
  have a3 : w13.cell? ⟨g, 13, none⟩ = some (.string (str [50])) := hrow.cell 13 (by decide)
  have a4 : w13.cell? ⟨g, 14, none⟩ = some (.bool false) := hrow.cell 14 (by decide)
  clear hrow
  go_wp2_with (at_builtin; refine stopAt ?_; intro q hq)
  clear a0 a1 a2 a3 a4
  refine (take_any w13 b _ exK3 ⟨3, false, ⟨[97], [50], false⟩⟩ H13.out.two (by decide +kernel) (by decide +kernel) (by decide)).mono ?_
  rintro e w14 ⟨rfl, ht⟩
  obtain ⟨G14, H14⟩ := H13.out.turn2 (SrcT.lives _ _) (RowT.lives _ _ _ _ _) (U' := SnkT b exK4) ht
  have H14 := hid H14
  clear ht H13
  go_wp2_with (at_builtin; refine stopAt ?_; intro q hq)
  have hc := cut_any w14 b _ exK4 H14.out.two
  rw [ex_k4.1] at hc
  refine hc.mono ?_
  clear hc
  rintro e wz ⟨rfl, rfl⟩
  go_wp2_with (at_builtin; refine stopAt ?_; intro q hq)
  have hc := held_any w14 b _ exK4 H14.out.two
  rw [ex_k4.2.1] at hc
  refine hc.mono ?_
  clear hc
  rintro e wz ⟨rfl, rfl⟩
  go_wp2_with (at_builtin; refine stopAt ?_; intro q hq)
  have hok : AL.Ok exK4.held := let ⟨_, _, _, x⟩ := H14.out.two; x.held.1
  refine (next_any w14 b _ exK4 H14.out.two (by decide +kernel)).mono ?_
  rintro e w15 ⟨j, rfl, hj1, hj2, hk⟩
  have hj : exK4.cut + 1 + j = 4 := by rw [← next_eq hok hj1 hj2]; exact ex_k4.2.2.1
  rw [hj]
  have H15 := hid (H14.out.later (SrcT.lives _ _) (SnkT.lives _ _) (RowT.lives _ _ _ _ _) hk)
  clear hk H14 hok hj1 hj2 hj
  go_wp2_with (at_builtin; refine stopAt ?_; intro q hq)
  have hp := pairs_any w15 b _ exK4 H15.out.two (by rw [ex_k4.2.2.2]; decide) (by rw [ex_k4.2.2.2]; decide)
  rw [ex_k4.2.2.2] at hp
  refine hp.mono ?_
  clear hp
  rintro e w16 ⟨v, rfl, hr, hk, ho⟩
  obtain ⟨pa, pc, rfl, -⟩ := hr.form
  have H16 := hid (H15.out.later (SrcT.lives _ _) (SnkT.lives _ _) (RowT.lives _ _ _ _ _) hk)
  have HR := hid hr
  clear hr hk ho H15
  have hrow := H16.out.three.1
  have a0 : w16.cell? ⟨g, 15, none⟩ = some (.int .u64 4) := hrow.cell 15 (by decide)
  have a1 : w16.cell? ⟨g, 16, none⟩ = some (.bool false) := hrow.cell 16 (by decide)
  have a2 : w16.cell? ⟨g, 17, none⟩ = some (.string (str [98])) := hrow.cell 17 (by decide)
  have a3 : w16.cell? ⟨g, 18, none⟩ = some (.string (str [49])) := hrow.cell 18 (by decide)
  have a4 : w16.cell? ⟨g, 19, none⟩ = some (.bool false) := hrow.cell 19 (by decide)
  clear hrow
  go_wp2_with (at_builtin; refine stopAt ?_; intro q hq)
  clear a0 a1 a2 a3 a4
  refine (take_any w16 b _ exK4 ⟨4, false, ⟨[98], [49], false⟩⟩ H16.out.two (by decide +kernel) (by decide +kernel) (by decide)).mono ?_
  rintro e w17 ⟨rfl, ht⟩
  obtain ⟨G17, H17⟩ := H16.out.turn2 (SrcT.lives _ _) (RowT.lives _ _ _ _ _) (U' := SnkT b exK5) ht
  have H17 := hid H17
  clear ht H16
  go_wp2_with (at_builtin; refine stopAt ?_; intro q hq)
  have hc := cut_any w17 b _ exK5 H17.out.two
  rw [ex_k5.1] at hc
  refine hc.mono ?_
  clear hc
  rintro e wz ⟨rfl, rfl⟩
  go_wp2_with (at_builtin; refine stopAt ?_; intro q hq)
  have hc := held_any w17 b _ exK5 H17.out.two
  rw [ex_k5.2.1] at hc
  refine hc.mono ?_
  clear hc
  rintro e wz ⟨rfl, rfl⟩
  go_wp2_with (at_builtin; refine stopAt ?_; intro q hq)
  have hp := pairs_any w17 b _ exK5 H17.out.two (by rw [ex_k5.2.2]; decide) (by rw [ex_k5.2.2]; decide)
  rw [ex_k5.2.2] at hp
  refine hp.mono ?_
  clear hp
  rintro e w18 ⟨v, rfl, hr, hk, ho⟩
  obtain ⟨pa, pc, rfl, -⟩ := hr.form
  have H18 := hid (H17.out.later (SrcT.lives _ _) (SnkT.lives _ _) (RowT.lives _ _ _ _ _) hk)
  have HR := hid hr
  clear hr hk ho H17
  go_wp2_with (at_builtin; refine stopAt ?_; intro q hq)
  have hn7 := heap_alloc_new w18 (.cells #[.string (str [97]), .string (str [50]), .string (str [98]), .string (str [49])] 72)
  have hk7 : Keep (fun _ => False) w18 (w18.alloc (.cells #[.string (str [97]), .string (str [50]), .string (str [98]), .string (str [49])] 72)) := (Keep.refl _ _).alloc _
  have hr7 : Row (w18.alloc (.cells #[.string (str [97]), .string (str [50]), .string (str [98]), .string (str [49])] 72)) 72 2 (.slice (some ⟨w18.heap.size, 0, none⟩) 2 2) 2 (prsV [([97], [50]), ([98], [49])]) := ⟨rfl, .inr ⟨w18.heap.size, 2, _, (0, 0), rfl, hn7, Free.zero _, Nat.le_refl _, by decide, rfl, rfl⟩⟩
  refine (same_prs _ _ _ _ _ [([97], [50]), ([98], [49])] (HR.out.keep hk7 (fun _ _ x => x)) hr7).mono ?_
  rintro e w19 ⟨rfl, hk⟩
  have H19 := hid (H18.out.later (SrcT.lives _ _) (SnkT.lives _ _) (RowT.lives _ _ _ _ _) (hk7.next hk (fun _ _ x => x) (fun _ _ x => x)))
  clear hn7 hk7 hr7 hk H18 HR
  go_wp2_with (at_builtin; refine stopAt ?_; intro q hq)
  go_ret
  exact ⟨rfl, H19.out.keep⟩
end Go.Proofs.Ytiilondhppipnaa
