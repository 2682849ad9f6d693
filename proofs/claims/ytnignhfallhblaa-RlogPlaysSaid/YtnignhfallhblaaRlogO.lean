/- rlog: contracts for own and find. Conditions: as each contract names them. -/
import Derived.Test.YtnignhfallhblaaRlog
import Derived.Test.YtnignhfallhblaaLists
namespace Go.Proofs.Ytnignhfallhblaa
open Go.RowKit
open RM

/-- A result that lies in a block. -/
theorem results_agg {P : Program} {fn : Func} {t : Tmp} {ty : TypeId} (h : fn.results = #[.cell t ty]) (tmps : Array Value) (w : World) (g : Nat) (ht : tmps.getD t undef = .pointer (some ⟨g, 0, none⟩)) (cs : List Value)
    (hc : ∀ j u, cs[j]? = some u → w.cell? ⟨g, j, none⟩ = some u) (d : TypeDesc)
    (hu : P.underlying ty = some d) (hd : (match d with | .struct _ | .array _ _ => true | _ => false) = true) (hi : (P.info? ty).map (·.size) = some cs.length) :
    (results fn tmps).run P w = .ok (.agg cs.toArray) w := by
  have hl := run_loadCells_list (P := P) w ⟨g, 0, none⟩ cs (fun j v hv => by rw [addr_add, Nat.zero_add]; exact hc j v hv)
  cases hq : P.info? ty with
  | none => simp [hq] at hi
  | some i =>
    have hs : i.size = cs.length := by simpa [hq] using hi
    have hagg : (isAgg ty).run P w = .ok true w := by
      unfold isAgg
      rw [Sem.run_bind, run_underlying hu w]
      cases d <;> simp_all
    have hr : (loadVar ty ⟨g, 0, none⟩).run P w = .ok (.agg cs.toArray) w := by
      simp [loadVar, Sem.run_bind, hagg, sizeOf, typeInfo, hq, hs, hl]
    have ht' : tmps[t]?.getD undef = .pointer (some ⟨g, 0, none⟩) := by simpa using ht
    simp [results, h, ht', asAddr, hr]

set_option maxRecDepth 20000 in
theorem own_ent (w : World) (s : Nat) (ao : Option Addr) (n c : Nat) (bs : List UInt8) (hb : Cells w ao n 1 (bytesV bs)) (hn : n ≤ 1000000) :
    Calls Try.prog 34 #[.agg #[.int .u64 s, .slice ao n c]] w fun e w' =>
      ∃ ao' c', e = .returned (.agg #[.int .u64 s, .slice ao' n c']) ∧ Row w' 5 1 (.slice ao' n c') n (bytesV bs) ∧ (∀ k, (Value.slice ao' n c').ownBlock = some k → w.heap.size ≤ k) ∧ Keep (fun _ => False) w w' := by
  go_enter Try.func34, Try.ntmps34
  go_wp2_with (at_builtin; refine stopAt ?_; intro q hq)
  (refine hq.out ?_; clear hq q)
  have hA := heap_alloc_new w (.cells #[.int .u64 (s : Int), .slice ao n c] 32)
  have kA : Keep (fun _ => False) w (w.alloc (.cells #[.int .u64 (s : Int), .slice ao n c] 32)) := (Keep.refl _ _).alloc _
  have zA : (w.alloc (.cells #[.int .u64 (s : Int), .slice ao n c] 32)).heap.size = w.heap.size + 1 := by simp
  obtain ⟨wA, hwA⟩ : ∃ wA, wA = w.alloc (.cells #[.int .u64 (s : Int), .slice ao n c] 32) := ⟨_, rfl⟩
  rw [← hwA] at hA kA zA ⊢
  have hB := heap_alloc_new wA (.cells #[.int .u64 0, .slice none 0 0] 32)
  have kB : Keep (fun _ => False) wA (wA.alloc (.cells #[.int .u64 0, .slice none 0 0] 32)) := (Keep.refl _ _).alloc _
  have zB : (wA.alloc (.cells #[.int .u64 0, .slice none 0 0] 32)).heap.size = wA.heap.size + 1 := by simp
  obtain ⟨wB, hwB⟩ : ∃ wB, wB = wA.alloc (.cells #[.int .u64 0, .slice none 0 0] 32) := ⟨_, rfl⟩
  rw [← hwB] at hB kB zB ⊢
  have hF := Row.fresh wB 5 1
  have kC : Keep (fun _ => False) wB (wB.alloc (.cells #[] 5)) := (Keep.refl _ _).alloc _
  rw [zA] at hB zB
  rw [zB] at hF
  obtain ⟨wC, hwC⟩ : ∃ wC, wC = wB.alloc (.cells #[] 5) := ⟨_, rfl⟩
  rw [← hwC] at hF kC ⊢
  have hA' := kC.get (kB.get hA id) id
  have hB' := kC.get hB id
  have k0C : Keep (fun _ => False) w wC := (kA.next kB (fun _ _ x => x) (fun _ _ x => x)).next kC (fun _ _ x => x) (fun _ _ x => x)
  clear hwA hwB hwC hA hB kA kB kC zA zB
  have hsC := heap_lt hB'
  refine wpList_plain rfl (fun K hK => ?_)
  refine wp_append (v := .slice (some ⟨w.heap.size + 1 + 1, 0, none⟩) 0 0) (n := 0) ty_bytes (.tmp 3) (.tmp 5) rfl rfl hF ao n c (bytesV bs) rfl (hb.keep k0C fun _ _ x => x) (bytesV_one _) (by unfold maxLen; omega) (by omega) ?_
  intro v2 w2 hr2 hk2 hv2
  rw [Nat.zero_add, List.nil_append] at hr2
  refine hK _ _ ?_
  clear hK K
  have hA2 := hk2.get hA' (by intro e; simp [Value.ownBlock] at e <;> omega)
  have hB2 := hk2.get hB' (by intro e; simp [Value.ownBlock] at e <;> omega)
  have own2 : ∀ k, v2.ownBlock = some k → w.heap.size + 1 < k := by
    intro k hk
    rcases hv2 with ⟨e, _⟩ | ⟨k', h1, h2⟩
    · rw [e] at hk; simp [Value.ownBlock] at hk; omega
    · rw [hk] at h1; cases h1
      rcases h2 with h2 | h2
      · simp [Value.ownBlock] at h2; omega
      · omega
  have k02 : Keep (fun _ => False) w w2 := k0C.next hk2 (fun _ _ x => x) (fun i hi x => by simp [Value.ownBlock] at x; omega)
  obtain ⟨ao2, c2, rfl, -⟩ := hr2.form
  obtain ⟨a0, a1, af, -⟩ := cells2 hA2
  obtain ⟨b0, b1, bf, -⟩ := cells2 hB2
  have HX := hid (And.intro hr2 (And.intro hA2 (And.intro hB2 (And.intro own2 k02))))
  clear hr2 hA2 hB2 own2 k02 hk2 hv2 hF hA' hB' k0C hb
  go_wp2_with (at_builtin; refine stopAt ?_; intro q hq)
  obtain ⟨hr2, hA2, hB2, own2, k02⟩ := HX.out
  have k3 : Keep (fun k => k = w.heap.size) w2 (w2.setCell ⟨w.heap.size, 1, none⟩ (.slice ao2 n c2)) := by refine Keep.setCell (Keep.refl _ _) (.inl ?_) _; rfl
  have hB3 := k3.get hB2 (by omega)
  obtain ⟨w3, hw3⟩ : ∃ w3, w3 = w2.setCell ⟨w.heap.size, 1, none⟩ (.slice ao2 n c2) := ⟨_, rfl⟩
  rw [← hw3] at k3 hB3 ⊢
  have hB4 := heap_setCell_same w3 (w.heap.size + 1) 0 _ _ (.int .u64 (s : Int)) hB3
  have hB5 := heap_setCell_same (w3.setCell ⟨w.heap.size + 1, 0, none⟩ (.int .u64 (s : Int))) (w.heap.size + 1) 1 _ _ (.slice ao2 n c2) hB4
  have k5 : Keep (fun k => k = w.heap.size + 1) w3 ((w3.setCell ⟨w.heap.size + 1, 0, none⟩ (.int .u64 (s : Int))).setCell ⟨w.heap.size + 1, 1, none⟩ (.slice ao2 n c2)) := by
    refine Keep.setCell (Keep.setCell (Keep.refl _ _) (.inl ?_) _) (.inl ?_) _ <;> rfl
  obtain ⟨w5, hw5⟩ : ∃ w5, w5 = (w3.setCell ⟨w.heap.size + 1, 0, none⟩ (.int .u64 (s : Int))).setCell ⟨w.heap.size + 1, 1, none⟩ (.slice ao2 n c2) := ⟨_, rfl⟩
  rw [← hw5] at hB5 k5 ⊢
  have k25 : Keep (fun k => k = w.heap.size ∨ k = w.heap.size + 1) w2 w5 := k3.next k5 (fun _ _ x => .inl x) (fun _ _ x => .inr x)
  refine bodyPost_ret (results_agg rfl _ _ (w.heap.size + 1) rfl [.int .u64 (s : Int), .slice ao2 n c2] ?_ _ Try.underlying32 rfl (by kernel_rfl)) rfl ?_
  · intro j u hu
    rw [cell_of_row _ _ _ _ _ _ hB5]
    simpa using hu
  · exact ⟨ao2, c2, rfl, hr2.keep k25 (fun k e x => by have := own2 k e; omega), fun k e => by have := own2 k e; omega, k02.next k25 (fun _ _ x => x) (fun i hi x => by omega)⟩

/-- A log at block b. -/
structure LogIs (w : World) (b : Nat) (F : Nat → Prop) (g : Lg) (v : Value) (us : List (Nat × Value)) : Prop where
  head : w.heap[b]? = some (.cells #[.int .u64 (g.ap : Int), v] 60 (0, 0))
  row : Row w 32 2 v g.l.length (entsV us)
  keys : us.map (·.1) = g.l.map (·.1)
  each : ∀ i (hi : i < g.l.length), ∃ ao c, (us[i]?.map (·.2)) = some (.slice ao g.l[i].2.length c) ∧ Cells w ao g.l[i].2.length 1 (bytesV g.l[i].2) ∧ (0 < g.l[i].2.length → ∀ x, ao = some x → F x.block ∧ x.block ≠ b ∧ v.ownBlock ≠ some x.block)
  self : F b
  own : ∀ k, v.ownBlock = some k → F k ∧ k ≠ b
  lt : ∀ k, F k → k < w.heap.size
  ok : RM.Ok g
def LogAt (w : World) (b : Nat) (F : Nat → Prop) (g : Lg) : Prop := ∃ v us, LogIs w b F g v us

theorem LogIs.len {w : World} {b : Nat} {F : Nat → Prop} {g : Lg} {v : Value} {us : List (Nat × Value)} (h : LogIs w b F g v us) : us.length = g.l.length := by
  have := congrArg List.length h.keys
  simpa using this
theorem LogIs.keep {w w' : World} {b : Nat} {F G : Nat → Prop} {g : Lg} {v : Value} {us : List (Nat × Value)} (h : LogIs w b F g v us) (hk : Keep G w w') (hn : ∀ k, F k → ¬ G k) : LogIs w' b F g v us := by
  refine ⟨hk.get h.head (hn _ h.self), h.row.keep hk fun k e => hn _ (h.own k e).1, h.keys, fun i hi => ?_, h.self, h.own, fun k hF => Nat.lt_of_lt_of_le (h.lt k hF) hk.size, h.ok⟩
  obtain ⟨ao, c, h1, h2, h3⟩ := h.each i hi
  exact ⟨ao, c, h1, h2.keep0 hk fun hp x hx => hn _ (h3 (by omega) x hx).1, h3⟩
theorem LogAt.keep {w w' : World} {b : Nat} {F G : Nat → Prop} {g : Lg} (h : LogAt w b F g) (hk : Keep G w w') (hn : ∀ k, F k → ¬ G k) : LogAt w' b F g :=
  let ⟨_, _, hh⟩ := h; ⟨_, _, hh.keep hk hn⟩
theorem LogIs.slices {w : World} {b : Nat} {F : Nat → Prop} {g : Lg} {v : Value} {us : List (Nat × Value)} (h : LogIs w b F g v us) : ∀ e ∈ us, ∃ ao m c, e.2 = .slice ao m c := fun e he => by
  obtain ⟨i, hi, rfl⟩ := List.getElem_of_mem he
  obtain ⟨ao, c, h1, _⟩ := h.each i (by rw [← h.len]; exact hi)
  rw [List.getElem?_eq_getElem hi] at h1
  exact ⟨ao, _, c, by simpa using h1⟩

/-- What a method leaves. -/
def LogTo (b : Nat) (F : Nat → Prop) (w : World) (g : Lg) (w' : World) : Prop := ∃ F', LogAt w' b F' g ∧ Keep F w w' ∧ ∀ k, F' k → F k ∨ w.heap.size ≤ k

set_option maxRecDepth 20000 in
theorem find_any (w : World) (b : Nat) (F : Nat → Prop) (g : Lg) (t : Nat) (hL : LogAt w b F g) :
    Calls Try.prog 32 #[.pointer (some ⟨b, 0, none⟩), .int .u64 t] w fun e w' =>
      e = .returned (.tuple #[.int .i64 ((below g.l t : Nat) : Int), .bool (kept g.l t).isSome]) ∧ Keep (fun _ => False) w w' := by
  obtain ⟨v, us, hI⟩ := hL
  obtain ⟨a0, a1, af, -⟩ := cells2 hI.head
  have hlen := hI.len
  have hri : (us.map (·.1)).Pairwise (· < ·) := by rw [hI.keys]; exact List.pairwise_map.2 hI.ok.rising
  have hs := search_any w us v g.l.length t hI.row hlen (by have := hI.ok.few; omega) hI.slices hri
  obtain ⟨ao, c, rfl, -⟩ := hI.row.form
  have HI := hid hI
  have HS := hid hs
  have HLn := hid hlen
  obtain ⟨n, hn⟩ : ∃ n, n = g.l.length := ⟨_, rfl⟩
  rw [← hn] at a1
  have Hn := hid hn
  clear hI hs hri hn hlen
  go_enter Try.func32, Try.ntmps32
  go_wp2_with (at_builtin; refine stopAt ?_; intro q hq)
  have hs := HS.out
  rw [← Hn.out] at hs
  refine hs.mono ?_
  rintro e w2 ⟨i, rfl, hin, h1, h2, hk⟩
  have keyg : ∀ j (hj : j < us.length), us[j].1 = (g.l[j]'(by rw [← HLn.out]; exact hj)).1 := fun j hj => by
    have h := congrArg (fun l => l[j]?) HI.out.keys
    simp only [List.getElem?_map, List.getElem?_eq_getElem hj, List.getElem?_eq_getElem (show j < g.l.length by rw [← HLn.out]; exact hj), Option.map_some, Option.some.injEq] at h
    exact h
  have hi : i = below g.l t := below_unique HI.out.ok.rising t i (by rw [← Hn.out]; exact hin) (fun j hj hji => by rw [← keyg j (by rw [HLn.out]; exact hj)]; exact h1 j _ hji) (fun j hj hji => by rw [← keyg j (by rw [HLn.out]; exact hj)]; exact h2 j _ hji)
  have hk2 : decide ((us[i]?.map (·.1)) = some t) = (kept g.l t).isSome := by
    have h := congrArg (fun l => l[i]?) HI.out.keys
    simp only [List.getElem?_map] at h
    rw [h, hi, kept_at HI.out.ok.rising t]
    cases hb : g.l[below g.l t]? with
    | none => simp
    | some e => by_cases he : e.1 = t <;> simp [he]
  rw [hk2, hi]
  have HK := hid hk
  clear hk h1 h2 keyg hk2 hi
  go_wp2_with (at_builtin; refine stopAt ?_; intro q hq)
  go_ret2
  exact ⟨by rfl, HK.out⟩
end Go.Proofs.Ytnignhfallhblaa
