/- rlog: a contract for Apply. Conditions: as the contract names them. -/
import Derived.Test.YtnignhfallhblaaRlogN
namespace Go.Proofs.Ytnignhfallhblaa
open Go.RowKit
open RM

/-- A result that lies in a block, and one that does not. -/
theorem results_agg2 {P : Program} {fn : Func} {t u : Tmp} {ty : TypeId} (h : fn.results = #[.cell t ty, .tmp u]) (tmps : Array Value) (w : World) (g : Nat) (ht : tmps.getD t undef = .pointer (some ⟨g, 0, none⟩)) (cs : List Value)
    (hc : ∀ j u, cs[j]? = some u → w.cell? ⟨g, j, none⟩ = some u) (d : TypeDesc)
    (hu : P.underlying ty = some d) (hd : (match d with | .struct _ | .array _ _ => true | _ => false) = true) (hi : (P.info? ty).map (·.size) = some cs.length) :
    (results fn tmps).run P w = .ok (.tuple #[.agg cs.toArray, tmps.getD u undef]) w := by
  have hl := run_loadCells_list (P := P) w ⟨g, 0, none⟩ cs (fun j v hv => by rw [addr_add, Nat.zero_add]; exact hc j v hv)
  cases hq : P.info? ty with
  | none => simp [hq] at hi
  | some i =>
    have hs : i.size = cs.length := by simpa [hq] using hi
    have hagg : (isAgg ty).run P w = .ok true w := by
      unfold isAgg
      rw [Sem.run_bind, run_underlying hu w]
      cases d <;> simp_all
    have hr : (loadVar ty ⟨g, 0, none⟩).run P w = .ok (.agg cs.toArray) w := by
      simp [loadVar, Sem.run_bind, hagg, sizeOf, typeInfo, hq, hs, hl]
    have ht' : tmps[t]?.getD undef = .pointer (some ⟨g, 0, none⟩) := by simpa using ht
    simp [results, h, ht', asAddr, hr]

theorem RM.Ok.apply {g : Lg} (h : RM.Ok g) : RM.Ok (RM.apply g).2 := by
  unfold RM.apply
  cases hk : kept g.l (g.ap + 1) with
  | none => exact h
  | some v =>
    refine ⟨h.rising, h.slots, h.vals, h.few, ?_⟩
    simp only [kept, Option.map_eq_some_iff] at hk
    obtain ⟨e, he, -⟩ := hk
    have h1 := List.find?_some he
    have h2 := (h.slots e (List.mem_of_find?_eq_some he)).2
    simp at h1
    simp only []
    omega

theorem RM.kept_get {l : List Ent} (h : Rising l) {s : Nat} {u : List UInt8} (hk : kept l s = some u) : l[below l s]? = some (s, u) := by
  rw [kept_at h] at hk
  cases hq : l[below l s]? with
  | none => rw [hq] at hk; cases hk
  | some e =>
    rw [hq] at hk
    simp at hk
    obtain ⟨h1, h2⟩ := hk
    rw [← h1, ← h2]

/-- An entry of a log. -/
theorem LogIs.ent {w : World} {b : Nat} {F : Nat → Prop} {g : Lg} {v : Value} {us : List (Nat × Value)} (h : LogIs w b F g v us) (i : Nat) (hi : i < g.l.length) :
    ∃ gr cap ao c, v = .slice (some ⟨gr, 0, none⟩) g.l.length cap ∧ w.cell? ⟨gr, i * 2, none⟩ = some (.int .u64 (g.l[i].1 : Nat)) ∧ w.cell? ⟨gr, i * 2 + 1, none⟩ = some (.slice ao g.l[i].2.length c) ∧ Cells w ao g.l[i].2.length 1 (bytesV g.l[i].2) ∧ (0 < g.l[i].2.length → ∀ x, ao = some x → F x.block) := by
  obtain ⟨ao, c, x1, x2, x3⟩ := h.each i hi
  have hui : i < us.length := by rw [h.len]; exact hi
  obtain ⟨gr, cap, hv, c0, c1⟩ := ent_at h.row i hui
  have hus : us[i].2 = .slice ao g.l[i].2.length c := by rw [List.getElem?_eq_getElem hui] at x1; simpa using x1
  have hk : us[i].1 = g.l[i].1 := by
    have hh := congrArg (fun l => l[i]?) h.keys
    simp only [List.getElem?_map, List.getElem?_eq_getElem hui, List.getElem?_eq_getElem hi, Option.map_some, Option.some.injEq] at hh
    exact hh
  rw [hus] at c1
  rw [hk] at c0
  exact ⟨gr, cap, ao, c, hv, c0, c1, x2, fun hp x hx => (x3 hp x hx).1⟩

theorem LogIs.step {w : World} {b : Nat} {F : Nat → Prop} {g : Lg} {v : Value} {us : List (Nat × Value)} (h : LogIs w b F g v us) (t : Nat) (ok : RM.Ok { g with ap := t }) :
    LogIs (w.setCell ⟨b, 0, none⟩ (.int .u64 (t : Nat))) b F { g with ap := t } v us := by
  have hB4 := heap_setCell_same w b 0 _ _ (.int .u64 (t : Nat)) h.head
  have k3 : Keep (fun k => k = b) w (w.setCell ⟨b, 0, none⟩ (.int .u64 (t : Nat))) := by refine Keep.setCell (Keep.refl _ _) (.inl ?_) _; rfl
  obtain ⟨w3, hw3⟩ : ∃ w3, w3 = w.setCell ⟨b, 0, none⟩ (.int .u64 (t : Nat)) := ⟨_, rfl⟩
  rw [← hw3] at hB4 k3 ⊢
  refine ⟨hB4, h.row.keep k3 fun k e x => (h.own k e).2 x, h.keys, fun i hi => ?_, h.self, h.own, fun k hF => Nat.lt_of_lt_of_le (h.lt k hF) k3.size, ok⟩
  obtain ⟨ao, c, h1, h2, h3⟩ := h.each i hi
  exact ⟨ao, c, h1, h2.keep0 k3 fun hp x hx y => (h3 (by omega) x hx).2.1 y, h3⟩

/-- What Apply answers. -/
def Applies (w w' : World) (o : Option Ent) (e : Ending) : Prop :=
  match o with
  | none => e = .returned (.tuple #[.agg #[.int .u64 0, .slice none 0 0], .bool false])
  | some x => ∃ ao c, e = .returned (.tuple #[.agg #[.int .u64 (x.1 : Nat), .slice ao x.2.length c], .bool true]) ∧ Row w' 5 1 (.slice ao x.2.length c) x.2.length (bytesV x.2) ∧ ∀ k, (Value.slice ao x.2.length c).ownBlock = some k → w.heap.size ≤ k

set_option maxRecDepth 20000 in
set_option maxHeartbeats 1000000 in
theorem apply_any (w : World) (b : Nat) (F : Nat → Prop) (g : Lg) (hL : LogAt w b F g) :
    Calls Try.prog 13 #[.pointer (some ⟨b, 0, none⟩)] w fun e w' => Applies w w' (RM.apply g).1 e ∧ LogAt w' b F (RM.apply g).2 ∧ Keep F w w' := by
  have hA := heap_alloc_new w (.cells #[.int .u64 0, .slice none 0 0] 32)
  have kA : Keep (fun _ => False) w (w.alloc (.cells #[.int .u64 0, .slice none 0 0] 32)) := (Keep.refl _ _).alloc _
  have zA : (w.alloc (.cells #[.int .u64 0, .slice none 0 0] 32)).heap.size = w.heap.size + 1 := by simp
  obtain ⟨v, us, hI⟩ := hL
  have hok := hI.ok.apply
  have hap := hI.ok.ap
  have hbz := hI.lt b hI.self
  obtain ⟨ad, cap, rfl, -⟩ := hI.row.form
  obtain ⟨a0, a1, af, -⟩ := cells2 (kA.get hI.head id)
  obtain ⟨t, ht⟩ : ∃ t, t = g.ap + 1 := ⟨_, rfl⟩
  have ht' : (t : Int) = (g.ap : Int) + 1 := by omega
  have Ht := hid ht
  have HI := hid hI
  obtain ⟨G, hG⟩ : ∃ G, G = RM.apply g := ⟨_, rfl⟩
  rw [← hG] at hok ⊢
  unfold RM.apply at hG
  rw [← ht] at hG
  go_enter Try.func13, Try.ntmps13
  go_wp2_with (at_builtin; refine stopAt ?_; intro q hq)
  obtain ⟨wA, hwA⟩ : ∃ wA, wA = w.alloc (.cells #[.int .u64 0, .slice none 0 0] 32) := ⟨_, rfl⟩
  rw [← hwA] at hA kA zA a0 a1 af ⊢
  clear hwA
  have hIA := HI.out.keep kA (fun _ _ x => x)
  have hf := find_any wA b F g t ⟨_, _, hIA⟩
  rw [ht'] at hf
  have HIA := hid hIA
  clear hI hIA
  refine hf.mono ?_
  rintro e w2 ⟨rfl, hk2⟩
  have hA2 := hk2.get hA id
  have hI2 := HIA.out.keep hk2 (fun _ _ x => x)
  have k02 : Keep (fun _ => False) w w2 := kA.next hk2 (fun _ _ x => x) (fun _ _ x => x)
  clear hf a0 a1 af
  clear ht ht'
  obtain ⟨c0, c1, cf, -⟩ := cells2 hA2
  cases hk : kept g.l t with
  | none =>
    rw [hk] at hG
    have HG := hid hG
    clear hG
    have HX := hid (And.intro hA2 (And.intro hI2 k02))
    clear hA2 hI2 k02 hk2 kA hk
    go_wp2_with (at_builtin; refine stopAt ?_; intro q hq)
    obtain ⟨hA2, hI2, k02⟩ := HX.out
    have hB4 := heap_setCell_same w2 w.heap.size 0 _ _ (.int .u64 0) hA2
    have hB5 := heap_setCell_same (w2.setCell ⟨w.heap.size, 0, none⟩ (.int .u64 0)) w.heap.size 1 _ _ (.slice none 0 0) hB4
    have k5 : Keep (fun k => k = w.heap.size) w2 ((w2.setCell ⟨w.heap.size, 0, none⟩ (.int .u64 0)).setCell ⟨w.heap.size, 1, none⟩ (.slice none 0 0)) := by
      refine Keep.setCell (Keep.setCell (Keep.refl _ _) (.inl ?_) _) (.inl ?_) _ <;> rfl
    obtain ⟨w5, hw5⟩ : ∃ w5, w5 = (w2.setCell ⟨w.heap.size, 0, none⟩ (.int .u64 0)).setCell ⟨w.heap.size, 1, none⟩ (.slice none 0 0) := ⟨_, rfl⟩
    rw [← hw5] at hB5 k5 ⊢
    refine bodyPost_ret (results_agg2 rfl _ _ w.heap.size rfl [.int .u64 0, .slice none 0 0] ?_ _ Try.underlying32 rfl (by kernel_rfl)) rfl ?_
    · intro j u hu
      rw [cell_of_row _ _ _ _ _ _ hB5]
      simpa using hu
    · have hG := HG.out
      subst hG
      refine ⟨by rfl, ⟨_, _, hI2.keep k5 fun k e x => by have := HI.out.lt k e; omega⟩, (k02.mono (fun _ _ x => x.elim)).next k5 (fun _ _ x => x) (fun i hi x => by omega)⟩
  | some u =>
    rw [hk] at hG
    have HG := hid hG
    clear hG
    have Hk := hid hk
    clear hk
    obtain ⟨a0, a1, af, -⟩ := cells2 hI2.head
    have HX := hid (And.intro hA2 (And.intro hI2 k02))
    clear hA2 hI2 k02 hk2 kA
    go_wp2_with (first | (at_builtin; refine stopAt ?_; intro q hq) | (refine stopOp (.load 35 _) rfl ?_; intro q hq))
    (refine hq.out ?_; clear hq q)
    obtain ⟨hA2, hI2, k02⟩ := HX.out
    have hG := HG.out
    rw [hG] at hok
    have hI3 := hI2.step t hok
    have k3 : Keep (fun k => k = b) w2 (w2.setCell ⟨b, 0, none⟩ (.int .u64 (t : Nat))) := by refine Keep.setCell (Keep.refl _ _) (.inl ?_) _; rfl
    have ht' : (g.ap : Int) + 1 = (t : Int) := by have := Ht.out; omega
    simp only [ht']
    obtain ⟨w3, hw3⟩ : ∃ w3, w3 = w2.setCell ⟨b, 0, none⟩ (.int .u64 (t : Nat)) := ⟨_, rfl⟩
    rw [← hw3] at hI3 k3 ⊢
    clear hw3 a0 a1 af c0 c1 cf
    obtain ⟨a0, a1, af, -⟩ := cells2 hI3.head
    have hkg := RM.kept_get HI.out.ok.rising Hk.out
    obtain ⟨i, hi⟩ : ∃ i, i = below g.l t := ⟨_, rfl⟩
    rw [← hi] at hkg ⊢
    obtain ⟨hil, hgi⟩ := List.getElem?_eq_some_iff.1 hkg
    obtain ⟨gr, cap', ao, c, hv, e0, e1, e2, e3⟩ := hI3.ent i hil
    cases hv
    rw [hgi] at e0 e1 e2 e3
    have hu := HI.out.ok.vals (t, u) (hgi ▸ List.getElem_mem hil)
    have hown := own_ent w3 t ao u.length c u e2 (by simp only at hu; omega)
    have hil' : (i : Int) < (g.l.length : Int) := by omega
    obtain ⟨len, hlen⟩ : ∃ z, z = g.l.length := ⟨_, rfl⟩
    obtain ⟨n, hn⟩ : ∃ z, z = u.length := ⟨_, rfl⟩
    simp only [← hlen, ← hn] at a1 hil' e1 hown
    have HO := hid hown
    have HN := hid (And.intro hlen hn)
    have HI3 := hid (And.intro hI3 k3)
    clear hown hlen hn e2 e3 hI3 k3 hG hkg hgi ht' hi
    go_wp2_with (at_builtin; refine stopAt ?_; intro q hq)
    refine HO.out.mono ?_
    rintro e w4 ⟨ao4, c4, rfl, hr4, hf4, hk4⟩
    obtain ⟨hI3, k3⟩ := HI3.out
    have hA4 := hk4.get (k3.get hA2 (by omega)) id
    obtain ⟨c0, c1, cf, -⟩ := cells2 hA4
    have HY := hid (And.intro hA4 (And.intro hr4 (And.intro hf4 (And.intro (hI3.keep hk4 (fun _ _ x => x)) hk4))))
    clear hA4 hr4 hf4 hI3 hk4 a0 a1 af e0 e1 hil' hA2 hI2 k02
    go_wp2_with (at_builtin; refine stopAt ?_; intro q hq)
    obtain ⟨hA2, hr4, hf4, hI4, hk4⟩ := HY.out
    have hB4 := heap_setCell_same w4 w.heap.size 0 _ _ (.int .u64 (t : Nat)) hA2
    have hB5 := heap_setCell_same (w4.setCell ⟨w.heap.size, 0, none⟩ (.int .u64 (t : Nat))) w.heap.size 1 _ _ (.slice ao4 n c4) hB4
    have k5 : Keep (fun k => k = w.heap.size) w4 ((w4.setCell ⟨w.heap.size, 0, none⟩ (.int .u64 (t : Nat))).setCell ⟨w.heap.size, 1, none⟩ (.slice ao4 n c4)) := by
      refine Keep.setCell (Keep.setCell (Keep.refl _ _) (.inl ?_) _) (.inl ?_) _ <;> rfl
    obtain ⟨w5, hw5⟩ : ∃ w5, w5 = (w4.setCell ⟨w.heap.size, 0, none⟩ (.int .u64 (t : Nat))).setCell ⟨w.heap.size, 1, none⟩ (.slice ao4 n c4) := ⟨_, rfl⟩
    rw [← hw5] at hB5 k5 ⊢
    have k05 : Keep F w w5 := (((HX.out.2.2.mono (fun _ _ x => x.elim : ∀ i, i < w.heap.size → False → F i)).next k3 (fun _ _ x => x) (fun i _ x => by rw [x]; exact HI.out.self)).next hk4 (fun _ _ x => x) (fun _ _ x => x.elim)).next k5 (fun _ _ x => x) (fun i hi x => by omega)
    have z3 : w.heap.size + 1 ≤ w3.heap.size := by have := HX.out.2.2.size; have := k3.size; have := heap_lt HX.out.1; omega
    refine bodyPost_ret (results_agg2 rfl _ _ w.heap.size rfl [.int .u64 (t : Nat), .slice ao4 n c4] ?_ _ Try.underlying32 rfl (by kernel_rfl)) rfl ?_
    · intro j u hu
      rw [cell_of_row _ _ _ _ _ _ hB5]
      simpa using hu
    · have hG := HG.out
      subst hG
      obtain ⟨-, rfl⟩ := HN.out
      refine ⟨⟨ao4, c4, by rfl, hr4.keep k5 (fun k e x => by have := hf4 k e; omega), fun k e => by have := hf4 k e; omega⟩, ⟨_, _, hI4.keep k5 fun k e x => by have := HI.out.lt k e; omega⟩, k05⟩
end Go.Proofs.Ytnignhfallhblaa
