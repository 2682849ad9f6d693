/- The document's log: contracts for without, Trim, Install. Conditions: as the contracts name them. -/
import Derived.Test.YtnignhfallhblaaRlc
namespace Go.Proofs.Ytnignhfallhblaa
open Go.RowKit
open RM

/-- What goes with what, filtered on both sides. -/
theorem filter_both {α β : Type} {R : α → β → Prop} {us : List α} {rl : List β} (p : α → Bool) (q : β → Bool) (hl : us.length = rl.length) (hR : ∀ i (h : i < us.length) (h' : i < rl.length), R us[i] rl[i] ∧ p us[i] = q rl[i]) :
    (us.filter p).length = (rl.filter q).length ∧ ∀ i (h : i < (us.filter p).length) (h' : i < (rl.filter q).length), R (us.filter p)[i] (rl.filter q)[i] := by
  have hz : ∀ z ∈ us.zip rl, R z.1 z.2 ∧ p z.1 = q z.2 := fun z hz => by
    obtain ⟨i, hi, rfl⟩ := List.getElem_of_mem hz
    rw [List.getElem_zip]
    exact hR i _ _
  have h1 : us.filter p = ((us.zip rl).filter (p ∘ Prod.fst)).map Prod.fst := by
    rw [← List.filter_map, List.map_fst_zip (by omega)]
  have h2 : rl.filter q = ((us.zip rl).filter (p ∘ Prod.fst)).map Prod.snd := by
    have : (us.zip rl).filter (p ∘ Prod.fst) = (us.zip rl).filter (q ∘ Prod.snd) := List.filter_congr fun z hz' => (hz z hz').2
    rw [this, ← List.filter_map, List.map_snd_zip (by omega)]
  refine ⟨by rw [h1, h2, List.length_map, List.length_map], fun i h h' => ?_⟩
  have hi : i < ((us.zip rl).filter (p ∘ Prod.fst)).length := by rw [h1, List.length_map] at h; exact h
  have e1 : (us.filter p)[i] = ((us.zip rl).filter (p ∘ Prod.fst))[i].1 := by simp only [h1, List.getElem_map]
  have e2 : (rl.filter q)[i] = ((us.zip rl).filter (p ∘ Prod.fst))[i].2 := by simp only [h2, List.getElem_map]
  rw [e1, e2]
  exact (hz _ (List.mem_filter.1 (List.getElem_mem hi)).1).1

/-- A log whose entries are some of those that it had, in a new row. -/
theorem RIs.filtered {w wr : World} {b ap : Nat} {F : Nat → Prop} {rl : List Ent} {v v' : Value} {us : List (Nat × Value)} (h : RIs w b F ap rl v us) (s : Nat) (hk : Keep (fun _ => False) w wr)
    (hr : Row wr 32 2 v' (us.filter fun e => decide (s < e.1)).length (entsV (us.filter fun e => decide (s < e.1)))) (hv : ∀ k, v'.ownBlock = some k → w.heap.size ≤ k) :
    ∃ F', RIs (wr.setCell ⟨b, 1, none⟩ v') b F' ap (rl.filter fun e => decide (s < e.1)) v' (us.filter fun e => decide (s < e.1)) ∧ Keep F w (wr.setCell ⟨b, 1, none⟩ v') ∧ ∀ k, F' k → F k ∨ w.heap.size ≤ k := by
  have hk3 : Keep (fun k => k = b) wr (wr.setCell ⟨b, 1, none⟩ v') := by refine Keep.setCell (Keep.refl _ _) (.inl ?_) _; rfl
  have hh3 := heap_setCell_same wr b 1 _ _ v' (hk.get h.head id)
  have hbl := heap_lt h.head
  obtain ⟨w4, hw4⟩ : ∃ w4, w4 = wr.setCell ⟨b, 1, none⟩ v' := ⟨_, rfl⟩
  rw [← hw4] at hk3 hh3 ⊢
  have hb2 : v'.ownBlock ≠ some b := fun e => by have := hv b e; omega
  obtain ⟨f1, f2⟩ := filter_both (R := fun (u : Nat × Value) (e : Ent) => u.1 = e.1 ∧ ∃ ao c, u.2 = .slice ao e.2.length c ∧ Cells w ao e.2.length 1 (bytesV e.2) ∧ (0 < e.2.length → ∀ x, ao = some x → F x.block ∧ x.block ≠ b))
    (fun e => decide (s < e.1)) (fun e => decide (s < e.1)) h.len (fun i hi hi' => by
      have hkey := h.key i hi hi'
      obtain ⟨ao, c, h1, h2, h3⟩ := h.each i hi'
      rw [List.getElem?_eq_getElem hi, Option.map_some, Option.some.injEq] at h1
      exact ⟨⟨hkey, ao, c, h1, h2, fun hp x hx => ⟨(h3 hp x hx).1, (h3 hp x hx).2.1⟩⟩, by rw [hkey]⟩)
  refine ⟨fun k => F k ∨ (w.heap.size ≤ k ∧ k < w4.heap.size), ⟨by rw [hh3]; rfl, ?_, ?_, fun i hi => ?_, .inl h.self, fun k e => ⟨.inr ⟨hv k e, ?_⟩, fun x => hb2 (by rw [← x]; exact e)⟩, fun k x => ?_⟩, (hk.mono fun _ _ x => x.elim).next hk3 (fun _ _ x => x) (fun i _ x => by rw [x]; exact h.self), fun k x => x.imp id And.left⟩
  · rw [← f1]
    exact hr.keep hk3 fun k e x => hb2 (by rw [← x]; exact e)
  · refine List.ext_getElem (by simpa using f1) fun i a b => ?_
    simp only [List.getElem_map]
    exact (f2 i _ _).1
  · have hiu : i < (us.filter fun e => decide (s < e.1)).length := by rw [f1]; exact hi
    obtain ⟨_, ao, c, h1, h2, h3⟩ := f2 i hiu hi
    refine ⟨ao, c, by rw [List.getElem?_eq_getElem hiu, Option.map_some, h1], (h2.keep hk fun _ _ x => x).keep0 hk3 fun hp x hx y => (h3 (by omega) x hx).2 y, fun hp x hx => ⟨.inl (h3 hp x hx).1, (h3 hp x hx).2, fun e => ?_⟩⟩
    have := hv _ e
    have := h.lt _ (h3 hp x hx).1
    omega
  · have := hr.lt e; have := hk3.size; omega
  · rcases x with x | x
    · have := h.lt k x; have := hk.size; have := hk3.size; omega
    · exact x.2

structure WRel (w : World) (us : List (Nat × Value)) (s i n : Nat) (v : Value) (wr : World) : Prop where
  row : Row wr 32 2 v n (entsV ((us.take i).filter fun e => decide (s < e.1)))
  len : n = ((us.take i).filter fun e => decide (s < e.1)).length
  own : ∀ k, v.ownBlock = some k → w.heap.size ≤ k
  keep : Keep (fun _ => False) w wr

set_option maxRecDepth 20000 in
set_option maxHeartbeats 1000000 in
theorem without_any (w : World) (b ap : Nat) (F : Nat → Prop) (rl : List Ent) (v : Value) (us : List (Nat × Value)) (s : Nat) (h : RIs w b F ap rl v us) (hn6 : rl.length ≤ 1000000) :
    Calls Try.prog 49 #[.pointer (some ⟨b, 0, none⟩), .int .u64 s] w fun e w' =>
      e = .returned (.int .i64 ((rl.length - (rl.filter fun e => decide (s < e.1)).length : Nat) : Int)) ∧ ∃ F' v' us', RIs w' b F' ap (rl.filter fun e => decide (s < e.1)) v' us' ∧ Keep F w w' ∧ ∀ k, F' k → F k ∨ w.heap.size ≤ k := by
  obtain ⟨ao, cp, rfl, -⟩ := h.row.form
  obtain ⟨a0, a1, af, -⟩ := cells2 h.head
  obtain ⟨len, hlen⟩ : ∃ n, n = rl.length := ⟨_, rfl⟩
  rw [← hlen] at a1 hn6
  have HI := hid h
  have Hlen := hid hlen
  clear h hlen
  go_enter Try.func49, Try.ntmps49
  go_wp2_with (at_builtin; refine stopAt ?_; intro q hq)
  clear a0 a1 af
  go_loopw [5, 6] (fun ov iv wr => ∃ i n : Nat, i ≤ len ∧ n ≤ i ∧ iv = .int .i64 i ∧ Hid (WRel w us s i n ov wr)) (fun _ iv _ => len - (intOf iv).toNat)
  case atStart => exact ⟨0, 0, Nat.zero_le _, Nat.le_refl _, rfl, hid ⟨Row.nil _ _ _, rfl, fun k e => by simp [Value.ownBlock] at e, Keep.refl _ _⟩⟩
  case round =>
    obtain ⟨i, n, hi, hni, rfl, HR⟩ := hrel
    have hIr := HI.out.keep HR.out.keep fun _ _ x => x
    obtain ⟨a0, a1, af, -⟩ := cells2 hIr.head
    rw [← Hlen.out] at a1
    obtain ⟨ao2, c2, rfl, -⟩ := HR.out.row.form
    by_cases hil : i < len
    · have q1 : (i : Int) < len := by omega
      have hir : i < rl.length := by rw [← Hlen.out]; exact hil
      have hiu : i < us.length := by rw [HI.out.len]; exact hir
      obtain ⟨gr, cap', ao', c', hv, c0, c1, -, cu, -⟩ := hIr.ent i hir
      obtain ⟨rfl, rfl⟩ : ao = some ⟨gr, 0, none⟩ ∧ cp = cap' := by simpa using hv
      obtain ⟨x, hx⟩ : ∃ x, x = rl[i].1 := ⟨_, rfl⟩
      obtain ⟨m, hm⟩ : ∃ m, m = rl[i].2.length := ⟨_, rfl⟩
      rw [← hx] at c0 cu
      rw [← hm] at c1 cu
      have htk : us.take (i + 1) = us.take i ++ [(x, .slice ao' m c')] := by
        rw [List.take_add_one, cu]
        rfl
      have Htk := hid htk
      clear hv hx hm htk cu hIr
      by_cases hsx : s < x
      · have q2 : decide (s < x) = true := by simpa using hsx
        have HF := hid (show (us.take (i + 1)).filter (fun e => decide (s < e.1)) = (us.take i).filter (fun e => decide (s < e.1)) ++ [(x, .slice ao' m c')] by
          rw [Htk.out, List.filter_append]
          simp [hsx])
        go_wp2_with (at_builtin; refine stopAt ?_; intro q hq)
        (refine hq.out ?_; clear hq q)
        have hB := heap_alloc_new wr (.cells #[.int .u64 (x : Nat), .slice ao' m c'] 32)
        have kB : Keep (fun _ => False) wr (wr.alloc (.cells #[.int .u64 (x : Nat), .slice ao' m c'] 32)) := (Keep.refl _ _).alloc _
        obtain ⟨wB, hwB⟩ : ∃ wB, wB = wr.alloc (.cells #[.int .u64 (x : Nat), .slice ao' m c'] 32) := ⟨_, rfl⟩
        rw [← hwB] at hB kB ⊢
        have hev : Cells wB (some ⟨wr.heap.size, 0, none⟩) 1 2 (entV (x, .slice ao' m c')) := ⟨rfl, fun _ => ⟨_, rfl, fun j u hu => by rw [addr_add, Nat.zero_add, cell_of_row _ _ _ _ _ _ hB]; simpa [entV] using hu⟩⟩
        refine wpList_plain rfl (fun K hK => ?_)
        refine wp_append ty_ents (.tmp 27) (.tmp 35) rfl rfl (HR.out.row.keep kB fun _ _ x => x) (some ⟨wr.heap.size, 0, none⟩) 1 1 (entV (x, .slice ao' m c')) rfl hev (one_ents (us := [(x, .slice ao' m c')]) (fun e he => by rw [List.mem_singleton] at he; subst he; exact ⟨_, _, _, rfl⟩)) (by unfold maxLen; omega) (by omega) ?_
        intro v6 w6 hr6 hk6 hv6
        refine hK _ _ ?_
        clear hK K
        have HZ := hid (show WRel w us s (i + 1) (n + 1) v6 w6 from by
          have h1 := HR.out.own
          have h2 := HR.out.keep.size
          have h3 := kB.size
          refine ⟨by rw [HF.out, entsV_append, entsV_one]; exact hr6, by rw [HF.out, List.length_append, ← HR.out.len]; rfl, fun k e => ?_, (HR.out.keep.next kB (fun _ _ x => x) (fun _ _ x => x)).next hk6 (fun _ _ x => x) (fun k hk x => by have := h1 k x; omega)⟩
          rcases hv6 with ⟨_, z⟩ | ⟨k', y, z⟩
          · exact absurd z (by omega)
          · rw [e] at y
            cases y
            rcases z with z | z
            · exact h1 k z
            · omega)
        obtain ⟨ao6, c6, rfl, -⟩ := hr6.form
        clear hr6 hk6 hv6 hev hB kB hwB a0 a1 af c0 c1
        go_wp2_with (at_builtin; refine stopAt ?_; intro q hq)
        exact ⟨⟨i + 1, n + 1, by omega, by omega, by go_num, HZ⟩, by simp [intOf]; omega⟩
      · have q2 : decide (s < x) = false := by simpa using hsx
        have HF := hid (show (us.take (i + 1)).filter (fun e => decide (s < e.1)) = (us.take i).filter (fun e => decide (s < e.1)) by
          rw [Htk.out, List.filter_append]
          simp [hsx])
        have HZ := hid (show WRel w us s (i + 1) n (.slice ao2 n c2) wr from ⟨by rw [HF.out]; exact HR.out.row, by rw [HF.out]; exact HR.out.len, HR.out.own, HR.out.keep⟩)
        go_wp2_with (at_builtin; refine stopAt ?_; intro q hq)
        exact ⟨⟨i + 1, n, by omega, by omega, by go_num, HZ⟩, by simp [intOf]; omega⟩
    · have q1 : decide ((i : Int) < (len : Int)) = false := by simp; omega
      obtain rfl : i = len := by omega
      have htk : us.take i = us := List.take_of_length_le (by rw [HI.out.len, ← Hlen.out]; exact Nat.le_refl _)
      have hrow := HR.out.row
      have hlen2 := HR.out.len
      rw [htk] at hrow hlen2
      have hfl := filter_both (R := fun (_ : Nat × Value) (_ : Ent) => True) (fun e => decide (s < e.1)) (fun e => decide (s < e.1)) HI.out.len (fun i hi hi' => ⟨trivial, by rw [HI.out.key i hi hi']⟩)
      have HF := hid (hfl.1.symm.trans hlen2.symm)
      have hown := HR.out.own
      rw [hlen2] at hrow hown
      have hfil := HI.out.filtered s HR.out.keep hrow hown
      rw [← hlen2] at hfil
      have HFil := hid hfil
      have q2 : (i : Int) - (n : Int) = ((i - n : Nat) : Int) := by omega
      clear hIr htk hrow hlen2 hfl hfil hown
      go_wp2_with (at_builtin; refine stopAt ?_; intro q hq)
      go_ret
      obtain ⟨F', h1, h2, h3⟩ := HFil.out
      refine ⟨?_, F', _, _, h1, h2, h3⟩
      rw [← Hlen.out, HF.out]
      rfl

theorem RM.filter_from {l : List Ent} (h : Rising l) (m : Nat) : (l.filter fun e => decide (m < e.1)) = l.drop (below l (m + 1)) := by
  obtain ⟨g1, g2⟩ := below_split h (m + 1)
  conv => lhs; rw [← List.take_append_drop (below l (m + 1)) l]
  rw [List.filter_append]
  have e1 : (l.take (below l (m + 1))).filter (fun e => decide (m < e.1)) = [] := by
    rw [List.filter_eq_nil_iff]
    intro e he
    obtain ⟨i, hi, rfl⟩ := List.getElem_of_mem he
    rw [List.length_take] at hi
    rw [List.getElem_take]
    have := g1 i (by omega) (by omega)
    simp only [decide_eq_true_eq]
    omega
  have e2 : (l.drop (below l (m + 1))).filter (fun e => decide (m < e.1)) = l.drop (below l (m + 1)) := by
    rw [List.filter_eq_self]
    intro e he
    have := ((mem_from h (m + 1) e).1 he).2
    simp only [decide_eq_true_eq]
    omega
  rw [e1, e2, List.nil_append]

set_option maxRecDepth 20000 in
set_option maxHeartbeats 1000000 in
theorem rtrim_any (w : World) (b : Nat) (F : Nat → Prop) (g : Lg) (s : Nat) (hL : RefAt w b F g) :
    Calls Try.prog 40 #[.pointer (some ⟨b, 0, none⟩), .int .u64 s] w fun e w' => e = .returned (.int .i64 ((RM.trim g s).1 : Nat)) ∧ RefTo b F w (RM.trim g s).2 w' := by
  obtain ⟨v, us, rl, hI, hp, hok⟩ := hL
  obtain ⟨a0, a1, af, -⟩ := cells2 hI.head
  have hrl := hp.length_eq
  have hfew := hok.few
  obtain ⟨m, hm⟩ : ∃ m, m = min s g.ap := ⟨_, rfl⟩
  have hwo := without_any w b g.ap F rl v us m hI (by omega)
  have HX := hid (And.intro hI (And.intro hp (And.intro hok (And.intro hm hrl))))
  have Hwo := hid hwo
  have hfin : ∀ (e : Ending) (w' : World), (e = .returned (.int .i64 ((rl.length - (rl.filter fun e => decide (m < e.1)).length : Nat) : Int)) ∧ ∃ F' v' us', RIs w' b F' g.ap (rl.filter fun e => decide (m < e.1)) v' us' ∧ Keep F w w' ∧ ∀ k, F' k → F k ∨ w.heap.size ≤ k) →
      e = .returned (.int .i64 ((RM.trim g s).1 : Nat)) ∧ RefTo b F w (RM.trim g s).2 w' := fun e w' ⟨h1, F', v', us', h2, h3, h4⟩ => by
    have hf := RM.filter_from hok.rising m
    have hpf := hp.filter (fun e => decide (m < e.1))
    rw [hf] at hpf
    have hbl := below_le g.l (m + 1)
    refine ⟨?_, F', ⟨v', us', _, h2, ?_, hok.trim s⟩, h3, h4⟩
    · rw [h1, hpf.length_eq, List.length_drop, hrl]
      unfold RM.trim
      rw [← hm]
      congr 3
      omega
    · unfold RM.trim
      rw [← hm]
      exact hpf
  have Hfin := hid hfin
  clear hI hp hok hwo hrl hfew hfin
  rcases Nat.lt_or_ge g.ap s with hlt | hlt
  · obtain rfl : m = g.ap := by omega
    clear hm
    have q1 : decide (g.ap < s) = true := by simpa using hlt
    go_enter Try.func40, Try.ntmps40
    go_wp2_with (at_builtin; refine stopAt ?_; intro q hq)
    refine Hwo.out.mono ?_
    rintro e w2 hres
    have hres2 := Hfin.out e w2 hres
    obtain ⟨rfl, -⟩ := hres
    have HR := hid hres2
    clear hres2 a0 a1 af
    go_wp2_with (at_builtin; refine stopAt ?_; intro q hq)
    go_ret
    exact HR.out
  · obtain rfl : m = s := by omega
    clear hm
    have q1 : decide (g.ap < m) = false := by simp; omega
    go_enter Try.func40, Try.ntmps40
    go_wp2_with (at_builtin; refine stopAt ?_; intro q hq)
    refine Hwo.out.mono ?_
    rintro e w2 hres
    have hres2 := Hfin.out e w2 hres
    obtain ⟨rfl, -⟩ := hres
    have HR := hid hres2
    clear hres2 a0 a1 af
    go_wp2_with (at_builtin; refine stopAt ?_; intro q hq)
    go_ret
    exact HR.out

set_option maxRecDepth 20000 in
set_option maxHeartbeats 1000000 in
theorem rinstall_any (w : World) (b : Nat) (F : Nat → Prop) (g : Lg) (s : Nat) (hL : RefAt w b F g) (hs : s < 18446744073709551616) :
    Calls Try.prog 41 #[.pointer (some ⟨b, 0, none⟩), .int .u64 s] w fun e w' => e = .returned (.bool (RM.install g s).1) ∧ RefTo b F w (RM.install g s).2 w' := by
  have Same := hid hL
  obtain ⟨v, us, rl, hI, hp, hok⟩ := hL
  obtain ⟨a0, a1, af, -⟩ := cells2 hI.head
  by_cases h1 : s ≤ g.ap
  · have e : RM.install g s = (false, g) := by unfold RM.install; rw [if_pos (.inl h1)]
    rw [e]
    have t1 : decide (s ≤ g.ap) = true := by simpa using h1
    clear h1 hI hp hok e
    go_enter Try.func41, Try.ntmps41
    go_wp2_with (at_builtin; refine stopAt ?_; intro q hq)
    go_ret
    exact ⟨by rfl, Same.out.to (Keep.refl _ _)⟩
  · have t1 : decide (s ≤ g.ap) = false := by simpa using h1
    by_cases h2 : s = 18446744073709551615
    · have e : RM.install g s = (false, g) := by unfold RM.install; rw [if_pos (.inr h2)]
      rw [e]
      have t2 : ((s : Int) == 18446744073709551615) = true := by rw [beq_iff_eq]; omega
      clear h1 h2 hI hp hok e
      go_enter Try.func41, Try.ntmps41
      go_wp2_with (at_builtin; refine stopAt ?_; intro q hq)
      go_ret
      exact ⟨by rfl, Same.out.to (Keep.refl _ _)⟩
    · have t2 : ((s : Int) == 18446744073709551615) = false := by simp; omega
      have hok2 := hok.install s hs
      have e : RM.install g s = (true, (RM.trim { g with ap := s } s).2) := by unfold RM.install; rw [if_neg (by omega)]
      have hI3 := hI.step s
      have k3 : Keep F w (w.setCell ⟨b, 0, none⟩ (.int .u64 (s : Nat))) := (Keep.refl _ _).setCell (.inl hI.self) _
      have hz3 : (w.setCell ⟨b, 0, none⟩ (.int .u64 (s : Nat))).heap.size = w.heap.size := by simp [World.setCell]
      rw [e] at hok2 ⊢
      have HX := hid (And.intro hI3 (And.intro hp (And.intro hok (And.intro hok2 (And.intro k3 hz3)))))
      clear hI hI3 hp hok hok2 k3 h1 h2 e hz3
      go_enter Try.func41, Try.ntmps41
      go_wp2_with (at_builtin; refine stopAt ?_; intro q hq)
      refine (without_any _ b s F rl v us s HX.out.1 (by have := HX.out.2.1.length_eq; have := HX.out.2.2.1.few; omega)).mono ?_
      rintro e w2 ⟨rfl, F', v', us', h2, h3, h4⟩
      obtain ⟨_, hp, hok, hok2, k3, hz3⟩ := HX.out
      have HR := hid (show RefTo b F w (RM.trim { g with ap := s } s).2 w2 from by
        have hpf := hp.filter (fun e => decide (s < e.1))
        rw [RM.filter_from hok.rising s] at hpf
        refine ⟨F', ⟨v', us', _, h2, ?_, hok2⟩, k3.next h3 (fun _ _ x => x) (fun _ _ x => x), fun k x => by rw [← hz3]; exact h4 k x⟩
        unfold RM.trim
        simp only [Nat.min_self]
        exact hpf)
      clear hp hok hok2 k3 h2 h3 h4 a0 a1 af hz3
      go_wp2_with (at_builtin; refine stopAt ?_; intro q hq)
      go_ret
      exact ⟨by rfl, HR.out⟩
end Go.Proofs.Ytnignhfallhblaa
