/- rlog: entries that come out; a contract for Catch. Conditions: as the contracts name them. -/
import Derived.Test.YtnignhfallhblaaRlogQ
namespace Go.Proofs.Ytnignhfallhblaa
open Go.RowKit
open RM

/-- Entries that their owner has: cells all in G. -/
structure EntsIs (w : World) (v : Value) (es : List Ent) (us : List (Nat × Value)) (G : Nat → Prop) : Prop where
  row : Row w 32 2 v es.length (entsV us)
  keys : us.map (·.1) = es.map (·.1)
  each : ∀ i (hi : i < es.length), ∃ ao c, (us[i]?.map (·.2)) = some (.slice ao es[i].2.length c) ∧ Row w 5 1 (.slice ao es[i].2.length c) es[i].2.length (bytesV es[i].2) ∧ ∀ k, (Value.slice ao es[i].2.length c).ownBlock = some k → G k ∧ v.ownBlock ≠ some k
  own : ∀ k, v.ownBlock = some k → G k
  diff : us.Pairwise fun a b => ∀ k, a.2.ownBlock = some k → b.2.ownBlock ≠ some k

theorem EntsIs.len {w : World} {v : Value} {es : List Ent} {us : List (Nat × Value)} {G : Nat → Prop} (h : EntsIs w v es us G) : us.length = es.length := by
  have := congrArg List.length h.keys
  simpa using this
theorem EntsIs.keep {w w' : World} {v : Value} {es : List Ent} {us : List (Nat × Value)} {G F : Nat → Prop} (h : EntsIs w v es us G) (hk : Keep F w w') (hn : ∀ k, G k → ¬ F k) : EntsIs w' v es us G := by
  refine ⟨h.row.keep hk fun k e => hn _ (h.own k e), h.keys, fun i hi => ?_, h.own, h.diff⟩
  obtain ⟨ao, c, h1, h2, h3⟩ := h.each i hi
  exact ⟨ao, c, h1, h2.keep hk fun k e => hn _ (h3 k e).1, h3⟩
theorem EntsIs.mono {w : World} {v : Value} {es : List Ent} {us : List (Nat × Value)} {G H : Nat → Prop} (h : EntsIs w v es us G) (hm : ∀ k, k < w.heap.size → G k → H k) : EntsIs w v es us H := by
  refine ⟨h.row, h.keys, fun i hi => ?_, fun k e => hm _ (h.row.lt e) (h.own k e), h.diff⟩
  obtain ⟨ao, c, h1, h2, h3⟩ := h.each i hi
  exact ⟨ao, c, h1, h2, fun k e => ⟨hm _ (h2.lt e) (h3 k e).1, (h3 k e).2⟩⟩
theorem EntsIs.nil (w : World) (G : Nat → Prop) : EntsIs w (.slice none 0 0) [] [] G :=
  ⟨Row.nil _ _ _, rfl, fun i hi => by simp at hi, fun k e => by simp [Value.ownBlock] at e, List.Pairwise.nil⟩
theorem EntsIs.slices {w : World} {v : Value} {es : List Ent} {us : List (Nat × Value)} {G : Nat → Prop} (h : EntsIs w v es us G) : ∀ e ∈ us, ∃ ao m c, e.2 = .slice ao m c := fun e he => by
  obtain ⟨i, hi, rfl⟩ := List.getElem_of_mem he
  obtain ⟨ao, c, h1, _⟩ := h.each i (by rw [← h.len]; exact hi)
  rw [List.getElem?_eq_getElem hi] at h1
  exact ⟨ao, _, c, by simpa using h1⟩
theorem EntsIs.ent {w : World} {v : Value} {es : List Ent} {us : List (Nat × Value)} {G : Nat → Prop} (h : EntsIs w v es us G) (i : Nat) (hi : i < es.length) :
    ∃ gr cap ao c, v = .slice (some ⟨gr, 0, none⟩) es.length cap ∧ w.cell? ⟨gr, i * 2, none⟩ = some (.int .u64 (es[i].1 : Nat)) ∧ w.cell? ⟨gr, i * 2 + 1, none⟩ = some (.slice ao es[i].2.length c) ∧ Cells w ao es[i].2.length 1 (bytesV es[i].2) := by
  obtain ⟨ao, c, x1, x2, x3⟩ := h.each i hi
  have hui : i < us.length := by rw [h.len]; exact hi
  obtain ⟨gr, cap, hv, c0, c1⟩ := ent_at h.row i hui
  have hus : us[i].2 = .slice ao es[i].2.length c := by rw [List.getElem?_eq_getElem hui] at x1; simpa using x1
  have hk : us[i].1 = es[i].1 := by
    have hh := congrArg (fun l => l[i]?) h.keys
    simp only [List.getElem?_map, List.getElem?_eq_getElem hui, List.getElem?_eq_getElem hi, Option.map_some, Option.some.injEq] at hh
    exact hh
  rw [hus] at c1
  rw [hk] at c0
  exact ⟨gr, cap, ao, c, hv, c0, c1, Cells.of_row x2⟩
theorem one_ents {us : List (Nat × Value)} (hs : ∀ e ∈ us, ∃ ao m c, e.2 = .slice ao m c) : ∀ x ∈ entsV us, x.oneCell' = true := fun x hx => by
  obtain ⟨e, he, hx⟩ := List.mem_flatMap.1 hx
  obtain ⟨_, _, _, h1⟩ := hs e he
  unfold entV at hx
  rw [h1] at hx
  simp only [List.mem_cons, List.not_mem_nil, or_false] at hx
  rcases hx with rfl | rfl <;> rfl

/-- One entry more, whose bytes are new. -/
theorem EntsIs.snoc {w w1 w2 : World} {v v2 : Value} {es : List Ent} {us : List (Nat × Value)} {G F : Nat → Prop} (h : EntsIs w v es us G) (hk1 : Keep F w w1) (hn : ∀ k, k < w.heap.size → G k → ¬ F k) {ao : Option Addr} {c : Nat} (x : Ent)
    (hu : Row w1 5 1 (.slice ao x.2.length c) x.2.length (bytesV x.2)) (hf : ∀ k, (Value.slice ao x.2.length c).ownBlock = some k → w.heap.size ≤ k) {w3 : World} (hk3 : Keep (fun _ => False) w1 w3) (hk2 : Keep (fun k => v.ownBlock = some k) w3 w2)
    (hr2 : Row w2 32 2 v2 (es.length + 1) (entsV us ++ entV (x.1, .slice ao x.2.length c))) (hv : ∀ k, v2.ownBlock = some k → v.ownBlock = some k ∨ w3.heap.size ≤ k) :
    EntsIs w2 v2 (es ++ [x]) (us ++ [(x.1, .slice ao x.2.length c)]) (fun k => G k ∨ w.heap.size ≤ k) := by
  have hs1 := hk1.size
  have hs3 := hk3.size
  have hlen := h.len
  refine ⟨by rw [List.length_append, entsV_append, entsV_one]; exact hr2, by simp [h.keys], fun i hi => ?_, fun k e => ?_, ?_⟩
  · rw [List.length_append] at hi
    by_cases hie : i < es.length
    · obtain ⟨ao', c', h1, h2, h3⟩ := h.each i hie
      have e1 : (es ++ [x])[i]'(by rw [List.length_append]; exact hi) = es[i] := List.getElem_append_left hie
      simp only [e1]
      refine ⟨ao', c', by rw [List.getElem?_append_left (by omega)]; exact h1, ((h2.keep hk1 fun k e => hn k (h2.lt e) (h3 k e).1).keep hk3 fun _ _ y => y).keep hk2 fun k e => (h3 k e).2, fun k e => ⟨.inl (h3 k e).1, fun y => ?_⟩⟩
      rcases hv k y with z | z
      · exact (h3 k e).2 z
      · have := h2.lt e; omega
    · obtain rfl : i = es.length := by simp at hi; omega
      have e1 : (es ++ [x])[es.length]'(by simp) = x := by simp
      simp only [e1]
      refine ⟨ao, c, by rw [List.getElem?_append_right (by omega), hlen, Nat.sub_self]; rfl, (hu.keep hk3 fun _ _ y => y).keep hk2 fun k e y => ?_, fun k e => ⟨.inr (hf k e), fun y => ?_⟩⟩
      · have := hf k e; have := h.row.lt y; omega
      · have := hf k e
        rcases hv k y with z | z
        · have := h.row.lt z; omega
        · have := hu.lt e; omega
  · rcases hv k e with z | z
    · exact .inl (h.own k z)
    · exact .inr (by omega)
  · rw [List.pairwise_append]
    refine ⟨h.diff, List.pairwise_singleton _ _, fun a ha b hb k e => ?_⟩
    rw [List.mem_singleton] at hb
    subst hb
    obtain ⟨i, hi, rfl⟩ := List.getElem_of_mem ha
    obtain ⟨ao', c', h1, h2, h3⟩ := h.each i (by omega)
    rw [List.getElem?_eq_getElem hi] at h1
    simp only [Option.map_some, Option.some.injEq] at h1
    rw [h1] at e
    intro y
    have := hf k y
    have := h2.lt e
    omega

theorem RM.catch_none {g : Lg} (h : Ok g) {s : Nat} (hk : kept g.l s = none) (most : Int) : catch_ g s most = [] := by
  have h1 := kept_at h.rising s
  rw [hk] at h1
  unfold catch_
  cases hq : g.l[below g.l s]? with
  | none => rw [List.drop_eq_nil_of_le (by simpa using hq)]; rfl
  | some e =>
    obtain ⟨hi, he⟩ := List.getElem?_eq_some_iff.1 hq
    rw [List.drop_eq_getElem_cons hi, he]
    rw [hq] at h1
    simp at h1
    cases most.toNat with
    | zero => rfl
    | succ k => unfold train; rw [if_neg h1]

theorem RM.train_zero : ∀ (l : List Ent) (s : Nat), train l s 0 = []
  | [], _ => rfl
  | _ :: _, _ => rfl

/-- Entries as a result. -/
def Out (w : World) (es : List Ent) (e : Ending) (w' : World) : Prop := ∃ v us, e = .returned v ∧ EntsIs w' v es us (fun k => w.heap.size ≤ k) ∧ Keep (fun _ => False) w w'

structure CatchRel (w : World) (all : List Ent) (rest : List Ent) (es : List Ent) (v : Value) (wr : World) : Prop where
  ex : ∃ us, EntsIs wr v es us (fun k => w.heap.size ≤ k)
  sum : es ++ rest = all
  keep : Keep (fun _ => False) w wr

set_option maxRecDepth 20000 in
set_option maxHeartbeats 1000000 in
theorem catch_any (w : World) (b : Nat) (F : Nat → Prop) (g : Lg) (from_ : Nat) (most : Int) (hL : LogAt w b F g) (hm1 : -9223372036854775808 ≤ most) (hm2 : most ≤ 9223372036854775807) (hfr : from_ ≤ 18446744073709551615) :
    Calls Try.prog 16 #[.pointer (some ⟨b, 0, none⟩), .int .u64 from_, .int .i64 most] w fun e w' => Out w (RM.catch_ g from_ most) e w' := by
  obtain ⟨v, us, hI⟩ := hL
  obtain ⟨ad, cap, rfl, -⟩ := hI.row.form
  have hf := find_any w b F g from_ ⟨_, _, hI⟩
  have HI := hid hI
  have Hf := hid hf
  clear hI hf
  obtain ⟨len, hlen⟩ : ∃ z, z = g.l.length := ⟨_, rfl⟩
  have Hlen := hid hlen
  have hlm : len ≤ 4096 := by rw [hlen]; exact HI.out.ok.few
  clear hlen
  obtain ⟨all, hall⟩ : ∃ z, z = RM.catch_ g from_ most := ⟨_, rfl⟩
  rw [← hall]
  have Hall := hid hall
  have Hnone := hid (show (kept g.l from_).isSome = false → all = [] from fun h => by rw [hall]; exact RM.catch_none HI.out.ok (by cases hq : kept g.l from_ with | none => rfl | some _ => rw [hq] at h; cases h) _)
  clear hall
  obtain ⟨kb, hkb⟩ : ∃ z, z = (kept g.l from_).isSome := ⟨_, rfl⟩
  rw [← hkb] at Hnone Hf
  clear hkb
  go_enter Try.func16, Try.ntmps16
  go_wp2_with (at_builtin; refine stopAt ?_; intro q hq)
  refine Hf.out.mono ?_
  rintro e w2 ⟨rfl, hk2⟩
  have HK2 := hid hk2
  clear hk2
  go_wp2_with (at_builtin; refine stopAt ?_; intro q hq)
  go_loopw [1, 7, 8] (fun sv ov iv wr => ∃ (i s : Nat) (es : List Ent), i ≤ len ∧ s ≤ 18446744073709551615 ∧ es.length ≤ i ∧ sv = .int .u64 s ∧ iv = .int .i64 i ∧ Hid (CatchRel w all (train (g.l.drop i) s (most.toNat - es.length)) es ov wr)) (fun _ _ iv _ => len - (intOf iv).toNat)
  case atStart =>
    refine ⟨below g.l from_, from_, [], by rw [Hlen.out]; exact below_le _ _, hfr, Nat.zero_le _, rfl, rfl, hid ⟨⟨[], EntsIs.nil _ _⟩, by rw [Hall.out]; rfl, HK2.out⟩⟩
  case round =>
    obtain ⟨i, s, es, hil, hs, hni, rfl, rfl, HR⟩ := hrel
    have hI := HI.out.keep HR.out.keep (fun _ _ x => x)
    obtain ⟨a0, a1, af, -⟩ := cells2 hI.head
    rw [← Hlen.out] at a1
    obtain ⟨us2, hE⟩ := HR.out.ex
    obtain ⟨ao2, c2, rfl, -⟩ := hE.row.form
    have hfin : ∀ rest : List Ent, train (g.l.drop i) s (most.toNat - es.length) = rest → rest = [] → ∃ us, EntsIs wr (.slice ao2 es.length c2) all us (fun k => w.heap.size ≤ k) := fun _ h1 h2 => by
      have h3 := HR.out.sum
      rw [h1, h2, List.append_nil] at h3
      rw [← h3]
      exact ⟨us2, hE⟩
    have Hfin := hid hfin
    clear hfin
    cases kb with
    | false =>
      have hall := Hnone.out rfl
      have hfin : ∃ us, EntsIs wr (.slice ao2 es.length c2) all us (fun k => w.heap.size ≤ k) := Hfin.out _ rfl (by
        have h3 := HR.out.sum
        rw [hall] at h3
        exact (List.append_eq_nil_iff.1 h3).2)
      have HX := hid hfin
      clear hfin hall hI hE
      go_wp2_with (at_builtin; refine stopAt ?_; intro q hq)
      go_ret
      obtain ⟨us3, h3⟩ := HX.out
      exact ⟨_, us3, rfl, h3, HR.out.keep⟩
    | true =>
      clear Hnone
      by_cases hlt : i < len
      · have h4 : (i : Int) < len := by omega
        have hl2 : i < g.l.length := by rw [← Hlen.out]; exact hlt
        by_cases hlm2 : (es.length : Int) < most
        · obtain ⟨gr, cap', ao, c, hv, e0, e1, e2, e3⟩ := hI.ent i hl2
          cases hv
          have hsl := (HI.out.ok.slots _ (List.getElem_mem hl2)).2
          have hst : train (g.l.drop i) s (most.toNat - es.length) = if g.l[i].1 = s then g.l[i] :: train (g.l.drop (i + 1)) (s + 1) (most.toNat - (es.length + 1)) else [] := by
            rw [List.drop_eq_getElem_cons hl2, show most.toNat - es.length = (most.toNat - (es.length + 1)) + 1 by omega]; rfl
          have hvl := HI.out.ok.vals _ (List.getElem_mem hl2)
          obtain ⟨x, hx⟩ : ∃ x, x = g.l[i] := ⟨_, rfl⟩
          rw [← hx] at e0 e1 e2 e3 hsl hst hvl
          obtain ⟨xs, hxs⟩ : ∃ z, z = x.1 := ⟨_, rfl⟩
          obtain ⟨xn, hxn⟩ : ∃ z, z = x.2.length := ⟨_, rfl⟩
          have Hx := hid (And.intro hxs hxn)
          simp only [← hxs, ← hxn] at e0 e1 e2 e3 hsl hst hvl
          have hown := fun w1 h => own_ent w1 xs ao xn c x.2 h (by omega)
          have Hown := hid (And.intro e2 hown)
          have Hst := hid hst
          have HE := hid (And.intro hE hI)
          clear hst hI e2 e3 hx hxs hxn hown hE
          by_cases hxs : xs = s
          · have Hst := hid ((Hst.out).trans (if_pos hxs))
            subst hxs
            go_wp2_with (at_builtin; refine stopAt ?_; intro q hq)
            refine (Hown.out.2 wr Hown.out.1).mono ?_
            rintro e w4 ⟨ao4, c4, rfl, hr4, hf4, hk4⟩
            have HY := hid (And.intro hr4 (And.intro hf4 hk4))
            clear hr4 hf4 hk4 a0 a1 af e0 e1
            go_wp2_with (at_builtin; refine stopAt ?_; intro q hq)
            (refine hq.out ?_; clear hq q)
            obtain ⟨hr4, hf4, hk4⟩ := HY.out
            obtain ⟨hE, hI⟩ := HE.out
            have hG := heap_alloc_new w4 (.cells #[.int .u64 (xs : Nat), .slice ao4 xn c4] 32)
            have kG : Keep (fun _ => False) w4 (w4.alloc (.cells #[.int .u64 (xs : Nat), .slice ao4 xn c4] 32)) := (Keep.refl _ _).alloc _
            obtain ⟨w5, hw5⟩ : ∃ w5, w5 = w4.alloc (.cells #[.int .u64 (xs : Nat), .slice ao4 xn c4] 32) := ⟨_, rfl⟩
            rw [← hw5] at hG kG ⊢
            have hev : Cells w5 (some ⟨w4.heap.size, 0, none⟩) 1 2 (entV (xs, .slice ao4 xn c4)) := ⟨rfl, fun _ => ⟨_, rfl, fun j u hu => by rw [addr_add, Nat.zero_add, cell_of_row _ _ _ _ _ _ hG]; simpa [entV] using hu⟩⟩
            have hr5 := (hE.row.keep hk4 fun _ _ x => x).keep kG fun _ _ x => x
            refine wpList_plain rfl (fun K hK => ?_)
            refine wp_append (v := .slice ao2 es.length c2) ty_ents (.tmp 46) (.tmp 55) rfl rfl hr5 (some ⟨w4.heap.size, 0, none⟩) 1 1 (entV (xs, .slice ao4 xn c4)) rfl hev (one_ents (us := [(xs, .slice ao4 xn c4)]) (fun e he => by rw [List.mem_singleton] at he; subst he; exact ⟨_, _, _, rfl⟩)) (by unfold maxLen; omega) (by omega) ?_
            intro v6 w6 hr6 hk6 hv6
            refine hK _ _ ?_
            clear hK K
            have hS : EntsIs w6 v6 (es ++ [x]) (us2 ++ [(x.1, .slice ao4 x.2.length c4)]) (fun k => w.heap.size ≤ k) := by
              obtain ⟨h1, h2⟩ := Hx.out
              rw [h1] at hr6
              rw [h2] at hr6 hr4 hf4
              refine (EntsIs.snoc hE hk4 (fun _ _ _ y => y) x hr4 hf4 kG hk6 hr6 fun k e => ?_).mono fun k _ y => y.elim id fun z => Nat.le_trans HR.out.keep.size z
              rcases hv6 with ⟨y, z⟩ | ⟨k', y, z⟩
              · exact absurd z (by omega)
              · rw [e] at y
                cases y
                exact z.imp id fun q => Nat.le_of_eq q.symm
            have hkk : Keep (fun _ => False) w w6 := ((HR.out.keep.next hk4 (fun _ _ x => x) (fun _ _ x => x)).next kG (fun _ _ x => x) (fun _ _ x => x)).next hk6 (fun _ _ x => x) (fun k hk y => by have := hE.own k y; omega)
            have HRS := hid (show CatchRel w all (train (g.l.drop (i + 1)) (xs + 1) (most.toNat - (es ++ [x]).length)) (es ++ [x]) v6 w6 from ⟨⟨_, hS⟩, by
              have h1 := HR.out.sum
              rw [Hst.out] at h1
              rw [← h1, List.append_assoc, List.length_append]
              rfl, hkk⟩)
            obtain ⟨ao6, c6, rfl, -⟩ := hr6.form
            clear hS hkk hr6 hk6 hv6 hr5 hev hG kG hw5 hr4 hf4 hk4 hE hI
            go_wp2_with (at_builtin; refine stopAt ?_; intro q hq)
            exact ⟨⟨i + 1, xs + 1, es ++ [x], by omega, by omega, by rw [List.length_append]; simp; omega, by go_num, by go_num, HRS⟩, by simp [intOf]; omega⟩
          · have Hst := hid ((Hst.out).trans (if_neg hxs))
            have t1 : ((xs : Int) == (s : Int)) = false := by simp; omega
            clear hxs
            have HX := hid (Hfin.out _ Hst.out rfl)
            go_wp2_with (at_builtin; refine stopAt ?_; intro q hq)
            go_ret
            obtain ⟨us3, h3⟩ := HX.out
            exact ⟨_, us3, rfl, h3, HR.out.keep⟩
        · have t1 : decide ((es.length : Int) < most) = false := by simp; omega
          have HX := hid (Hfin.out _ (show train (g.l.drop i) s (most.toNat - es.length) = [] by rw [show most.toNat - es.length = 0 by omega, RM.train_zero]) rfl)
          clear hI hE hlm2
          go_wp2_with (at_builtin; refine stopAt ?_; intro q hq)
          go_ret
          obtain ⟨us3, h3⟩ := HX.out
          exact ⟨_, us3, rfl, h3, HR.out.keep⟩
      · have t2 : decide ((i : Int) < (len : Int)) = false := by simp; omega
        obtain rfl : i = len := by omega
        have HX := hid (Hfin.out _ (show train (g.l.drop i) s (most.toNat - es.length) = [] by rw [List.drop_eq_nil_of_le (by have := Hlen.out; omega)]; rfl) rfl)
        clear hI hE hlt
        go_wp2_with (at_builtin; refine stopAt ?_; intro q hq)
        go_ret
        obtain ⟨us3, h3⟩ := HX.out
        exact ⟨_, us3, rfl, h3, HR.out.keep⟩
end Go.Proofs.Ytnignhfallhblaa
