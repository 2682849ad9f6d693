/- seawalllaw12.RlogOrder's walk. Conditions: as the contract names them. -/
import Derived.Test.YtnignhfallhblaaRlogF
namespace Go.Proofs.Ytnignhfallhblaa
open Go.RowKit
open RM

theorem RM.learn_add {g : Lg} {s : Nat} {v : List UInt8} (h0 : (RM.learn g s v).1 = 0) (h1 : g.ap < s) (h2 : ¬ Has g.l s) : (RM.learn g s v).2 = { g with l := ins g.l s v } := by
  unfold RM.learn at h0 ⊢
  split at h0
  · simp at h0
  · rename_i c1
    rw [if_neg c1]
    split at h0
    · simp at h0
    · rename_i c2
      rw [if_neg c2]
      rw [kept_none.2 h2] at h0 ⊢
      simp only at h0 ⊢
      rw [if_neg (by omega)] at h0 ⊢
      split at h0
      · simp at h0
      · rename_i c3
        rw [if_neg c3]
theorem RM.learn_same {g : Lg} {s : Nat} {v : List UInt8} (h : (RM.learn g s v).1 ≠ 0 ∨ s ≤ g.ap ∨ Has g.l s) : (RM.learn g s v).2 = g := by
  unfold RM.learn at h ⊢
  split
  · rfl
  · rename_i c1
    rw [if_neg c1] at h
    split
    · rfl
    · rename_i c2
      rw [if_neg c2] at h
      cases hk : kept g.l s with
      | some u => simp only; split <;> rfl
      | none =>
        rw [hk] at h
        simp only at h ⊢
        split
        · rfl
        · rename_i c3
          rw [if_neg c3] at h
          split
          · rfl
          · rename_i c4
            rw [if_neg c4] at h
            simp only [ne_eq, not_true_eq_false, false_or] at h
            rcases h with h | h
            · exact absurd h c3
            · exact absurd h (kept_none.1 hk)
theorem RM.learn_short {g : Lg} {s : Nat} {v : List UInt8} (h0 : (RM.learn g s v).1 = 0) : v.length ≤ 100 := by
  unfold RM.learn at h0
  split at h0
  · simp at h0
  · split at h0
    · simp at h0
    · omega

/-- Entries whose bytes were given. -/
structure Firsts (w wr : World) (v : Value) (fs : List Ent) (us : List (Nat × Value)) : Prop where
  row : Row wr 32 2 v us.length (entsV us)
  len : us.length = fs.length
  each : ∀ i (hi : i < fs.length), ∃ ao c, us[i]? = some (fs[i].1, .slice ao fs[i].2.length c) ∧ Cells w ao fs[i].2.length 1 (bytesV fs[i].2)
theorem Firsts.keep {w wr w' : World} {v : Value} {fs : List Ent} {us : List (Nat × Value)} {F : Nat → Prop} (h : Firsts w wr v fs us) (hk : Keep F wr w') (hn : ∀ k, v.ownBlock = some k → ¬ F k) : Firsts w w' v fs us :=
  ⟨h.row.keep hk hn, h.len, h.each⟩
theorem Firsts.snoc {w wr w' : World} {v v' : Value} {fs : List Ent} {us : List (Nat × Value)} (h : Firsts w wr v fs us) (s : Nat) (bs : List UInt8) {ao : Option Addr} {c : Nat} (hb : Cells w ao bs.length 1 (bytesV bs))
    (hr : Row w' 32 2 v' (us.length + 1) (entsV us ++ entV (s, .slice ao bs.length c))) : Firsts w w' v' (fs ++ [(s, bs)]) (us ++ [(s, .slice ao bs.length c)]) := by
  refine ⟨by rw [entsV_append, entsV_one, List.length_append]; exact hr, by simp [h.len], fun i hi => ?_⟩
  rw [List.length_append, List.length_singleton] at hi
  rcases Nat.lt_or_eq_of_le (Nat.le_of_lt_succ hi) with x | x
  · obtain ⟨ao', c', h1, h2⟩ := h.each i x
    rw [List.getElem_append_left x, List.getElem?_append_left (by rw [h.len]; exact x)]
    exact ⟨ao', c', h1, h2⟩
  · subst x
    have e : (fs ++ [(s, bs)])[fs.length]'(by simp) = (s, bs) := by simp
    rw [e]
    refine ⟨ao, c, ?_, hb⟩
    rw [← h.len]
    simp
theorem Firsts.one {w wr : World} {v : Value} {fs : List Ent} {us : List (Nat × Value)} (h : Firsts w wr v fs us) : ∀ x ∈ entsV us, x.oneCell' = true := one_ents fun e he => by
  obtain ⟨i, hi, rfl⟩ := List.getElem_of_mem he
  obtain ⟨ao, c, h1, _⟩ := h.each i (by rw [← h.len]; exact hi)
  rw [List.getElem?_eq_getElem hi, Option.some.injEq] at h1
  rw [h1]
  exact ⟨_, _, _, rfl⟩
theorem Firsts.get {w wr : World} {v : Value} {fs : List Ent} {us : List (Nat × Value)} (h : Firsts w wr v fs us) (i : Nat) (hi : i < us.length) : us[i].1 = (fs[i]'(by rw [← h.len]; exact hi)).1 := by
  obtain ⟨ao, c, h1, _⟩ := h.each i (by rw [← h.len]; exact hi)
  rw [List.getElem?_eq_getElem hi, Option.some.injEq] at h1
  rw [h1]

structure ORel (w : World) (a : Nat) (v : Value) (n t : Nat) (wr : World) : Prop where
  ex : ∃ A g fs us, LogAt wr a A g ∧ (∀ k, A k → w.heap.size ≤ k) ∧ Keep (fun _ => False) w wr ∧ g.ap = t ∧ Firsts w wr v fs us ∧ us.length = n ∧ (∀ k, v.ownBlock = some k → w.heap.size ≤ k ∧ ¬ A k) ∧ (∀ e, e ∈ fs ↔ e ∈ g.l)

theorem ORel.read {w wr w' : World} {a n t : Nat} {v : Value} (h : ORel w a v n t wr) (hk : Keep (fun _ => False) wr w') : ORel w a v n t w' := by
  obtain ⟨A, g, fs, us, hL, hA, hK, hgt, hF, hun, hfo, hmem⟩ := h.ex
  exact ⟨A, g, fs, us, hL.read hk, hA, hK.next hk (fun _ _ y => y) (fun _ _ y => y), hgt, hF.keep hk fun _ _ y => y, hun, hfo, hmem⟩

theorem cells3 {w : World} {b : Nat} {T : TypeId} {a0 a1 a2 : Value} (H : w.heap[b]? = some (.cells #[a0, a1, a2] T (0, 0))) :
    w.cell? ⟨b, 0, none⟩ = some a0 ∧ w.cell? ⟨b, 1, none⟩ = some a1 ∧ w.cell? ⟨b, 2, none⟩ = some a2 ∧ (∀ o, w.frozen? ⟨b, o, none⟩ = false) ∧ b < w.heap.size := by
  refine ⟨?_, ?_, ?_, ?_, heap_lt H⟩ <;> simp [World.cell?, World.frozen?, H]

set_option maxRecDepth 20000 in
set_option maxHeartbeats 4000000 in
theorem order_walk (w : World) (v0 : Value) (L : List ActL) (h0 : Acts w v0 L) :
    Calls Try.prog 5 #[v0] w fun e w' => e = .returned (.bool true) ∧ Keep (fun _ => False) w w' := by
  obtain ⟨ao0, c0, rfl, hc0, hm0⟩ := h0.form
  have H0 := hid h0
  clear h0
  obtain ⟨m, hm⟩ : ∃ m, m = L.length := ⟨_, rfl⟩
  rw [← hm] at H0 hc0 ⊢
  have Hm := hid hm
  have hmm : m ≤ maxLen := by omega
  have hm63 : (m : Int) ≤ 9223372036854775807 := by unfold maxLen at hmm; omega
  clear hm hm0 hc0
  go_enter Try.func5, Try.ntmps5
  go_wp2_with (at_builtin; refine stopAt ?_; intro q hq)
  refine (long_any w w ao0 m c0 L H0.out (Keep.refl _ _) Hm.out hmm).mono ?_
  rintro e w1 ⟨bl, rfl, hk1⟩
  have HK1 := hid hk1
  clear hk1
  cases bl with
  | true =>
    go_wp2_with (at_builtin; refine stopAt ?_; intro q hq)
    refine (known_any _).mono ?_
    rintro e w9 ⟨rfl, hk9⟩
    have HK := hid (HK1.out.next hk9 (fun _ _ x => x) (fun _ _ x => x))
    clear hk9
    go_wp2_with (at_builtin; refine stopAt ?_; intro q hq)
    go_ret
    exact ⟨by first | rfl | trivial, HK.out⟩
  | false =>
    go_wp2_with (at_builtin; refine stopAt ?_; intro q hq)
    refine (new_any w1).mono ?_
    rintro e w2 ⟨a, A, rfl, hLa, hka, hA⟩
    have HS := hid (show ORel w a (.slice none 0 0) 0 0 w2 from ⟨A, _, [], [], hLa, fun k h => Nat.le_trans HK1.out.size (hA k h), HK1.out.next hka (fun _ _ x => x) (fun _ _ x => x), rfl,
      ⟨Row.nil _ _ _, rfl, fun i hi => by simp at hi⟩, rfl, fun k e => by simp [Value.ownBlock] at e, fun e => Iff.rfl⟩)
    clear hLa hka hA HK1
    go_wp2_with (at_builtin; refine stopAt ?_; intro q hq)
    go_loopw [4, 5, 6, 7, 8, 9, 10, 11] (fun tv fv iv _ _ _ _ _ wr => ∃ i t n : Nat, i ≤ m ∧ i ≤ 200 ∧ t ≤ i ∧ n ≤ i ∧ iv = .int .i64 i ∧ tv = .int .u64 t ∧ Hid (ORel w a fv n t wr)) (fun _ _ iv _ _ _ _ _ _ => m - (intOf iv).toNat)
    case atStart => exact ⟨0, 0, 0, Nat.zero_le _, Nat.zero_le _, Nat.le_refl _, Nat.le_refl _, rfl, rfl, HS⟩
    case round =>
      clear HS
      obtain ⟨i, t, n, hi, hi2, ht, hn, rfl, rfl, HS⟩ := hrel
      have hfin : ORel w a u5 n t wr → Keep (fun _ => False) w wr := fun h => by obtain ⟨_, _, _, _, _, _, h, _⟩ := h.ex; exact h
      by_cases hgo : i < m ∧ i < 200
      · have q1 : (i : Int) < m := by omega
        have q2 : (i : Int) < 200 := by omega
        obtain ⟨A, g, fs, us, hL, hA, hK, hgt, hF, hun, hfo, hmem⟩ := HS.out.ex
        obtain ⟨ad, bo, d, rfl, hrow, hb, hkind, hsl, hvl⟩ := Acts.row H0.out hK i (by rw [← Hm.out]; exact hgo.1)
        obtain ⟨x, hx⟩ : ∃ x, x = L[i]'(by rw [← Hm.out]; exact hgo.1) := ⟨_, rfl⟩
        rw [← hx] at hrow hb hkind hsl hvl
        obtain ⟨kd, hkd⟩ : ∃ k, k = x.kind := ⟨_, rfl⟩
        obtain ⟨sl, hsl2⟩ : ∃ k, k = x.slot := ⟨_, rfl⟩
        obtain ⟨bs, hbs⟩ : ∃ k, k = x.value := ⟨_, rfl⟩
        rw [← hkd] at hrow hkind
        rw [← hsl2] at hrow hsl
        rw [← hbs] at hrow hb hvl
        clear hx hkd hsl2 hbs
        have Hrow := hid hrow
        have HX := hid (And.intro hL (And.intro hA (And.intro hK (And.intro hgt (And.intro hF (And.intro hun (And.intro hfo (And.intro hmem hb))))))))
        obtain ⟨s, hs⟩ : ∃ s, s = sl % 40 := ⟨_, rfl⟩
        have hs40 : s < 40 := by omega
        have q3 : (sl : Int) % 40 = (s : Int) := by omega
        obtain ⟨bl, hbl⟩ : ∃ bl, bl = bs.length := ⟨_, rfl⟩
        have Hbl := hid hbl
        have hvl2 : bl ≤ 9223372036854775807 := by unfold maxLen at hvl; omega
        rw [← hbl] at Hrow
        obtain ⟨hkd1, hkd2⟩ := hkind
        obtain ⟨hgo1, hgo2⟩ := hgo
        clear hrow hL hA hK hgt hF hun hfo hmem hb hs hfin hvl hbl
        by_cases hk3 : kd ≤ 3
        · have q4 : decide (kd ≤ 3) = true := by simpa using hk3
          go_wp2_with (first | (at_builtin; refine stopAt ?_; intro q hq) | (refine stopOp (.load 47 _) rfl ?_; intro q hq))
          (refine hq.out ?_; clear hq q)
          refine wpList_plain rfl (fun K hK => ?_)
          refine wp_load_any 47 (.tmp 30) rfl (ad.add (i * 3)) rfl _ Hrow.out _ Try.underlying47 rfl (by kernel_rfl) ?_
          refine hK _ _ ?_
          clear hK K
          go_wp2_with (at_builtin; refine stopAt ?_; intro q hq)
          have hE := heap_alloc_new wr (.cells #[.int .i64 kd, .int .u64 (s : Nat), .slice bo bl d] 47)
          have kE : Keep (fun _ => False) wr (wr.alloc (.cells #[.int .i64 kd, .int .u64 (s : Nat), .slice bo bl d] 47)) := (Keep.refl _ _).alloc _
          obtain ⟨wE, hwE⟩ : ∃ wE, wE = wr.alloc (.cells #[.int .i64 kd, .int .u64 (s : Nat), .slice bo bl d] 47) := ⟨_, rfl⟩
          rw [← hwE] at hE kE ⊢
          obtain ⟨E, he⟩ : ∃ E, E = wr.heap.size := ⟨_, rfl⟩
          rw [← he] at hE ⊢
          obtain ⟨hL, hA, hK, hgt, hF, hun, hfo, hmem, hb⟩ := HX.out
          rw [← Hbl.out] at hb
          refine (learn_any wE a A g s bo bl d bs (hL.read kE) ((hb.keep hK fun _ _ x => x).keep kE fun _ _ x => x) (by omega) (by omega)).mono ?_
          rintro e w3 ⟨rfl, ht3⟩
          obtain ⟨A3, hL3, S3⟩ := ht3.step
          have hEA : ¬ A E := fun h => by have := hL.lt E h; omega
          have hE3 := S3.keep.get hE hEA
          have hA3 : ∀ k, A3 k → w.heap.size ≤ k := fun k h => by
            rcases Nat.lt_or_ge k wE.heap.size with y | y
            · exact hA k (S3.sub k y h)
            · have := hK.size; have := kE.size; omega
          have hF3 := (hF.keep kE fun _ _ y => y).keep S3.keep fun k e => (hfo k e).2
          have hfo3 : ∀ k, u5.ownBlock = some k → w.heap.size ≤ k ∧ ¬ A3 k := fun k e => ⟨(hfo k e).1, fun h => (hfo k e).2 (S3.sub k (Nat.lt_of_lt_of_le (hF.row.lt e) kE.size) h)⟩
          have hK3 : Keep (fun _ => False) w w3 := (hK.next kE (fun _ _ y => y) (fun _ _ y => y)).next S3.keep (fun _ _ y => y) (fun k hk y => by have := hA k y; omega)
          have hhas : Has g.l s ↔ ∃ i : Nat, ∃ hi : i < us.length, us[i].1 = s := by
            constructor
            · rintro ⟨v, hv⟩
              obtain ⟨k, hk, e⟩ := List.getElem_of_mem ((hmem _).2 hv)
              exact ⟨k, by rw [hF.len]; exact hk, by rw [hF.get k (by rw [hF.len]; exact hk), e]⟩
            · rintro ⟨k, hk, e⟩
              refine ⟨(fs[k]'(by rw [← hF.len]; exact hk)).2, (hmem _).1 ?_⟩
              rw [← e, hF.get k hk]
              exact List.getElem_mem _
          have hsame : ((RM.learn g s bs).1 ≠ 0 ∨ s ≤ g.ap ∨ Has g.l s) → ORel w a u5 n t w3 := fun h => by
            rw [RM.learn_same h] at hL3
            exact ⟨A3, g, fs, us, hL3, hA3, hK3, hgt, hF3, hun, hfo3, hmem⟩
          obtain ⟨r, hr⟩ : ∃ r, r = (RM.learn g s bs).1 := ⟨_, rfl⟩
          have hadd := RM.learn_add (g := g) (s := s) (v := bs)
          rw [← hr] at hsame hadd ⊢
          have HY := hid (And.intro hL3 (And.intro hA3 (And.intro hK3 (And.intro hgt (And.intro hF3 (And.intro hun (And.intro hfo3 (And.intro hmem (And.intro hb (And.intro hhas (And.intro hsame (And.intro hadd hE3))))))))))))
          obtain ⟨b0, b1, b2, -⟩ := cells3 hE3
          obtain ⟨aof, cf, hvf, -⟩ := hF3.row.form
          rw [hun] at hvf
          subst hvf
          rw [hgt] at hsame
          have Hs := hid hsame
          clear hE kE hwE he hL hA hK hgt hF hun hfo hmem hb ht3 hL3 S3 hEA hE3 hA3 hF3 hfo3 hK3 hhas hsame hr hadd HX Hrow
          by_cases hr0 : r = 0
          · subst hr0
            by_cases h1 : t < s
            · have q5 : decide (t < s) = true := by simpa using h1
              have q5' : decide ((t : Int) < (s : Int)) = true := by simp; omega
              go_wp2_with (at_builtin; refine stopAt ?_; intro q hq)
              obtain ⟨hL3, hA3, hK3, hgt, hF3, hun, hfo3, hmem, hb, hhas, hsame, hadd, hE3⟩ := HY.out
              refine (findl_any w3 aof n cf us s (by have := hF3.row; rw [hun] at this; exact this) hun.symm (by omega)).mono ?_
              rintro e w4 ⟨z, rfl, hz, hk4⟩
              rcases hz with ⟨rfl, hz⟩ | ⟨k, hk, rfl, hz⟩
              · have hno : ¬ Has g.l s := fun h => by obtain ⟨i, hi, e⟩ := hhas.1 h; exact hz i hi e
                rw [hadd (by first | trivial | rfl) (by omega) hno] at hL3
                have HU := hid (And.intro (hL3.read hk4) (And.intro hA3 (And.intro (hK3.next hk4 (fun _ _ y => y) (fun _ _ y => y)) (And.intro hgt (And.intro (hF3.keep hk4 fun _ _ y => y) (And.intro hun (And.intro hfo3 (And.intro hmem hb))))))))
                obtain ⟨b0, b1, b2, -⟩ := cells3 (hk4.get hE3 id)
                clear HY Hs hL3 hA3 hK3 hgt hF3 hun hfo3 hmem hb hhas hsame hadd hE3 hk4 hz hno
                go_wp2_with (at_builtin; refine stopAt ?_; intro q hq)
                (refine hq.out ?_; clear hq q)
                obtain ⟨hL4, hA4, hK4, hgt, hF4, hun, hfo4, hmem, hb⟩ := HU.out
                have hB := heap_alloc_new w4 (.cells #[.int .u64 (s : Nat), .slice bo bl d] 32)
                have kB : Keep (fun _ => False) w4 (w4.alloc (.cells #[.int .u64 (s : Nat), .slice bo bl d] 32)) := (Keep.refl _ _).alloc _
                obtain ⟨wB, hwB⟩ : ∃ wB, wB = w4.alloc (.cells #[.int .u64 (s : Nat), .slice bo bl d] 32) := ⟨_, rfl⟩
                rw [← hwB] at hB kB ⊢
                have hev : Cells wB (some ⟨w4.heap.size, 0, none⟩) 1 2 (entV (s, .slice bo bl d)) := ⟨rfl, fun _ => ⟨_, rfl, fun j u hu => by rw [addr_add, Nat.zero_add, cell_of_row _ _ _ _ _ _ hB]; simpa [entV] using hu⟩⟩
                have hr4 := (hF4.keep kB fun _ _ y => y).row
                rw [hun] at hr4
                refine wpList_plain rfl (fun K hK => ?_)
                refine wp_append (v := .slice aof n cf) ty_ents (.tmp 60) (.tmp 66) rfl rfl hr4 (some ⟨w4.heap.size, 0, none⟩) 1 1 (entV (s, .slice bo bl d)) rfl hev (one_ents (us := [(s, .slice bo bl d)]) (fun e he => by rw [List.mem_singleton] at he; subst he; exact ⟨_, _, _, rfl⟩)) (by unfold maxLen; omega) (by omega) ?_
                intro v6 w6 hr6 hk6 hv6
                refine hK _ _ ?_
                clear hK K
                have HZ := hid (show ORel w a v6 (n + 1) t w6 from by
                  have hbs := Hbl.out
                  subst hbs
                  rw [← hun] at hr6
                  refine ⟨A3, _, fs ++ [(s, bs)], us ++ [(s, .slice bo bs.length d)], (hL4.read kB).keep hk6 fun k h y => (hfo4 k y).2 h, hA4, (hK4.next kB (fun _ _ y => y) (fun _ _ y => y)).next hk6 (fun _ _ y => y) (fun k hk y => by have := (hfo4 k y).1; omega), hgt,
                    (hF4.keep kB fun _ _ y => y).snoc s bs hb hr6, by simp [hun], fun k e => ?_, fun e => ?_⟩
                  · rcases hv6 with ⟨y, z⟩ | ⟨k', y, z⟩
                    · exact absurd z (by omega)
                    · rw [e] at y
                      cases y
                      rcases z with z | z
                      · exact hfo4 k z
                      · have := hK4.size; have := kB.size
                        exact ⟨by omega, fun h => by have := hL4.lt k h; omega⟩
                  · rw [List.mem_append, List.mem_singleton, hmem]
                    exact mem_ins_iff.symm)
                obtain ⟨ao6, c6, rfl, -⟩ := hr6.form
                clear HU hL4 hA4 hK4 hgt hF4 hun hfo4 hmem hb hB kB hwB hev hr4 hr6 hk6 hv6
                go_wp2_with (at_builtin; refine stopAt ?_; intro q hq)
                go_roundw
                case rel => exact ⟨i + 1, t, n + 1, by omega, by omega, by omega, by omega, by go_num, rfl, HZ⟩
                case measure => simp [intOf]; omega
              · have HZ0 := hsame (.inr (.inr (hhas.2 ⟨k, hk, hz⟩)))
                have HZ := hid (show ORel w a (.slice aof n cf) n t w4 from HZ0.read hk4)
                have q6 : decide ((k : Int) < 0) = false := by simp
                clear HY Hs hL3 hA3 hK3 hgt hF3 hun hfo3 hmem hb hhas hsame hadd hE3 hk4 hz HZ0 b0 b1 b2
                go_wp2_with (at_builtin; refine stopAt ?_; intro q hq)
                go_roundw
                case rel => exact ⟨i + 1, t, n, by omega, by omega, by omega, by omega, by go_num, rfl, HZ⟩
                case measure => simp [intOf]; omega
            · have HZ := hid (Hs.out (.inr (.inl (by omega))))
              have q5 : decide (t < s) = false := by simp; omega
              have q5' : decide ((t : Int) < (s : Int)) = false := by simp; omega
              clear Hs HY
              go_wp2_with (at_builtin; refine stopAt ?_; intro q hq)
              go_roundw
              case rel => exact ⟨i + 1, t, n, by omega, by omega, by omega, by omega, by go_num, rfl, HZ⟩
              case measure => simp [intOf]; omega
          · have HZ := hid (Hs.out (.inl hr0))
            have q5 : ((r : Int) == 0) = false := by simp; omega
            clear Hs HY
            go_wp2_with (at_builtin; refine stopAt ?_; intro q hq)
            go_roundw
            case rel => exact ⟨i + 1, t, n, by omega, by omega, by omega, by omega, by go_num, rfl, HZ⟩
            case measure => simp [intOf]; omega
        · have q4 : decide (kd ≤ 3) = false := by simpa using hk3
          go_wp2_with (first | (at_builtin; refine stopAt ?_; intro q hq) | (refine stopOp (.load 47 _) rfl ?_; intro q hq))
          (refine hq.out ?_; clear hq q)
          refine wpList_plain rfl (fun K hK => ?_)
          refine wp_load_any 47 (.tmp 30) rfl (ad.add (i * 3)) rfl _ Hrow.out _ Try.underlying47 rfl (by kernel_rfl) ?_
          refine hK _ _ ?_
          clear hK K
          go_wp2_with (at_builtin; refine stopAt ?_; intro q hq)
          have hE := heap_alloc_new wr (.cells #[.int .i64 kd, .int .u64 (s : Nat), .slice bo bl d] 47)
          have kE : Keep (fun _ => False) wr (wr.alloc (.cells #[.int .i64 kd, .int .u64 (s : Nat), .slice bo bl d] 47)) := (Keep.refl _ _).alloc _
          obtain ⟨wE, hwE⟩ : ∃ wE, wE = wr.alloc (.cells #[.int .i64 kd, .int .u64 (s : Nat), .slice bo bl d] 47) := ⟨_, rfl⟩
          rw [← hwE] at hE kE ⊢
          obtain ⟨E, he⟩ : ∃ E, E = wr.heap.size := ⟨_, rfl⟩
          rw [← he]
          clear hwE hE
          obtain ⟨hL, hA, hK, hgt, hF, hun, hfo, hmem, hb⟩ := HX.out
          refine (apply_any wE a A g (hL.read kE)).mono ?_
          rintro e w3 ⟨hap, hL3, hk3⟩
          have hF3 := (hF.keep kE fun _ _ y => y).keep hk3 fun k e => (hfo k e).2
          have hK3 : Keep (fun _ => False) w w3 := (hK.next kE (fun _ _ y => y) (fun _ _ y => y)).next hk3 (fun _ _ y => y) (fun k hk y => by have := hA k y; omega)
          have hhas : Has g.l (t + 1) ↔ ∃ i : Nat, ∃ hi : i < us.length, us[i].1 = t + 1 := by
            constructor
            · rintro ⟨v, hv⟩
              obtain ⟨k, hk, e⟩ := List.getElem_of_mem ((hmem _).2 hv)
              exact ⟨k, by rw [hF.len]; exact hk, by rw [hF.get k (by rw [hF.len]; exact hk), e]⟩
            · rintro ⟨k, hk, e⟩
              refine ⟨(fs[k]'(by rw [← hF.len]; exact hk)).2, (hmem _).1 ?_⟩
              rw [← e, hF.get k hk]
              exact List.getElem_mem _
          obtain ⟨aof, cf, hvf, -⟩ := hF3.row.form
          rw [hun] at hvf
          subst hvf
          have q6 : t + 1 ≤ 18446744073709551615 := by omega
          cases hq : (RM.apply g).1 with
          | none =>
            rw [hq] at hap
            change e = _ at hap
            subst hap
            have hno : ¬ Has g.l (t + 1) := by
              rw [← hgt, ← kept_none]
              unfold RM.apply at hq
              cases hk : kept g.l (g.ap + 1) with
              | none => rfl
              | some u => rw [hk] at hq; cases hq
            rw [RM.apply_none hq] at hL3
            have HZ := hid (show ORel w a (.slice aof n cf) n t w3 from ⟨A, g, fs, us, hL3, hA, hK3, hgt, hF3, hun, hfo, hmem⟩)
            have HN := hid (fun h => hno (hhas.2 h))
            have HF3 := hid hF3
            have Hun := hid hun
            clear hq hno hhas hL3 hk3 hF3 hK3 hL hA hK hgt hF hun hfo hmem hb HX Hrow kE he
            go_wp2_with (at_builtin; refine stopAt ?_; intro q hq)
            have kY : Keep (fun _ => False) w3 (w3.alloc (.cells #[.int .u64 0, .slice none 0 0] 32)) := (Keep.refl _ _).alloc _
            obtain ⟨wY, hwY⟩ : ∃ wY, wY = w3.alloc (.cells #[.int .u64 0, .slice none 0 0] 32) := ⟨_, rfl⟩
            rw [← hwY] at kY ⊢
            have HZ := hid (HZ.out.read kY)
            have HF3 := hid (HF3.out.keep kY fun _ _ y => y)
            clear kY hwY
            rw [show ((t : Nat) : Int) + 1 = ((t + 1 : Nat) : Int) by omega]
            refine (findl_any wY aof n cf us (t + 1) (by have := HF3.out.row; rw [Hun.out] at this; exact this) Hun.out.symm (by omega)).mono ?_
            rintro e w4 ⟨z, rfl, hz, hk4⟩
            obtain rfl : z = -1 := by
              rcases hz with ⟨rfl, -⟩ | ⟨k, hk, -, hz⟩
              · rfl
              · exact absurd ⟨k, hk, hz⟩ HN.out
            have HZ := hid (HZ.out.read hk4)
            clear hz hk4 HF3 HN
            go_wp2_with (at_builtin; refine stopAt ?_; intro q hq)
            obtain ⟨A, g, fs, us, hL, hA, hK, hgt, hF, hun, hfo, hmem⟩ := HZ.out.ex
            refine (applied_any w4 a A g hL).mono ?_
            rintro e w5 ⟨rfl, hk5⟩
            have HZ := hid (HZ.out.read hk5)
            rw [hgt]
            clear hL hA hK hgt hF hun hfo hmem hk5
            go_wp2_with (at_builtin; refine stopAt ?_; intro q hq)
            go_roundw
            case rel => exact ⟨i + 1, t, n, by omega, by omega, by omega, by omega, by go_num, rfl, HZ⟩
            case measure => simp [intOf]; omega
          | some y =>
            obtain ⟨hy1, hy2, hy3⟩ := apply_some hq
            rw [hq] at hap
            obtain ⟨ao, c, rfl, hr, hf⟩ := hap
            rw [hgt] at hy2 hy3
            rw [hy2]
            have hrising : Rising g.l := by obtain ⟨_, _, hI⟩ := hL; exact hI.ok.rising
            rw [hy3] at hL3
            have HZ := hid (show ORel w a (.slice aof n cf) n (t + 1) w3 from ⟨A, _, fs, us, hL3, hA, hK3, rfl, hF3, hun, hfo, hmem⟩)
            have HN := hid (show ∃ i : Nat, ∃ hi : i < us.length, us[i].1 = t + 1 from hhas.1 ⟨y.2, by rw [← hy2]; exact hy1⟩)
            have HV := hid (show ∀ k (hk : k < us.length), us[k].1 = t + 1 → ∃ ao c, us[k].2 = .slice ao y.2.length c ∧ Cells w ao y.2.length 1 (bytesV y.2) from fun k hk e => by
              have hkf : k < fs.length := by rw [← hF.len]; exact hk
              obtain ⟨ao', c', h1, h2⟩ := hF.each k hkf
              have e2 : fs[k] = y := rising_inj hrising ((hmem _).1 (List.getElem_mem _)) hy1 (by rw [← hF.get k hk, e, hy2])
              rw [e2] at h1 h2
              rw [List.getElem?_eq_getElem hk, Option.some.injEq] at h1
              rw [h1]
              exact ⟨ao', c', rfl, h2⟩)
            have HF3 := hid hF3
            have Hun := hid hun
            have HR := hid (And.intro hr (show ∀ k, (Value.slice ao y.2.length c).ownBlock = some k → w.heap.size ≤ k from fun k e => by have := hf k e; have := hK.size; have := kE.size; omega))
            obtain ⟨yl, hyl⟩ : ∃ z, z = y.2.length := ⟨_, rfl⟩
            have Hyl := hid hyl
            rw [← hyl] at HR ⊢
            clear hq hhas hL3 hk3 hF3 hL hA hK hgt hF hun hfo hmem hb HX Hrow kE he hr hf hyl hy1 hy2 hy3 hrising
            go_wp2_with (at_builtin; refine stopAt ?_; intro q hq)
            have hY := heap_alloc_new w3 (.cells #[.int .u64 ((t : Int) + 1), .slice ao yl c] 32)
            have kY : Keep (fun _ => False) w3 (w3.alloc (.cells #[.int .u64 ((t : Int) + 1), .slice ao yl c] 32)) := (Keep.refl _ _).alloc _
            obtain ⟨wY, hwY⟩ : ∃ wY, wY = w3.alloc (.cells #[.int .u64 ((t : Int) + 1), .slice ao yl c] 32) := ⟨_, rfl⟩
            rw [← hwY] at hY kY ⊢
            obtain ⟨Y, he⟩ : ∃ Y, Y = w3.heap.size := ⟨_, rfl⟩
            rw [← he] at hY ⊢
            have HZ := hid (HZ.out.read kY)
            have HF3 := hid (HF3.out.keep kY fun _ _ y => y)
            have HR := hid (HR.out.1.keep kY fun _ _ y => y)
            have HK3 := hid (hK3.next kY (fun _ _ y => y) (fun _ _ y => y))
            have HY := hid hY
            clear kY hwY hY hK3 he
            rw [show ((t : Nat) : Int) + 1 = ((t + 1 : Nat) : Int) by omega]
            refine (findl_any wY aof n cf us (t + 1) (by have := HF3.out.row; rw [Hun.out] at this; exact this) Hun.out.symm (by omega)).mono ?_
            rintro e w4 ⟨z, rfl, hz, hk4⟩
            obtain ⟨k, hkl, rfl, hkt⟩ : ∃ k : Nat, ∃ hk : k < us.length, z = (k : Int) ∧ us[k].1 = t + 1 := by
              rcases hz with ⟨-, hz⟩ | h
              · obtain ⟨i, hi, e⟩ := HN.out
                exact absurd e (hz i hi)
              · exact h
            have HZ := hid (HZ.out.read hk4)
            have hkn : k < n := by rw [← Hun.out]; exact hkl
            have hkn' : (k : Int) < (n : Int) := by omega
            obtain ⟨gr, cap, hv, c0, c1⟩ := ent_at ((HF3.out.keep hk4 fun _ _ y => y).row) k hkl
            obtain ⟨rfl, rfl⟩ : aof = some ⟨gr, 0, none⟩ ∧ cf = cap := by rw [Hun.out] at hv; simpa using hv
            obtain ⟨ao2, c2, hv2, hc2⟩ := HV.out k hkl hkt
            rw [hv2] at c1
            rw [← Hyl.out] at c1 hc2
            have hy4 : w4.heap[Y]? = some (.cells #[.int .u64 ((t : Int) + 1), .slice ao yl c] 32 (0, 0)) := hk4.get HY.out id
            obtain ⟨b0, b1, -⟩ := cells2 hy4
            have hyr : Cells w4 ao yl 1 (bytesV y.2) := (Cells.of_row HR.out).keep hk4 fun _ _ z => z
            have hsame := fun s : Later w4 => same_any s.val ao ao2 yl yl c c2 y.2 y.2 (hyr.keep s.keep fun _ _ x => x) (((hc2.keep HK3.out fun _ _ x => x).keep hk4 fun _ _ x => x).keep s.keep fun _ _ x => x)
            rw [decide_eq_true rfl] at hsame
            have Hsame := hid (fun s : Later w4 => (hsame s).mono fun e w' (h : e = .returned (.bool true) ∧ s.val = w') => (⟨h.1, h.2 ▸ Keep.refl _ _⟩ : e = .returned (.bool true) ∧ Keep (fun _ => False) s.val w'))
            have f0 := fun s : Later w4 => s.cell b0
            have f1 := fun s : Later w4 => s.cell b1
            have g1 := fun s : Later w4 => s.cell c1
            clear hz hkt hv c0 c1 hv2 hc2 hy4 b0 b1 hyr hsame hk4 HF3 HR HK3 HY HN HV
            go_wp2_with (at_builtin; refine stopAt ?_; intro q hq)
            (refine wp_region_later (by kernel_rfl) (by kernel_rfl) ?_; (repeat (go_big_quiet_step ((go_at_call 15; exact Later.call (Hsame.out _))))); refine wpQuiet_nil ?_; rintro _ ⟨sq, rfl⟩)
            go_wp2_with (at_builtin; refine stopAt ?_; intro q hq)
            have HZ := hid (HZ.out.read sq.keep)
            obtain ⟨A, g, fs, us, hL, hA, hK, hgt, hF, hun, hfo, hmem⟩ := HZ.out.ex
            refine (applied_any sq.val a A g hL).mono ?_
            rintro e w5 ⟨rfl, hk5⟩
            have HZ := hid (HZ.out.read hk5)
            rw [hgt, show ((t + 1 : Nat) : Int) = ((t : Nat) : Int) + 1 by omega]
            clear hL hA hK hgt hF hun hfo hmem hk5 f0 f1 g1
            go_wp2_with (at_builtin; refine stopAt ?_; intro q hq)
            go_roundw
            case rel => exact ⟨i + 1, t + 1, n, by omega, by omega, by omega, by omega, by go_num, by go_num, HZ⟩
            case measure => simp [intOf]; omega
      · have HK := hid (hfin HS.out)
        have cut : (¬ (i : Int) < m) ∨ ((i : Int) < m ∧ ¬ (i : Int) < 200) := by omega
        clear hgo hfin HS
        rcases cut with c1 | ⟨c0, c1⟩
        all_goals
          go_wp2_with (at_builtin; refine stopAt ?_; intro q hq)
          refine (known_any _).mono ?_
          rintro e w9 ⟨rfl, hk9⟩
          have HK := hid (HK.out.next hk9 (fun _ _ x => x) (fun _ _ x => x))
          clear hk9
          go_wp2_with (at_builtin; refine stopAt ?_; intro q hq)
          go_ret
          exact ⟨by first | rfl | trivial, HK.out⟩
end Go.Proofs.Ytnignhfallhblaa
