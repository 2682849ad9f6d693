/- seawalllaw12.RlogPlays' walk. Conditions: as the contract names them. -/
import Derived.Test.YtnignhfallhblaaRlh
namespace Go.Proofs.Ytnignhfallhblaa
open Go.RowKit
open RM

theorem EntsIs.firsts {w : World} {v : Value} {es : List Ent} {us : List (Nat × Value)} {G : Nat → Prop} (h : EntsIs w v es us G) : Firsts w w v es us := by
  refine ⟨by rw [h.len]; exact h.row, h.len, fun i hi => ?_⟩
  obtain ⟨ao, c, x1, x2, x3⟩ := h.each i hi
  have hui : i < us.length := by rw [h.len]; exact hi
  have hk : us[i].1 = es[i].1 := by
    have hh := congrArg (fun l => l[i]?) h.keys
    simp only [List.getElem?_map, List.getElem?_eq_getElem hui, List.getElem?_eq_getElem hi, Option.map_some, Option.some.injEq] at hh
    exact hh
  rw [List.getElem?_eq_getElem hui, Option.map_some, Option.some.injEq] at x1
  exact ⟨ao, c, by rw [List.getElem?_eq_getElem hui]; exact congrArg some (Prod.ext hk x1), Cells.of_row x2⟩

theorem minI_any (w : World) (z : Int) : (Builtin.min_ #[3, 3] 3 #[.int .i64 z, .int .i64 200]).run Try.prog w = .ok (.int .i64 (min z 200)) w := by
  rcases Int.lt_or_le 200 z with q | q
  · rw [Int.min_eq_right (by omega)]
    simp [Builtin.min_, Builtin.min2]
    omega
  · rw [Int.min_eq_left q]
    simp [Builtin.min_, Builtin.min2]
    omega

structure PRel (w : World) (a b : Nat) (wr : World) : Prop where
  ex : ∃ A B g, RPair w a A b B g wr

set_option maxRecDepth 20000 in
set_option maxHeartbeats 4000000 in
theorem plays_walk (w : World) (v0 : Value) (L : List ActL) (h0 : Acts w v0 L) (fr : Int) (hf0 : 0 ≤ fr) (hf1 : fr ≤ 18446744073709551615) (most : Int) (hm1 : -9223372036854775808 ≤ most) (hm2 : most ≤ 9223372036854775807) :
    Calls Try.prog 8 #[v0, .int .u64 fr, .int .i64 most] w fun e w' => e = .returned (.bool true) ∧ Keep (fun _ => False) w w' := by
  obtain ⟨ao0, c0, rfl, hc0, hm0⟩ := h0.form
  have H0 := hid h0
  clear h0
  obtain ⟨m, hm⟩ : ∃ m, m = L.length := ⟨_, rfl⟩
  rw [← hm] at H0 hc0 ⊢
  have Hm := hid hm
  have hmm : m ≤ maxLen := by omega
  have hm63 : (m : Int) ≤ 9223372036854775807 := by unfold maxLen at hmm; omega
  clear hm hm0 hc0
  obtain ⟨from_, rfl⟩ : ∃ f : Nat, fr = (f : Int) := ⟨fr.toNat, by omega⟩
  go_enter Try.func8, Try.ntmps8
  go_wp2_with (at_builtin; refine stopAt ?_; intro q hq)
  refine (long_tells w ao0 m c0 L H0.out Hm.out hmm).mono ?_
  rintro e w1 ⟨bl, rfl, hk1, hsm⟩
  have HK1 := hid hk1
  clear hk1
  cases bl with
  | true =>
    clear hsm
    go_wp2_with (at_builtin; refine stopAt ?_; intro q hq)
    refine (known_any _).mono ?_
    rintro e w9 ⟨rfl, hk9⟩
    have HK := hid (HK1.out.next hk9 (fun _ _ x => x) (fun _ _ x => x))
    clear hk9
    go_wp2_with (at_builtin; refine stopAt ?_; intro q hq)
    go_ret
    exact ⟨by first | rfl | trivial, HK.out⟩
  | false =>
    have HSM := hid (hsm rfl)
    clear hsm
    go_wp2_with (at_builtin; refine stopAt ?_; intro q hq)
    refine (new_any w1).mono ?_
    rintro e w2 ⟨a, A, rfl, hLa, hka, hA⟩
    have Ha := hid (And.intro hLa (And.intro hka hA))
    clear hLa hka hA
    go_wp2_with (at_builtin; refine stopAt ?_; intro q hq)
    obtain ⟨hLa, hka, hA⟩ := Ha.out
    have hB := heap_alloc_new w2 (.cells #[.int .u64 0, .slice none 0 0] 53)
    have kB : Keep (fun _ => False) w2 (w2.alloc (.cells #[.int .u64 0, .slice none 0 0] 53)) := (Keep.refl _ _).alloc _
    have zB : (w2.alloc (.cells #[.int .u64 0, .slice none 0 0] 53)).heap.size = w2.heap.size + 1 := by simp
    obtain ⟨w3, hw3⟩ : ∃ w3, w3 = w2.alloc (.cells #[.int .u64 0, .slice none 0 0] 53) := ⟨_, rfl⟩
    rw [← hw3] at hB kB zB ⊢
    clear hw3
    obtain ⟨b, hb⟩ : ∃ b, b = w2.heap.size := ⟨_, rfl⟩
    rw [← hb] at hB zB ⊢
    have HS := hid (show PRel w a b w3 from ⟨A, fun k => k = b, ⟨0, []⟩, hLa.read kB, ⟨.slice none 0 0, [], [], ⟨hB, Row.nil _ _ _, rfl, fun i hi => by simp at hi, rfl, fun k e => by simp [Value.ownBlock] at e, fun k e => by omega⟩, List.Perm.nil, ⟨List.Pairwise.nil, fun e he => by simp at he, fun e he => by simp at he, Nat.zero_le _, by decide⟩⟩,
      fun k x y => by have := hLa.lt k x; omega, fun k x => Nat.le_trans HK1.out.size (hA k x), fun k x => by have := HK1.out.size; have := hka.size; omega, (HK1.out.next hka (fun _ _ x => x) (fun _ _ x => x)).next kB (fun _ _ x => x) (fun _ _ x => x)⟩)
    clear hLa hka hA hB kB zB Ha HK1 hb
    go_loopw [9, 10, 11, 12, 13, 14] (fun iv _ _ _ _ _ wr => ∃ i : Nat, i ≤ m ∧ i ≤ 120 ∧ iv = .int .i64 i ∧ Hid (PRel w a b wr)) (fun iv _ _ _ _ _ _ => m - (intOf iv).toNat)
    case atStart => exact ⟨0, Nat.zero_le _, Nat.zero_le _, rfl, HS⟩
    case round =>
      clear HS
      obtain ⟨i, hi, hi2, rfl, HS⟩ := hrel
      by_cases hgo : i < m ∧ i < 120
      · have q1 : (i : Int) < m := by omega
        have q2 : (i : Int) < 120 := by omega
        obtain ⟨A, B, g, P⟩ := HS.out.ex
        have hiL : i < L.length := by rw [← Hm.out]; exact hgo.1
        obtain ⟨ad, bo, d, rfl, hrow, hb, hkind, hsl, hvl⟩ := Acts.row H0.out P.keep i hiL
        have hv1 := HSM.out i hiL (by omega)
        obtain ⟨x, hx⟩ : ∃ x, x = L[i] := ⟨_, rfl⟩
        rw [← hx] at hrow hb hkind hsl hv1
        obtain ⟨kd, hkd⟩ : ∃ k, k = x.kind := ⟨_, rfl⟩
        obtain ⟨sl, hsl2⟩ : ∃ k, k = x.slot := ⟨_, rfl⟩
        obtain ⟨bs, hbs⟩ : ∃ k, k = x.value := ⟨_, rfl⟩
        rw [← hkd] at hrow hkind
        rw [← hsl2] at hrow hsl
        rw [← hbs] at hrow hb hv1
        obtain ⟨bl, hbl⟩ : ∃ n, n = bs.length := ⟨_, rfl⟩
        rw [← hbl] at hrow hb hv1
        obtain ⟨hkd1, hkd2⟩ := hkind
        obtain ⟨hgo1, hgo2⟩ := hgo
        have Hrow := hid hrow
        have HP := hid (And.intro P hb)
        clear hrow P hb hx hkd hsl2 hbs hbl hvl HS
        go_wp2_with (first | (at_builtin; refine stopAt ?_; intro q hq) | (refine stopOp (.load 47 _) rfl ?_; intro q hq))
        (refine hq.out ?_; clear hq q)
        refine wpList_plain rfl (fun K hK => ?_)
        refine wp_load_any 47 (.tmp 37) rfl (ad.add (i * 3)) rfl _ Hrow.out _ Try.underlying47 rfl (by kernel_rfl) ?_
        refine hK _ _ ?_
        clear hK K
        go_wp2_with (at_builtin; refine stopAt ?_; intro q hq)
        refine (play_any w wr a b A B g kd sl bo bl d bs HP.out.1 HP.out.2 hv1 hsl hkd1 hkd2).mono ?_
        rintro e w4 ⟨rfl, A4, B4, P4⟩
        obtain ⟨G, hG⟩ : ∃ G, G = stepG g kd sl bs := ⟨_, rfl⟩
        rw [← hG] at P4
        clear hG HP Hrow
        have HP := hid P4
        have HAp := hid (fun s : Later w4 => applied_any s.val a A4 G (HP.out.one.read s.keep))
        have HNx := hid (fun s : Later w4 => next_any s.val a A4 G (HP.out.one.read s.keep))
        have HRn := hid (fun s : Later w4 => rnext_any s.val b B4 G (HP.out.two.read s.keep))
        have HTp := hid (fun s : Later w4 => top_any s.val a A4 G (HP.out.one.read s.keep))
        have HRt := hid (fun s : Later w4 => rtop_any s.val b B4 G (HP.out.two.read s.keep))
        obtain ⟨_, _, _, hI4, -⟩ := P4.two
        obtain ⟨e0, -⟩ := cells2 hI4.head
        have f0 := fun s : Later w4 => s.cell e0
        obtain ⟨n1, hn1⟩ : ∃ n, n = G.ap := ⟨_, rfl⟩
        obtain ⟨n2, hn2⟩ : ∃ n, n = RM.next G := ⟨_, rfl⟩
        obtain ⟨n3, hn3⟩ : ∃ n, n = RM.top G := ⟨_, rfl⟩
        rw [← hn1] at HAp f0
        rw [← hn2] at HNx HRn
        rw [← hn3] at HTp HRt
        clear P4 hI4 e0 hn1 hn2 hn3
        go_wp2_with (at_builtin; refine stopAt ?_; intro q hq)
        (refine wp_region_mix [69,73,74] 25 (by kernel_rfl) (by kernel_rfl) ?_; simp only [List.take_succ_cons, List.take_zero, List.drop_succ_cons, List.drop_zero]; (repeat (go_big_quiet_step ((first | (go_at_call 21; exact Later.call (HAp.out _)) | (go_at_call 17; exact Later.call (HNx.out _)) | (go_at_call 25; exact Later.call (HRn.out _)) | (go_at_call 23; exact Later.call (HTp.out _)) | (go_at_call 26; exact Later.call (HRt.out _)))))); refine wpQuiet_nil ?_; rintro _ ⟨sq, rfl⟩)
        have HP := hid (HP.out.read sq.keep)
        clear HAp HNx HRn HTp HRt f0
        repeat (apply wpC_pure (by rfl); (intro K w'; go_simp; exact id))
        refine wpC_newW (by rfl) (by kernel_rfl) (fun K hK => ?_)
        go_simp
        refine (catch_any sq.val a A4 G from_ most HP.out.one hm1 hm2 (by omega)).mono ?_
        rintro e w5 ⟨v5, u5, rfl, hE5, hk5⟩
        refine hK _ _ (Pre.of_keep hk5) ?_
        clear hK K
        have hF5 := hE5.firsts
        have HP := hid (HP.out.read hk5)
        clear hE5 hk5
        repeat (apply wpC_pure (by rfl); (intro K w'; go_simp; exact id))
        refine wpC_newW (by rfl) (by kernel_rfl) (fun K hK => ?_)
        go_simp
        refine (rcatch_any w5 b B4 G from_ most HP.out.two hm1 hm2 (by omega)).mono ?_
        rintro e w6 ⟨v6, u6, rfl, hF6, hk6⟩
        refine hK _ _ (Pre.of_keep hk6) ?_
        clear hK K
        have hcl : (RM.catch_ G from_ most).length ≤ 4096 := by
          have := RM.train_le (G.l.drop (below G.l from_)) from_ most.toNat
          rw [List.length_drop] at this
          have := HP.out.two.ok.few
          unfold RM.catch_
          omega
        have hF5' := hF5.both hk6
        have HP := hid (HP.out.read hk6)
        refine wpC_newW (by rfl) (by kernel_rfl) (fun K hK => ?_)
        go_simp
        refine (rsame_any w6 v5 v6 (RM.catch_ G from_ most) u5 u6 hF5' hF6 (by omega)).mono ?_
        rintro e w7 ⟨rfl, hk7⟩
        refine hK _ _ (Pre.of_keep hk7) ?_
        clear hK K
        have HP := hid (HP.out.read hk7)
        clear hF5 hF5' hF6 hk6 hk7 hcl
        repeat (apply wpC_pure (by rfl); (intro K w'; go_simp; exact id))
        refine wpC_nil ?_
        have hmn := fun w : World => minI_any w most
        obtain ⟨mn, hmn2⟩ : ∃ z, z = min most 200 := ⟨_, rfl⟩
        rw [← hmn2] at hmn
        have hmn3 : -9223372036854775808 ≤ mn ∧ mn ≤ 200 := by omega
        clear hmn2
        go_wp2_with (at_builtin; refine stopAt ?_; intro q hq)
        clear hmn
        refine (holes_any w7 a A4 G mn HP.out.one hmn3.1 (by omega)).mono ?_
        rintro e w8 ⟨v8, rfl, hr8, ho8, hk8⟩
        have HP := hid (HP.out.read hk8)
        obtain ⟨ao8, c8, rfl, -⟩ := hr8.form
        obtain ⟨n8, hn8⟩ : ∃ n, n = (RM.holes G mn).length := ⟨_, rfl⟩
        rw [← hn8] at hr8 ⊢
        have Hn8 := hid hn8
        have HR8 := hid hr8
        clear hr8 ho8 hk8 hn8
        go_wp2_with (at_builtin; refine stopAt ?_; intro q hq)
        refine (rholes_any w8 b B4 G mn HP.out.two hmn3.1 (by omega)).mono ?_
        rintro e w9 ⟨v9, rfl, hr9, ho9, hk9⟩
        have HP := hid (HP.out.read hk9)
        have HR8 := hid (HR8.out.keep hk9 fun _ _ x => x)
        obtain ⟨ao9, c9, rfl, -⟩ := hr9.form
        rw [← Hn8.out] at hr9 ⊢
        have HR9 := hid hr9
        have hn8l : n8 ≤ 200 := by
          rw [Hn8.out, holes_eq, List.length_take]
          omega
        clear hr9 ho9 hk9
        go_wp2_with (at_builtin; refine stopAt ?_; intro q hq)
        go_loopw [14] (fun kv wq => ∃ k : Nat, k ≤ n8 ∧ kv = .int .i64 k ∧ Hid (Keep (fun _ => False) w9 wq)) (fun kv _ => n8 - (intOf kv).toNat)
        case atStart => exact ⟨0, Nat.zero_le _, rfl, hid (Keep.refl _ _)⟩
        case round =>
          obtain ⟨k, hk, rfl, HK⟩ := hrel
          by_cases hkn : k < n8
          · have q3 : (k : Int) < n8 := by omega
            have hkl : k < (RM.holes G mn).length := by rw [← Hn8.out]; exact hkn
            obtain ⟨y, hy⟩ : ∃ y, y = (RM.holes G mn)[k] := ⟨_, rfl⟩
            have hy2 : (u64V (RM.holes G mn))[k]? = some (.int .u64 (y : Nat)) := by rw [hy]; simp [u64V, List.getElem?_eq_getElem hkl]
            obtain ⟨g8, p8, hv8, d8⟩ := (HR8.out.keep HK.out fun _ _ x => x).getCell hy2
            obtain ⟨g9, p9, hv9, d9⟩ := (HR9.out.keep HK.out fun _ _ x => x).getCell hy2
            obtain ⟨rfl, rfl⟩ : ao8 = some ⟨g8, 0, none⟩ ∧ c8 = p8 := by simpa using hv8
            obtain ⟨rfl, rfl⟩ : ao9 = some ⟨g9, 0, none⟩ ∧ c9 = p9 := by simpa using hv9
            clear hv8 hv9 hy hy2
            go_wp2_with (at_builtin; refine stopAt ?_; intro q hq)
            go_quiet (fail)
            clear d8 d9
            go_wp2_with (at_builtin; refine stopAt ?_; intro q hq)
            go_roundw
            case rel => exact ⟨k + 1, by omega, by go_num, hid (HK.out.drewN _)⟩
            case measure => simp [intOf]; omega
          · have q3 : decide ((k : Int) < (n8 : Int)) = false := by simp; omega
            have HZ := hid (show PRel w a b wr from ⟨A4, B4, G, HP.out.read HK.out⟩)
            go_wp2_with (at_builtin; refine stopAt ?_; intro q hq)
            go_roundw
            case rel => exact ⟨i + 1, by omega, by omega, by go_num, HZ⟩
            case measure => simp [intOf]; omega
      · have HK := hid (show Keep (fun _ => False) w wr by obtain ⟨_, _, _, P⟩ := HS.out.ex; exact P.keep)
        have cut : (¬ (i : Int) < m) ∨ ((i : Int) < m ∧ ¬ (i : Int) < 120) := by omega
        clear hgo HS
        rcases cut with c1 | ⟨c0, c1⟩
        all_goals
          go_wp2_with (at_builtin; refine stopAt ?_; intro q hq)
          refine (known_any _).mono ?_
          rintro e w9 ⟨rfl, hk9⟩
          have HK := hid (HK.out.next hk9 (fun _ _ x => x) (fun _ _ x => x))
          clear hk9
          go_wp2_with (at_builtin; refine stopAt ?_; intro q hq)
          go_ret
          exact ⟨by first | rfl | trivial, HK.out⟩
end Go.Proofs.Ytnignhfallhblaa
