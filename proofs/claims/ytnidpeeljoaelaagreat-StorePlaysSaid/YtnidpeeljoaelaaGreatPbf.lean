/- Texts StpO in one. Conditions: as each law names them. -/
import Derived.Test.YtnidpeeljoaelaaGreatPbe
/- Store: StorePlays' walk. Conditions: as the contract names them. -/
namespace Go.Proofs.YtnidpeeljoaelaaGreat
open Go.RowKit Go.Maps
open MI SO BM DM WM

/-- Behind k acts. -/
structure PlRel (W : World) (p k : Nat) (wr : World) : Prop where
  ex : ∃ D o, PairS W p D o wr ∧ OkO o ∧ D.waits.length ≤ 1024 + 5120 * k
set_option maxRecDepth 20000 in
set_option maxHeartbeats 4000000 in
theorem splays_walk (w : World) (a : Int) (ha : -9223372036854775808 ≤ a) (hb : a ≤ 9223372036854775807) (v : Value) (l : List SAct) (hl : SActs w v l) (key : Str) (hkey : key.length ≤ maxLen) :
    Calls Tryz.prog 4 #[.int .i64 a, v, .string (str key)] w fun e w' => e = .returned (.bool true) ∧ Keep (fun _ => False) w w' := by
  obtain ⟨ao, c, rfl, hlc, hcm⟩ := hl.form
  have HL := hid hl
  have HK := hid hkey
  clear hl hcm hkey
  obtain ⟨m, hm⟩ : ∃ m, m = l.length := ⟨_, rfl⟩
  rw [← hm] at HL hlc ⊢
  have Hm := hid hm
  clear hm
  by_cases big : 60 < a ∧ a ≤ 2048
  · obtain ⟨g1, g2⟩ := big
    go_enter Tryz.func4, Tryz.ntmps4
    go_wp2_with (at_builtin; refine stopAt ?_; intro q hq)
    refine (sknown_any w).mono ?_
    rintro e w1 ⟨rfl, hk1⟩
    go_wp2_with (at_builtin; refine stopAt ?_; intro q hq)
    go_ret
    exact ⟨by rfl, hk1⟩
  · have big' : ¬ 60 < a ∨ (60 < a ∧ ¬ a ≤ 2048) := by omega
    by_cases none_ : a < 1 ∨ 2048 < a
    · have N1 := hid (ststart_none w a none_)
      have n1' : a < 1 ∨ (¬ a < 1 ∧ 2048 < a) := by omega
      clear none_ big
      rcases big' with g1 | ⟨g0, g1⟩
      all_goals rcases n1' with n1 | ⟨n0, n1⟩
      all_goals
        go_enter Tryz.func4, Tryz.ntmps4
        go_wp2_with (at_builtin; refine stopAt ?_; intro q hq)
        refine N1.out.mono ?_
        rintro e w1 ⟨rfl, rfl⟩
        go_wp2_with (at_builtin; refine stopAt ?_; intro q hq)
        refine (sknown_any _).mono ?_
        rintro e w1 ⟨rfl, hk1⟩
        go_wp2_with (at_builtin; refine stopAt ?_; intro q hq)
        go_ret
        exact ⟨by rfl, hk1⟩
    · obtain ⟨n, rfl⟩ : ∃ n : Nat, (n : Int) = a := ⟨a.toNat, by omega⟩
      have n1 : 0 < n := by omega
      have n2 : n ≤ 60 := by omega
      have g1 : ¬ 60 < (n : Int) := by omega
      clear big big' none_ ha hb
      go_enter Tryz.func4, Tryz.ntmps4
      go_wp2_with (at_builtin; refine stopAt ?_; intro q hq)
      refine (ststart_any w n n1 (by omega)).mono ?_
      rintro e w1 ⟨p, rfl, hP1⟩
      have HR1 := hid (PlRel.mk (k := 0) ⟨_, _, hP1, okay_op _, by have := opS_waits (D := DM.new n) (by simp [DM.new]; omega); simpa [DM.new] using this⟩)
      clear hP1
      go_wp2_with (at_builtin; refine stopAt ?_; intro q hq)
      go_loopw [9] (fun i wr => ∃ k : Nat, k ≤ m ∧ k ≤ 40 ∧ i = .int .i64 k ∧ Hid (PlRel w p k wr)) (fun i _ => 40 - (intOf i).toNat)
      case atStart => exact ⟨0, Nat.zero_le _, Nat.zero_le _, rfl, HR1⟩
      case round =>
        clear HR1
        obtain ⟨k, hk, hk40, rfl, HR⟩ := hrel
        by_cases hgo : k < m ∧ k < 40
        · have h2 : (k : Int) < m := by omega
          have h1 : (k : Int) < 40 := by omega
          have hkl : k < l.length := by rw [← Hm.out]; exact hgo.1
          obtain ⟨D, o, hP, ho, hw⟩ := HR.out.ex
          obtain ⟨ad, lv, kv, rfl, a0, a1, a2, a3, hrow, hlv, hkv, b0, b1⟩ := HL.out.get hP.keep k hkl
          have Hrow := hid hrow
          have hgo1 := hgo.1
          have hgo2 := hgo.2
          clear hgo hrow
          obtain ⟨aol, cl, rfl, -⟩ := hlv.form
          have hhe := sheavy_any wr aol _ cl _ (SliceOf.keepF hlv hP.keep (fun _ _ _ _ _ x => x)) rfl
          obtain ⟨ll, hll⟩ : ∃ ll, ll = (l[k]).list.length := ⟨_, rfl⟩
          have HQ := hid (And.intro hP (And.intro hw (And.intro hlv (And.intro hkv (And.intro b0 (And.intro b1 ho))))))
          have HE := hid hll
          rw [← hll] at hhe a2
          clear hP hw hlv hkv b0 b1 hll ho a0 a1 a3
          go_wp2_with (at_builtin; refine stopAt ?_; intro q hq)
          refine hhe.mono ?_
          rintro e w3 ⟨x, rfl, hk3⟩
          clear hhe a2
          cases x with
          | true =>
            have HK3 := hid (HQ.out.1.keep.next hk3 (H := fun _ => False) (fun _ _ x => x) (fun _ _ x => x))
            clear hk3
            go_wp2_with (at_builtin; refine stopAt ?_; intro q hq)
            refine (sknown_any _).mono ?_
            rintro e w4 ⟨rfl, hk4⟩
            have HZ := hid (HK3.out.next hk4 (H := fun _ => False) (fun _ _ x => x) (fun _ _ x => x))
            clear hk4
            go_wp2_with (at_builtin; refine stopAt ?_; intro q hq)
            go_ret
            exact ⟨by rfl, HZ.out⟩
          | false =>
            have HK3 := hid hk3
            clear hk3
            go_wp2_with (first | (at_builtin; refine stopAt ?_; intro q hq) | (refine stopOp (.load 30 _) rfl ?_; intro q hq))
            (refine hq.out ?_; clear hq q)
            refine wpList_plain rfl (fun K hK => ?_)
            refine wp_load_any 30 (.tmp 61) rfl (ad.add (k * 4)) rfl _ (fun j u hu => cell_old HK3.out _ _ (Hrow.out j u hu)) _ Tryz.underlying30 rfl (by kernel_rfl) ?_
            refine hK _ _ ?_
            clear hK K
            obtain ⟨hP, hw, hlv, hkv, b0, b1, ho⟩ := HQ.out
            have hP3 := hP.later HK3.out
            have hpl := stplay_any w _ p D o l[k] _ _ hP3 hlv hkv b1 (fun S e h => by have := hP3.few ho S e h; omega) (by omega)
            obtain ⟨s1, s2⟩ := hP3.step ho l[k]
            obtain ⟨R, hR⟩ : ∃ R, R = stepS D o l[k] := ⟨_, rfl⟩
            rw [← hR] at s1 s2 hpl
            obtain ⟨D5, o5⟩ := R
            have HW := hid (show OkO o5 ∧ D5.waits.length ≤ 1024 + 5120 * (k + 1) from ⟨s1, by simp only at s2; omega⟩)
            clear hP hw hlv hkv b0 b1 s1 s2 ho hP3 hR
            go_wp2_with (at_builtin; refine stopAt ?_; intro q hq)
            refine hpl.mono ?_
            rintro e w5 ⟨rfl, hP5⟩
            clear hpl
            cases o5 with
            | none =>
              have hP5' := hid hP5
              obtain ⟨o2, hs, d, mm, sv, rv, A, F, G, h⟩ := hP5
              obtain rfl := hs.none
              obtain ⟨rfl, -⟩ := h.two
              obtain ⟨rfl, -⟩ := h.three
              obtain ⟨h0, h1', h2', h3, hf, hb⟩ := cells4 h.one.1
              clear h hs
              go_wp2_with (at_builtin; refine stopAt ?_; intro q hq)
              refine (slen_nil w5).mono ?_
              rintro e w6 ⟨rfl, rfl⟩
              go_wp2_with (at_builtin; refine stopAt ?_; intro q hq)
              refine (pairs_nil w6).mono ?_
              rintro e w7 ⟨pv, rfl, hrow, hk7, -⟩
              obtain ⟨pa, pc, rfl, -⟩ := hrow.form
              have HP7 := hid (hP5'.out.later hk7)
              clear h0 h1' h2' h3 hf hb
              obtain ⟨o2, hs, d, mm, sv, rv, A, F, G, h⟩ := HP7.out
              obtain rfl := hs.none
              obtain ⟨rfl, -⟩ := h.two
              obtain ⟨rfl, -⟩ := h.three
              obtain ⟨h0, h1', h2', h3, hf, hb⟩ := cells4 h.one.1
              clear h hs hrow hk7
              go_wp2_with (at_builtin; refine stopAt ?_; intro q hq)
              refine (swait_nil w7).mono ?_
              rintro e w8 ⟨rfl, rfl⟩
              go_wp2_with (at_builtin; refine stopAt ?_; intro q hq)
              go_roundw
              case rel => exact ⟨k + 1, by omega, by omega, by go_num, hid ⟨_, _, HP7.out, HW.out.1, HW.out.2⟩⟩
              case measure => simp [intOf]; omega
            | some S =>
              have hP5' := hid hP5
              obtain ⟨o2, hs, d, m2, sv, rv, A, F, G, h⟩ := hP5
              obtain ⟨S2, rfl, hs2⟩ := hs.some
              obtain ⟨b, rfl, F1, F2, hst, hFe⟩ := h.two
              obtain ⟨c2, rfl, G1, G2, hrt, hGe⟩ := h.three
              obtain ⟨h0, h1', h2', h3, hf, hb⟩ := cells4 h.one.1
              obtain ⟨rb, pv, Fl2, HR2⟩ := hrt
              obtain ⟨i0, i1, i2, if2, ib2⟩ := cells3i (show w5.heap[c2]? = some (.cells #[_, _, _] _ (0, 0)) from HR2.head)
              rw [(sim_ps hs2).2.1] at i2
              have HS := hid (And.intro h (And.intro hs2 (And.intro hst (And.intro HR2 (And.intro hFe hGe)))))
              clear h hs hs2 hst HR2 hFe hGe
              cases hdd : S.dead with
              | true =>
                rw [hdd] at i2
                have Hdd := hid hdd
                have ht : told S = [] := by unfold told; rw [if_pos hdd]
                have hlen := slen_any w5 b d F1 F2 D5 S HS.out.2.2.1
                have hprs := pairs_any w5 b d F1 F2 D5 S HS.out.2.2.1 (fun h => by rw [hdd] at h; cases h)
                rw [ht] at hlen hprs
                clear hdd ht
                go_wp2_with (at_builtin; refine stopAt ?_; intro q hq)
                refine hlen.mono ?_
                rintro e w6 ⟨rfl, rfl⟩
                clear hlen
                go_wp2_with (at_builtin; refine stopAt ?_; intro q hq)
                refine hprs.mono ?_
                rintro e w7 ⟨pv2, rfl, hrow, hk7, -⟩
                obtain ⟨pa, pc, rfl, -⟩ := hrow.form
                have hwt := swait_dead w7 b d F1 F2 D5 S (HS.out.2.2.1.later hk7) Hdd.out
                have h1b := cell_old hk7 _ _ h1'
                have HP7 := hid (hP5'.out.later hk7)
                clear hprs hrow hk7 h0 h1' h2' h3 hf i0 i1 i2 if2
                go_wp2_with (at_builtin; refine stopAt ?_; intro q hq)
                refine hwt.mono ?_
                rintro e w8 ⟨rfl, rfl⟩
                clear hwt
                go_wp2_with (at_builtin; refine stopAt ?_; intro q hq)
                go_roundw
                case rel => exact ⟨k + 1, by omega, by omega, by go_num, hid ⟨_, _, HP7.out, HW.out.1, HW.out.2⟩⟩
                case measure => simp [intOf]; omega
              | false =>
                rw [hdd] at i2
                have Hdd := hid hdd
                have ht : told S = S.ps := by unfold told; rw [hdd]; rfl
                have hps := (sim_ps HS.out.2.1).1
                have hgone := (sim_ps HS.out.2.1).2.2.2.2
                have hrow := HS.out.2.2.2.1.row
                rw [hps] at hrow
                obtain ⟨pa, pc, rfl, -⟩ := hrow.form
                obtain ⟨N, hN⟩ : ∃ N, N = S.ps.length := ⟨_, rfl⟩
                rw [← hN] at hrow i1
                have hNb : N ≤ 128000 := by rw [hN]; exact hP5'.out.few HW.out.1 S rfl hdd
                obtain ⟨y, z, hgs⟩ : ∃ y z, getS S.ps key = .tuple #[.string (str y), .bool z] := ⟨_, _, rfl⟩
                have hget := sget_any w5 b d F1 F2 D5 S HS.out.2.2.1 key HK.out
                rw [ht, hgs] at hget
                have HN := hid (And.intro hN (And.intro hrow (And.intro hgs (And.intro ht (And.intro hps hgone)))))
                clear hdd hN hrow hgs ht hps hgone
                go_wp2_with (at_builtin; refine stopAt ?_; intro q hq)
                refine hget.mono ?_
                rintro e w6 ⟨rfl, hk6⟩
                have h0b := cell_old hk6 _ _ h0
                have h1b := cell_old hk6 _ _ h1'
                have h3b := cell_old hk6 _ _ h3
                have i0b := cell_old hk6 _ _ i0
                have i1b := cell_old hk6 _ _ i1
                have hrg := rget_st w6 pa N pc S.ps (HN.out.2.1.keep hk6 (fun _ _ x => x)) HN.out.1 (Sorted_ok (HS.out.2.2.1.ok.sorted)) (by omega) key
                rw [HN.out.2.2.1] at hrg
                have H6 := hid hk6
                clear hget hk6 h0 h1' h2' h3 hf hb i0 i1 i2 if2 ib2
                go_wp2_with (at_builtin; refine stopAt ?_; intro q hq)
                refine hrg.mono ?_
                rintro e w7 ⟨rfl, hk7⟩
                have h1 := cell_old hk7 _ _ h1b
                have h3 := cell_old hk7 _ _ h3b
                have i0 := cell_old hk7 _ _ i0b
                have i1 := cell_old hk7 _ _ i1b
                have H7 := hid (H6.out.next hk7 (H := fun _ => False) (fun _ _ x => x) (fun _ _ x => x))
                clear hrg hk7 h0b h1b h3b i0b i1b
                go_wp2_with (at_builtin; refine stopAt ?_; intro q hq)
                have j1 := fun s : Later w7 => s.cell h1
                have j3 := fun s : Later w7 => s.cell h3
                have q1 := fun s : Later w7 => s.cell i1
                refine wp_region_pool [(13, fun v w' => Row w' 49 2 v N (prsV S.ps)), (21, fun v _ => v = .bool true), (29, fun v _ => v = .int .i64 (N : Nat))] (by kernel_rfl) (by kernel_rfl) ?_ ?_
                · intro q hq v w1 w3 hk hx
                  simp only [List.mem_cons, List.not_mem_nil, or_false] at hq
                  rcases hq with rfl | rfl | rfl
                  · exact hx.keep hk (fun _ _ x => x)
                  all_goals exact hx
                repeat (apply wpT_pure (by rfl); (intro K s; go_simp; exact id))
                refine wpT_made (by rfl) (by kernel_rfl) (fun s hs => ?_) (fun v hv K hK => ?_)
                · go_simp
                  have hst := (HS.out.2.2.1.later H7.out).later s.keep
                  refine (pairs_any s.val b d F1 F2 D5 S hst (fun _ => by have := HN.out.1; omega)).mono ?_
                  rintro e w' ⟨v, rfl, hr, hk, -⟩
                  rw [HN.out.2.2.2.1, ← HN.out.1] at hr
                  exact ⟨v, rfl, hk, hr⟩
                obtain ⟨s1, -, hv1⟩ := hv
                obtain ⟨qa, qc, rfl, -⟩ := hv1.form
                go_simp
                refine hK _ ?_
                clear hK K hv1 s1
                repeat (apply wpT_pure (by rfl); (intro K s; go_simp; exact id))
                refine wpT_made (by rfl) (by kernel_rfl) (fun s hs => ?_) (fun v hv K hK => ?_)
                · go_simp
                  have hm := hs (13, fun w' => Row w' 49 2 (.slice qa N qc) N (prsV S.ps)) (by simp) (by kernel_rfl)
                  refine (rsame_any s.val qa pa N qc N pc S.ps S.ps hm ((HN.out.2.1.keep H7.out (fun _ _ x => x)).keep s.keep (fun _ _ x => x)) HN.out.1 HN.out.1).mono ?_
                  rintro e w' ⟨rfl, hk⟩
                  exact ⟨by simp, hk⟩
                obtain ⟨s1, -, rfl⟩ := hv
                go_simp
                refine hK _ ?_
                clear hK K s1
                repeat (apply wpT_pure (by rfl); (intro K s; go_simp; exact id))
                refine wpT_made (by rfl) (by kernel_rfl) (fun s hs => ?_) (fun v hv K hK => ?_)
                · go_simp
                  have hst := (HS.out.2.2.1.later H7.out).later s.keep
                  refine (slen_any s.val b d F1 F2 D5 S hst).mono ?_
                  rintro e w' ⟨rfl, rfl⟩
                  exact ⟨by rw [HN.out.2.2.2.1, ← HN.out.1], Keep.refl _ _⟩
                obtain ⟨s1, -, rfl⟩ := hv
                go_simp
                refine hK _ ?_
                clear hK K s1
                repeat (apply wpT_pure (by rfl); (intro K s; go_simp; exact id))
                refine wpT_nil ?_
                intro s hs
                have hk8 := s.keep
                obtain ⟨w8, hw8⟩ : ∃ w8, w8 = s.val := ⟨_, rfl⟩
                rw [← hw8] at hk8 ⊢
                clear hw8 hs s j1 j3 q1
                have h1b := cell_old hk8 _ _ h1
                have h3b := cell_old hk8 _ _ h3
                have i0b := cell_old hk8 _ _ i0
                have H8 := hid (H7.out.next hk8 (H := fun _ => False) (fun _ _ x => x) (fun _ _ x => x))
                clear hk8 h1 h3 i0 i1
                have T8 := HS.out.1.later (BoxT.lives _ _ _) (SideP.lives _ _ _ _) (SideR.lives _ _ _ _) H8.out
                have hR8 := HS.out.2.2.2.1.keep H8.out (fun _ _ x => x) (fun _ _ x => x)
                have hgo := gone_any w8 rb m2 Fl2 G2 D5 S2.g hR8.log
                rw [HN.out.2.2.2.2.2] at hgo
                have H8b := hid (And.intro T8 hR8)
                clear T8 hR8
                go_wp2_with (at_builtin; refine stopAt ?_; intro q hq)
                refine hgo.mono ?_
                rintro e w9 ⟨rfl, htl⟩
                obtain ⟨Fl9, G9, Gd9, hR9, hk9, hG9, hGd9⟩ := H8b.out.2.logTo htl
                have htt := RStoTo.turns (show RStoTo c2 m2 G1 G2 w8 D5 _ w9 from ⟨G9, Gd9, hR9.at, hk9, hG9, hGd9⟩)
                rw [← HS.out.2.2.2.2.2] at htt
                obtain ⟨Gx, T9⟩ := H8b.out.1.turn3 (BoxT.lives _ _ _) (SideP.lives _ _ _ _) htt
                have esim : ({ S2 with g := WM.mark D5 S2.g } : St) = markS D5 S := by
                  unfold markS
                  rw [if_neg (by rw [Hdd.out]; decide)]
                  rcases mark_cases HS.out.2.1 with h | ⟨h1, h2, h3⟩
                  · rw [h]
                  · rw [h3, Hdd.out, mark_mark]
                have HP9 := hid (show PairS w p D5 (some S) w9 from ⟨_, .inr ⟨S, rfl, by rw [esim]⟩, d, m2, _, _, A, F, Gx, T9⟩)
                obtain ⟨h0, h1, h2', h3, hf, hb⟩ := cells4 T9.one.1
                obtain ⟨i0, i1, i2, if2, ib2⟩ := cells3i (show w9.heap[c2]? = some (.cells #[_, _, _] _ (0, 0)) from hR9.head)
                obtain ⟨vl, vs, L9⟩ := hR9.log
                obtain ⟨la, lc, rfl, -⟩ := L9.wal.recs.row.form
                obtain ⟨k0, k1, k2, k3, k4, kf, kb⟩ := cells5w (show w9.heap[rb]? = some (.cells #[_, _, _, _, _] _ (0, 0)) from L9.wal.head)
                obtain ⟨rl, hrl⟩ : ∃ rl, rl = S.g.l.length := ⟨_, rfl⟩
                obtain ⟨rs, hrs⟩ : ∃ rs, rs = S.g.safe := ⟨_, rfl⟩
                have e1 : (({ S2 with g := WM.mark D5 S2.g } : St).g.l.length) = rl := by rw [hrl]; show S2.g.l.length = _; rw [(sim_ps HS.out.2.1).2.2.1]
                have e2 : (({ S2 with g := WM.mark D5 S2.g } : St).g.safe) = rs := by rw [hrs]; show S2.g.safe = _; rw [(sim_ps HS.out.2.1).2.2.2.1]
                rw [e1] at k2
                rw [e2] at k3
                have hf9 := (HP9.out.facts.2 S rfl)
                have hle : rs ≤ rl := by rw [hrl, hrs]; exact hf9.safe
                have hsm : rl ≤ 4000 := by rw [hrl]; exact hf9.count
                have q1 : (rl : Int) - (rs : Int) = ((rl - rs : Nat) : Int) := by omega
                have q2 : IntKind.i64.wrap ((rl - rs : Nat) : Int) = ((rl - rs : Nat) : Int) := by simp [IntKind.wrap, IntKind.signed, IntKind.bits]; omega
                have hk99 : Keep (fun k => G1 k ∨ G2 k) w8 w9 := hk9
                have hst9 : StoAt w9 b d F1 F2 D5 S := (HS.out.2.2.1.later H8.out).keep hk9 (fun k x y => H8b.out.1.a23 k (by rw [HS.out.2.2.2.2.1]; exact .inl x) (by rw [HS.out.2.2.2.2.2]; exact y)) (fun k x y => H8b.out.1.a23 k (by rw [HS.out.2.2.2.2.1]; exact .inr x) (by rw [HS.out.2.2.2.2.2]; exact y))
                have HV := hid (And.intro hst9 (And.intro hrl hrs))
                clear hgo htl hR9 hk9 hG9 hGd9 htt T9 esim L9 e1 e2 hf9 hle hsm hk99 hst9 hrl hrs h1b h3b i0b h0 h2' hf hb i1 i2 if2 ib2 k0 k1 k4 kf kb
                have j1 := fun s : Later w9 => s.cell h1
                have j3 := fun s : Later w9 => s.cell h3
                have j5 := fun s : Later w9 => s.cell i0
                have j6 := fun s : Later w9 => s.cell k2
                have j7 := fun s : Later w9 => s.cell k3
                clear h1 h3 i0 k2 k3
                cases hgg : gone D5 S.g with
                | true =>
                  clear hgg
                  go_wp2_with (at_builtin; refine stopAt ?_; intro q hq)
                  (refine wp_region_later (by kernel_rfl) (by kernel_rfl) ?_; (repeat (go_big_quiet_step ((fail)))); refine wpQuiet_nil ?_; rintro _ ⟨sq, rfl⟩)
                  have HP10 := hid (HP9.out.later sq.keep)
                  obtain ⟨w10, hw10⟩ : ∃ w10, w10 = sq.val := ⟨_, rfl⟩
                  rw [← hw10] at HP10 ⊢
                  clear hw10 sq j1 j3 j5 j6 j7
                  go_wp2_with (at_builtin; refine stopAt ?_; intro q hq)
                  go_roundw
                  case rel => exact ⟨k + 1, by omega, by omega, by go_num, hid ⟨_, _, HP10.out, HW.out.1, HW.out.2⟩⟩
                  case measure => simp [intOf]; omega
                | false =>
                  have HWt := hid (fun s : Later w9 => swait_up s.val b d F1 F2 D5 S (HV.out.1.later s.keep) Hdd.out hgg)
                  rw [← HV.out.2.1, ← HV.out.2.2] at HWt
                  clear hgg
                  go_wp2_with (at_builtin; refine stopAt ?_; intro q hq)
                  (refine wp_region_later (by kernel_rfl) (by kernel_rfl) ?_; (repeat (go_big_quiet_step ((go_at_call 16; exact Later.call (HWt.out _))))); refine wpQuiet_nil ?_; rintro _ ⟨sq, rfl⟩)
                  have HP10 := hid (HP9.out.later sq.keep)
                  obtain ⟨w10, hw10⟩ : ∃ w10, w10 = sq.val := ⟨_, rfl⟩
                  rw [← hw10] at HP10 ⊢
                  clear hw10 sq j1 j3 j5 j6 j7
                  go_wp2_with (at_builtin; refine stopAt ?_; intro q hq)
                  go_roundw
                  case rel => exact ⟨k + 1, by omega, by omega, by go_num, hid ⟨_, _, HP10.out, HW.out.1, HW.out.2⟩⟩
                  case measure => simp [intOf]; omega
        · obtain ⟨D, o, hP, -⟩ := HR.out.ex
          have HZ := hid hP.keep
          clear hP
          have cut : (¬ (k : Int) < m) ∨ ((k : Int) < m ∧ ¬ (k : Int) < 40) := by omega
          clear hgo
          rcases cut with c1 | ⟨c0, c1⟩
          all_goals
            go_wp2_with (at_builtin; refine stopAt ?_; intro q hq)
            refine (sknown_any _).mono ?_
            rintro e w4 ⟨rfl, hk4⟩
            have HZ2 := hid (HZ.out.next hk4 (H := fun _ => False) (fun _ _ x => x) (fun _ _ x => x))
            clear hk4
            go_wp2_with (at_builtin; refine stopAt ?_; intro q hq)
            go_ret
            exact ⟨by rfl, HZ2.out⟩
end Go.Proofs.YtnidpeeljoaelaaGreat
