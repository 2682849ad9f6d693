/- Texts HeaX, HeaY, HebA in one. Conditions: as each law names them. -/
import Derived.Test.YtmdonjadhkffiaaBaa
import Derived.Test.YtmdonjadhkffiaaBaf
import Derived.Test.YtmdonjadhkffiaaBag
/- Heal: the program's Plan. Conditions: as each law names them. -/
namespace Go.Proofs.Ytmdonjadhkffiaa
open Go.RowKit
open HE

def PlanPost (w : World) (s : List Int) (ps : List Pl) (_up : Nat) (copies : Int) (ms : List Mv) (e : Ending) (w' : World) : Prop :=
  Keep (fun _ => False) w w' ∧
  ((check s ps ≠ 0 ∧ e = .returned (.tuple #[.slice none 0 0, .int .i64 (check s ps : Nat)])) ∨
   (check s ps = 0 ∧ (copies < 1 ∨ 12 < copies) ∧ e = .returned (.tuple #[.slice none 0 0, .int .i64 2])) ∨
   (check s ps = 0 ∧ (1 ≤ copies ∧ copies ≤ 12) ∧ ∃ mv, e = .returned (.tuple #[mv, .int .i64 0]) ∧ Row w' 52 3 mv ms.length (mvsV ms) ∧ (∀ k, mv.ownBlock = some k → w.heap.size ≤ k)))

set_option maxHeartbeats 4000000 in
set_option maxRecDepth 20000 in
theorem plan_any (w : World) (v u : Value) (s : List Int) (ps : List Pl) (up : Nat) (copies : Int) (hs : IntsV w v s) (hp : PlsV w u ps) (hup : up < 4294967296) (hc64 : I64 copies) :
    Calls Try.prog 14 #[v, .int .u32 (up : Int), .int .i64 copies, u] w (PlanPost w s ps up copies (plan s up copies.toNat ps).1) := by
  have HQ := hid (begin_any w v u s ps up copies hs hp hup hc64)
  have HSV := hid hs
  have HPV := hid hp
  obtain ⟨Post, hPost⟩ : ∃ Post, Post = PlanPost w s ps up copies (plan s up copies.toNat ps).1 := ⟨_, rfl⟩
  rw [← hPost]
  have HPost := hid hPost
  obtain ⟨aS, cS, rfl, hmS, -, -⟩ := hs
  obtain ⟨aP, cP, rfl, hmP, hcP⟩ := hp
  obtain ⟨m, hmm⟩ : ∃ m, m = ps.length := ⟨_, rfl⟩
  obtain ⟨N, hN⟩ : ∃ N, N = s.length := ⟨_, rfl⟩
  rw [← hmm] at HQ HPV hmP ⊢
  rw [← hN] at HQ HSV hmS ⊢
  have HM := hid (And.intro hmm hN)
  have HC := hid hcP
  unfold I64 at hc64
  have hm63 : (m : Int) ≤ 9223372036854775807 := by unfold maxLen at hmP; omega
  clear hPost hmm hN hcP
  go_enter Try.func14, Try.ntmps14
  go_wp2_with (at_builtin; refine stopAt ?_; intro q hq)
  refine HQ.out.mono ?_
  rintro e w1 ⟨hk1, hres⟩
  have HK1 := hid hk1
  clear hk1
  rcases hres with ⟨hne, rfl⟩ | ⟨h0, hcc, rfl⟩ | ⟨h0, hcc, b, gl, rfl, hW⟩
  · have t0 : ((check s ps : Nat) : Int) ≠ 0 := by omega
    obtain ⟨E, hE⟩ : ∃ E, E = check s ps := ⟨_, rfl⟩
    rw [← hE] at t0 ⊢
    have HE := hid (And.intro hE hne)
    have t1 : ((E : Int) != 0) = true := by simpa using t0
    clear hE hne t0
    go_wp2_with (at_builtin; refine stopAt ?_; intro q hq)
    rw [HPost.out]
    exact ⟨HK1.out, .inl ⟨HE.out.2, by rw [← HE.out.1]; rfl⟩⟩
  · have HE := hid (And.intro h0 hcc)
    have t1 : ((2 : Int) != 0) = true := by decide
    clear h0 hcc
    go_wp2_with (at_builtin; refine stopAt ?_; intro q hq)
    rw [HPost.out]
    exact ⟨HK1.out, .inr (.inl ⟨HE.out.1, HE.out.2, rfl⟩)⟩
  · have HE := hid (And.intro h0 (And.intro hcc hW))
    obtain ⟨cp, hcp⟩ : ∃ cp : Nat, (cp : Int) = copies := ⟨copies.toNat, by omega⟩
    have hcp12 : 1 ≤ cp ∧ cp ≤ 12 := by omega
    subst hcp
    rw [Int.toNat_natCast] at HPost
    have hcz := check_zero h0
    have HWf := hid hcz.2.2
    have hm256 : m ≤ 256 := by have := HM.out.1; omega
    have hout : PlanOut w w1 b gl s up cp ps 0 ps [] := ⟨hW, by unfold plan; simp, hcz.2.2, rfl, fun _ _ => rfl, fun _ => rfl, by simp⟩
    have HO := hid hout
    clear h0 hcc hW hcz hout
    go_wp2_with (at_builtin; refine stopAt ?_; intro q hq)
    go_loopw [30] (fun iv wr => ∃ i : Nat, i ≤ m ∧ iv = .int .i64 i ∧ Hid (∃ qs ms, PlanOut w wr b gl s up cp ps i qs ms)) (fun iv _ => m - (intOf iv).toNat)
    case atStart => exact ⟨0, Nat.zero_le _, rfl, hid ⟨_, _, HO.out⟩⟩
    case round =>
      obtain ⟨i, hi, rfl, HR⟩ := hrel
      obtain ⟨qs, ms, hR⟩ := HR.out
      have HR := hid hR
      by_cases hin : i < m
      · have h4 : (i : Int) < m := by omega
        have hil : i < ps.length := by have := HM.out.1; omega
        obtain ⟨ad, rfl, hcell⟩ := HC.out (by omega)
        obtain ⟨nv, g1, g2, g3, g4⟩ := hcell i hil
        have a0 := cell_old hR.work.keep _ _ g1
        have a1 := cell_old hR.work.keep _ _ g2
        have HG := hid (g3.keep hR.work.keep)
        obtain ⟨nl, hnl⟩ : ∃ nl, nl = ps[i].nodes := ⟨_, rfl⟩
        obtain ⟨ch, hch⟩ : ∃ ch, ch = ps[i].chunk := ⟨_, rfl⟩
        have hrise : Rise s.length nl := by rw [hnl]; exact HWf.out _ (List.getElem_mem hil)
        rw [← hnl] at HG
        rw [← hch] at a0
        have HN := hid (And.intro hrise (And.intro (show nodesAt ps i = nl by rw [hnl]; unfold nodesAt; simp [hil]) (show chunkAt ps i = ch by rw [hch]; unfold chunkAt; simp [hil])))
        obtain ⟨an, cn, hnv, hnm, hnz, hnc⟩ := HG.out
        subst hnv
        have hnn63 : (nl.length : Int) ≤ 9223372036854775807 := by unfold maxLen at hnm; omega
        clear hcell g1 g2 g3 g4 hnl hch hnz hnc hrise hR
        have hk2 : Keep (fun _ => False) wr (wr.alloc (.cells #[.int .i64 ch, .slice an nl.length cn] 44)) := (Keep.refl _ _).alloc _
        have hn2 := heap_alloc_new wr (.cells #[.int .i64 ch, .slice an nl.length cn] 44)
        go_upto_region 7 with fail
        obtain ⟨gp, hgp⟩ : ∃ gp, gp = wr.heap.size := ⟨_, rfl⟩
        obtain ⟨w2, hw2⟩ : ∃ w2, w2 = wr.alloc (.cells #[.int .i64 ch, .slice an nl.length cn] 44) := ⟨_, rfl⟩
        rw [← hw2] at hk2
        rw [← hw2, ← hgp] at hn2
        rw [← hw2, ← hgp]
        have H2 := hid (And.intro hn2 (And.intro hk2 hgp))
        clear hw2 hgp a0 a1
        obtain ⟨k0, k1, kf, kb⟩ := cells2' hn2
        clear hn2 hk2
        have hsm : nl.length ≤ 1000000 := by
          have h1 := HN.out.1.perm.length_eq
          have h2 := List.length_filter_le (fun x => decide (x ∈ nl)) (nums s.length)
          rw [nums_length] at h2
          have := HR.out.work.len
          omega
        go_wp2_with (at_builtin; refine stopAt ?_; intro q hq)
        refine (iclone_any w2 _ nl (HG.out.keep H2.out.2.1) hsm).mono ?_
        rintro e w3 ⟨v3, rfl, ho3, hk3⟩
        have H3 := hid (And.intro ho3 hk3)
        clear ho3 hk3
        go_wp2_with (at_builtin; refine stopAt ?_; intro q hq)
        have hw3 := (HR.out.later H2.out.2.1).later H3.out.2
        refine (wlive_any w3 b _ s nl (ldL s.length qs []) up hw3.work.workV H3.out.1.ints hsm (fun x hx => by have := HN.out.1.2 x hx; have := hw3.work.len; omega)).mono ?_
        rintro e w4 ⟨v4, rfl, ho4, hk4⟩
        have H4 := hid (And.intro ho4 (And.intro hk4 (hw3.later hk4)))
        clear ho4 hk4 hw3
        have hclear : ∀ k, wr.heap.size ≤ k → Clear w4 b gl k := by
          intro k hk
          obtain ⟨sv, cl, mv, -, f2, f3, f4, -⟩ := HR.out.work.ex
          have hb := heap_lt f2
          have hg : gl < wr.heap.size := f3.lt rfl
          refine ⟨by omega, by omega, fun c0 c1 c2 mv' e x => ?_⟩
          have hb4 := (H2.out.2.1.next H3.out.2 (fun _ _ x => x) (fun _ _ x => x)).next H4.out.2.1 (fun _ _ x => x) (fun _ _ x => x) |>.get f2 id
          rw [hb4] at e
          have hh := Option.some.inj e
          injection hh with h6 h7
          have h8 : mv = mv' := by simp at h6; exact h6.2.2.2
          rw [← h8] at x
          have := f4.lt x
          omega
        have hs2 := H2.out.2.1.size
        have hs3 := H3.out.2.size
        have hin0 : PlanIn w w4 b gl gp s up cp ps i cp qs nl v3 v4 ms := by
          have h0 := PlanIn.start (gp := gp) (hv := v3) (lv := v4) H4.out.2.2 hil hcp12.2 (by rw [HN.out.2.2]; exact H4.out.2.1.get (H3.out.2.get H2.out.1 id) id)
            (by rw [HN.out.2.1]; exact H3.out.1.1.keep H4.out.2.1 (fun _ _ x => x)) (by rw [HN.out.2.1]; exact H4.out.1.1)
            (fun k e => by
              have hk : wr.heap.size ≤ k := by
                rcases e with e | e | e
                · have := H3.out.1.2.1 k e; omega
                · have := H4.out.1.2.1 k e; omega
                · have := H2.out.2.2; omega
              exact ⟨by have := HR.out.work.keep.size; omega, hclear k hk⟩)
            (fun k e => ⟨fun e2 => by have h1 := H3.out.1.1.lt e; have h2 := H4.out.1.2.1 k e2; omega, by have := H3.out.1.2.1 k e; have := heap_lt H2.out.1; omega⟩)
            (fun k e => by have := H4.out.1.2.1 k e; have := heap_lt H2.out.1; omega)
          rw [HN.out.2.1] at h0
          exact h0
        have HI0 := hid hin0
        clear hin0 hclear hs2 hs3 k0 k1 kf kb
        go_wp2_with (at_builtin; refine stopAt ?_; intro q hq)
        go_loopw [14, 15] (fun xv yv wy => ∃ (f : Nat) (rs : List Pl) (hs : List Int) (ms' : List Mv) (hv lv : Value), hv = xv ∧ lv = yv ∧ Hid (PlanIn w wy b gl gp s up cp ps i f rs hs hv lv ms')) (fun _ yv _ => match yv with | .slice _ n _ => 12 - n | _ => 0)
        case atStart => exact ⟨cp, qs, nl, ms, _, _, rfl, rfl, HI0⟩
        case round =>
          obtain ⟨f, rs, hl, ms', hv, lv, rfl, rfl, HI⟩ := hrel
          obtain ⟨L, hL⟩ : ∃ L, L = (live up (nodesAt rs i)).length := ⟨_, rfl⟩
          obtain ⟨al, cl, rfl, hlc, hlm, -, -⟩ := HI.out.liv.form
          rw [← hL] at HI hlc ⊢
          have HL := hid hL
          have hL63 : (L : Int) ≤ 9223372036854775807 := by unfold maxLen at hlm; omega
          clear hL
          by_cases hl0 : 0 < L
          · have t0 : decide ((0 : Int) < (L : Int)) = true := by simp; omega
            by_cases hl1 : L < cp
            · have t1 : decide ((L : Int) < (cp : Int)) = true := by simp; omega
              obtain ⟨ah, ch', rfl, -⟩ := HI.out.has.form
              have hrise := HI.out.wf.at i
              have hI64 : ∀ z ∈ nodesAt rs i, I64 z := fun z hz => by have := hrise.2 z hz; have := HI.out.work.len; unfold I64; omega
              have hlv : IntsV wr (.slice al L cl) (live up (nodesAt rs i)) := IntsV.of_row (by rw [← HL.out]; have := HI.out.liv; rw [← HL.out] at this; exact this) (fun z hz => hI64 z (List.mem_filter.1 hz).1)
              have hhs : IntsV wr (.slice ah hl.length ch') hl := IntsV.of_row HI.out.has (fun z hz => hI64 z ((HI.out.mem z).1 hz))
              have HT := hid (target_any wr b _ _ s hl (live up (nodesAt rs i)) (ldL s.length rs []) up HI.out.work.workV hhs hlv (fun z hz => hrise.2 z (List.mem_filter.1 hz).1))
              rw [targetV_eq HI.out.mem] at HT
              have HIn := hid (And.intro hrise (And.intro hI64 (And.intro hlv hhs)))
              clear hrise hI64 hlv hhs
              go_wp2_with (at_builtin; refine stopAt ?_; intro q hq)
              refine HT.out.mono ?_
              rintro e w5 ⟨rfl, hk5⟩
              have HK5 := hid hk5
              clear hk5
              rcases target_spec s up rs (nodesAt rs i) with ⟨htn, -⟩ | ⟨t, hts, htr, htu, htn, -⟩
              · have hd := (HI.out.later HK5.out).out (planAt_none htn)
                have HD := hid hd
                rw [htn]
                have t2 : decide ((-1 : Int) < 0) = true := by decide
                clear hd htn
                simp only [Option.getD_none]
                go_wp2_with (at_builtin; refine stopAt ?_; intro q hq)
                exact ⟨⟨i + 1, by omega, by go_num, hid ⟨_, _, HD.out⟩⟩, by simp [intOf]; omega⟩
              · rw [hts]
                simp only [Option.getD_some]
                have t2 : decide (t < 0) = false := by simp; omega
                have HTs := hid (And.intro hts (And.intro htr (And.intro htu htn)))
                clear hts htr htu htn
                have hi5 := HI.out.later HK5.out
                obtain ⟨sv, clw, mv, -, f2, -, f4, f5⟩ := hi5.work.ex
                obtain ⟨nv5, f6⟩ := hi5.pl
                obtain ⟨am, cm, rfl, -⟩ := f4.form
                obtain ⟨M, hM⟩ : ∃ M, M = ms'.length := ⟨_, rfl⟩
                rw [← hM] at f2 f4 f5
                have k3 : w5.cell? ⟨b, 3, none⟩ = some (.slice am M cm) := by simp [World.cell?, f2]
                have kc : w5.cell? ⟨gp, 0, none⟩ = some (.int .i64 (chunkAt ps i)) := by simp [World.cell?, f6]
                have HSrc := hid (fun x : Later w5 => source_any x.val b _ s (live up (nodesAt rs i)) (ldL s.length rs []) up t (hi5.work.workV.keep x.keep) (((HIn.out.2.2.1).keep HK5.out).keep x.keep) (fun z hz => HIn.out.1.2 z (List.mem_filter.1 hz).1) HTs.out.2.1 (by rw [← HL.out]; exact hl0))
                obtain ⟨S, hS⟩ : ∃ S, S = source s (live up (nodesAt rs i)) t := ⟨_, rfl⟩
                rw [← hS] at HSrc
                obtain ⟨ch, hch⟩ : ∃ ch, ch = chunkAt ps i := ⟨_, rfl⟩
                rw [← hch] at kc
                have H5 := hid (And.intro hi5 (And.intro f2 (And.intro f4 (And.intro f5 (And.intro hM (And.intro hS hch))))))
                clear hi5 f2 f4 f5 f6 hM hS hch HT
                go_wp2_with (at_builtin; refine stopAt ?_; intro q hq)
                refine wp_region_canon [65] (by kernel_rfl) (by kernel_rfl) ?_
                repeat (first | (apply wpC_pure (by rfl); (intro K w'; go_simp; exact id)) | (apply wpC_load (by rfl); (intro K; go_simp; exact id)))
                refine wpC_new (by rfl) (by rfl) (fun K hK => ?_)
                go_simp
                refine (HSrc.out ⟨w5.drew, (Keep.refl _ _).drew⟩).mono ?_
                rintro e w6 ⟨rfl, hk6⟩
                refine hK _ _ (Pre.of_keep hk6) ?_
                clear hK K
                have HK6 := hid (((Keep.refl _ w5).drew).next hk6 (fun _ _ x => x) (fun _ _ x => x))
                clear hk6
                repeat (first | (apply wpC_pure (by rfl); (intro K w'; go_simp; exact id)) | (apply wpC_load (by rfl); (intro K; go_simp; exact id)))
                (refine wpC_new (by rfl) (by rfl) (fun K hK => ?_); go_simp; refine hK _ _ (Pre.push _ rfl) ?_; clear hK K)
                have hk7 : Keep (fun _ => False) w6 (w6.alloc (.cells #[.int .i64 ch, .int .i64 S, .int .i64 t] 52)) := (Keep.refl _ _).alloc _
                have hn7 : (w6.alloc (.cells #[.int .i64 ch, .int .i64 S, .int .i64 t] 52)).heap[w6.heap.size]? = some (.cells #[.int .i64 ch, .int .i64 S, .int .i64 t] 52) := heap_alloc_new w6 _
                obtain ⟨w7, hw7⟩ : ∃ w7, w7 = w6.alloc (.cells #[.int .i64 ch, .int .i64 S, .int .i64 t] 52) := ⟨_, rfl⟩
                rw [← hw7] at hk7 hn7 ⊢
                clear hw7 k3 kc
                have hk57 := HK6.out.next hk7 (fun _ _ x => x) (fun _ _ x => x)
                have hm7 := (H5.out.1.later hk57).memory
                have hb7 := hk57.get H5.out.2.1 id
                have hr7 := H5.out.2.2.1.keep hk57 (fun _ _ x => x)
                have hml : M ≤ 100000 := by have := HI.out.msl; have := H5.out.2.2.2.2.1; have := HM.out.1; omega
                refine wpC_act (by rfl) (by rfl) (fun K hK => ?_)
                refine wp_append ty_moves (.tmp 59) (.tmp 68) rfl rfl hr7 (some ⟨w6.heap.size, 0, none⟩) 1 1 (mvV ⟨ch, S, t⟩) rfl
                  ⟨rfl, fun _ => ⟨_, rfl, fun t u hu => by rw [addr_add, Nat.zero_add, cell_of_row _ _ _ _ _ _ hn7]; simpa [mvV] using hu⟩⟩ (mvV_one _) (by unfold maxLen; omega) (by omega) ?_
                intro v8 w8 hr8 hk8 hv8
                refine hK _ _ ?_
                clear hK K
                obtain ⟨am8, cm8, rfl, -⟩ := hr8.form
                have hm9 := hm7.push hb7 ⟨ch, S, t⟩ hk8 (by rw [← H5.out.2.2.2.2.1]; exact hr8) (by
                  rcases hv8 with ⟨_, h0⟩ | ⟨k', h1, h2⟩
                  · omega
                  · exact ⟨k', h1, h2.imp id fun x => by omega⟩)
                have hb8 := hk8.get hb7 (fun x => (H5.out.2.2.2.1 b x).2.1 rfl)
                have e8 : w8.cell? ⟨b, 3, none⟩ = some (.slice am M cm) := by simp [World.cell?, hb8]
                have e9 : w8.frozen? ⟨b, 3, none⟩ = false := by simp [World.frozen?, hb8]
                have HM9 := hid hm9
                clear hk7 hn7 hk57 hm7 hb7 hr7 hr8 hk8 hv8 hm9 hb8
                repeat (first | (apply wpC_pure (by rfl); (intro K w'; go_simp; exact id)) | (apply wpC_load (by rfl); (intro K; go_simp; exact id)))
                (refine wpC_act (by rfl) (by rfl) (fun K hK => ?_); go_simp; refine hK _ _ ?_; clear hK K)
                refine wpC_nil ?_
                obtain ⟨w9, hw9⟩ : ∃ w9, w9 = w8.setCell ⟨b, 3, none⟩ (.slice am8 (M + 1) cm8) := ⟨_, rfl⟩
                rw [← hw9] at HM9 ⊢
                clear hw9 e8 e9
                obtain ⟨tn, htn⟩ : ∃ x : Nat, (x : Int) = t := ⟨t.toNat, by have := HTs.out.2.1; omega⟩
                subst htn
                have htN : tn < N := by have := HTs.out.2.1; have := HM.out.2; omega
                obtain ⟨clg, g1, g2, g3⟩ := HM9.out.load (t := tn) (by rw [← HM.out.2]; exact htN)
                rw [← HM.out.2] at g1
                obtain ⟨zc, hzc⟩ : ∃ zc, zc = loadOf rs (tn : Int) := ⟨_, rfl⟩
                rw [← hzc] at g2
                have hz256 : zc ≤ 256 := by
                  rw [hzc]
                  unfold loadOf
                  refine Nat.le_trans List.countP_le_length ?_
                  have := HI.out.len; have := HM.out.1; omega
                have wq : IntKind.i64.wrap ((zc : Int) + 1) = (zc : Int) + 1 := by simp [IntKind.wrap, IntKind.signed, IntKind.bits]; omega
                have htN' : (tn : Int) < N := by omega
                have HZ := hid hzc
                clear hzc
                go_wp2_with (at_builtin; refine stopAt ?_; intro q hq)
                (refine hq.out ?_; clear hq q)
                have hm10 := HM9.out.bump tn (by have := HM.out.2; omega) ((zc : Int) + 1) (by omega)
                obtain ⟨w10, hw10⟩ : ∃ w10, w10 = w9.setCell ⟨gl, tn, none⟩ (.int .i64 ((zc : Int) + 1)) := ⟨_, rfl⟩
                rw [← hw10] at hm10 ⊢
                have hn11 := heap_alloc_new w10 (.cells #[.int .i64 (tn : Int)] 3)
                have hk11 : Keep (fun _ => False) w10 (w10.alloc (.cells #[.int .i64 (tn : Int)] 3)) := (Keep.refl _ _).alloc _
                obtain ⟨w11, hw11⟩ : ∃ w11, w11 = w10.alloc (.cells #[.int .i64 (tn : Int)] 3) := ⟨_, rfl⟩
                rw [← hw11] at hn11 hk11 ⊢
                have hsz : w10.heap.size = w9.heap.size := by rw [hw10]; simp
                rw [hsz] at hn11
                clear hw10 hw11 g1 g2 g3
                have hm11 := hm10.later hk11
                have hll : hl.length ≤ 12 ∧ L ≤ 12 := by
                  have h1 := HIn.out.1.perm.length_eq
                  have h2 := List.length_filter_le (fun x => decide (x ∈ nodesAt rs i)) (nums s.length)
                  rw [nums_length] at h2
                  have h3 := HI.out.hlen
                  have h4 := HI.out.work.len
                  exact ⟨by omega, by omega⟩
                have HLL := hid hll
                refine wpList_plain rfl (fun K hK => ?_)
                refine wp_append ty_nums (.tmp 81) (.tmp 83) rfl rfl hm11.has (some ⟨w9.heap.size, 0, none⟩) 1 1 [.int .i64 (tn : Int)] (by rfl)
                  ⟨rfl, fun _ => ⟨_, rfl, fun t u hu => by rw [addr_add, Nat.zero_add, cell_of_row _ _ _ _ _ _ hn11]; simpa using hu⟩⟩ (numsV_one [(tn : Int)]) (by unfold maxLen; omega) (by omega) ?_
                intro v12 w12 hr12 hk12 hv12
                refine hK _ _ ?_
                clear hK K
                have hm12 := hm11.newHas (h' := hl ++ [(tn : Int)]) hk12 (by rw [List.length_append, List.length_singleton]; simpa [numsV] using hr12) (own_of hv12)
                have HM12 := hid hm12
                clear hm10 hm11 hm12 hr12 hk12 hv12 hn11 hk11 hll hsz
                go_wp2_with (at_builtin; refine stopAt ?_; intro q hq)
                (refine hq.out ?_; clear hq q)
                have hn13 := heap_alloc_new w12 (.cells #[.int .i64 (tn : Int)] 3)
                have hk13 : Keep (fun _ => False) w12 (w12.alloc (.cells #[.int .i64 (tn : Int)] 3)) := (Keep.refl _ _).alloc _
                obtain ⟨w13, hw13⟩ : ∃ w13, w13 = w12.alloc (.cells #[.int .i64 (tn : Int)] 3) := ⟨_, rfl⟩
                rw [← hw13] at hn13 hk13 ⊢
                clear hw13
                have hm13 := HM12.out.later hk13
                have hliv := hm13.liv
                rw [← HL.out] at hliv
                have hll := HLL.out
                refine wpList_plain rfl (fun K hK => ?_)
                refine wp_append ty_nums (.tmp 85) (.tmp 87) rfl rfl hliv (some ⟨w12.heap.size, 0, none⟩) 1 1 [.int .i64 (tn : Int)] (by rfl)
                  ⟨rfl, fun _ => ⟨_, rfl, fun t u hu => by rw [addr_add, Nat.zero_add, cell_of_row _ _ _ _ _ _ hn13]; simpa using hu⟩⟩ (numsV_one [(tn : Int)]) (by unfold maxLen; omega) (by omega) ?_
                intro v14 w14 hr14 hk14 hv14
                refine hK _ _ ?_
                clear hK K
                have hm14 := hm13.newLive (l' := live up (nodesAt rs i) ++ [(tn : Int)]) hk14 (by rw [List.length_append, List.length_singleton, ← HL.out]; simpa [numsV] using hr14) (own_of hv14)
                have HM14 := hid hm14
                clear hm13 hm14 hr14 hk14 hv14 hn13 hk13 hll hliv
                go_wp2_with (at_builtin; refine stopAt ?_; intro q hq)
                refine (sort_ints w14 v14 _ HM14.out.liv (by rw [List.length_append, List.length_singleton, ← HL.out]; have := HLL.out; omega)).mono ?_
                rintro e w15 ⟨rfl, hr15, hk15⟩
                rw [live_sorted HIn.out.1 HTs.out.2.2.2 HTs.out.2.2.1 HTs.out.2.1.1 HTs.out.2.1.2] at hr15
                have hlw := live_withN (up := up) HTs.out.2.2.2 HTs.out.2.2.1
                have hm15 := HM14.out.newLive (l' := live up (withN (nodesAt rs i) (tn : Int))) hk15 (by rw [hlw]; rw [List.length_append, List.length_singleton] at hr15; exact hr15) (fun k e => .inl e)
                have hil : i < ps.length := by have := HM.out.1; omega
                have hf0 : ∃ f', f = f' + 1 := ⟨f - 1, by have := HI.out.fuel; rw [← HL.out] at this; omega⟩
                obtain ⟨f', rfl⟩ := hf0
                have hfin : PlanIn w w15 b gl gp s up cp ps i f' (setNodes rs i (withN (nodesAt rs i) (tn : Int))) (hl ++ [(tn : Int)]) v12 v14 (ms' ++ [⟨chunkAt ps i, source s (live up (nodesAt rs i)) (tn : Int), (tn : Int)⟩]) :=
                  HI.out.step hil (by rw [← HL.out]; exact hl0) (by rw [← HL.out]; exact hl1) HTs.out.1 HTs.out.2.2.2 HTs.out.2.2.1 HTs.out.2.1 (by
                    have h1 := hm15.work
                    rw [HZ.out, ldL_with (by rw [HI.out.len]; exact hil) (by rw [← HM.out.2]; exact htN) HTs.out.2.2.2, H5.out.2.2.2.2.2.1, H5.out.2.2.2.2.2.2] at h1
                    exact h1) hm15.has hm15.liv hm15.own hm15.apart hm15.apart2 hm15.pl
                obtain ⟨al14, cl14, rfl, -⟩ := HM14.out.liv.form
                rw [List.length_append, List.length_singleton] at hfin
                have HFin := hid hfin
                have hmeas : 12 - ((live up (nodesAt rs i)).length + 1) < 12 - L := by rw [← HL.out]; have := HLL.out; have := HI.out.fuel; omega
                clear hr15 hk15 hlw hm15 hfin
                go_wp2_with (at_builtin; refine stopAt ?_; intro q hq)
                exact ⟨⟨_, _, _, _, _, _, rfl, rfl, HFin⟩, hmeas⟩
            · have t1 : decide ((L : Int) < (cp : Int)) = false := by simp; omega
              have hd := HI.out.out (planAt_end (by rw [← HL.out]; omega))
              have HD := hid hd
              clear hd
              go_wp2_with (at_builtin; refine stopAt ?_; intro q hq)
              exact ⟨⟨i + 1, by omega, by go_num, hid ⟨_, _, HD.out⟩⟩, by simp [intOf]; omega⟩
          · have t0 : decide ((0 : Int) < (L : Int)) = false := by simp; omega
            have hd := HI.out.out (planAt_end (by rw [← HL.out]; omega))
            have HD := hid hd
            clear hd
            go_wp2_with (at_builtin; refine stopAt ?_; intro q hq)
            exact ⟨⟨i + 1, by omega, by go_num, hid ⟨_, _, HD.out⟩⟩, by simp [intOf]; omega⟩
      · have h4 : decide ((i : Int) < m) = false := by simp; omega
        obtain ⟨sv, cl, mv, -, f2, -, f4, f5⟩ := hR.work.ex
        have q1 : wr.cell? ⟨b, 3, none⟩ = some mv := by simp [World.cell?, f2]
        obtain ⟨am, cm, rfl, -⟩ := f4.form
        have htot : (plan s up cp ps).1 = ms := by
          have := hR.tot
          rw [show ps.length - i = 0 by have := HM.out.1; omega] at this
          simpa [planFrom] using this
        have HF := hid (And.intro f4 (And.intro f5 htot))
        clear f2 f4 f5 htot hR
        go_wp2_with (at_builtin; refine stopAt ?_; intro q hq)
        rw [HPost.out]
        refine ⟨HR.out.work.keep, .inr (.inr ⟨HE.out.1, HE.out.2.1, _, rfl, by rw [HF.out.2.2]; exact HF.out.1, fun k e => (HF.out.2.1 k e).1⟩)⟩
end Go.Proofs.Ytmdonjadhkffiaa
/- Heal: what a drop keeps from round to round. Conditions: as each law names them. -/
namespace Go.Proofs.Ytmdonjadhkffiaa
open Go.RowKit
open HE

section
variable {w0 w w' : World} {b gl gp c1 c2 : Nat} {s : List Int} {up : Nat} {ld : List Int} {ms : List Mv} {ch : Int} {l : List Int} {lv : Value}

theorem Clear.pushed (H : WorkAt w0 w b gl s up ld ms) {c0 d1 d2 mv mv' : Value} (hb : w.heap[b]? = some (.cells #[c0, d1, d2, mv] 70 (0, 0))) (hk : Keep (fun k => mv.ownBlock = some k) w w')
    (ho : ∃ k, mv'.ownBlock = some k ∧ (mv.ownBlock = some k ∨ w.heap.size ≤ k)) {k : Nat} (hc : Clear w b gl k) (hlt : k < w.heap.size) : Clear (w'.setCell ⟨b, 3, none⟩ mv') b gl k := by
  refine ⟨hc.1, hc.2.1, fun e0 e1 e2 dm hd x => ?_⟩
  have hbk := hk.get hb (fun x => by
    obtain ⟨_, _, mv1, _, g2, _, _, g5⟩ := H.ex
    rw [hb] at g2
    have hh := Option.some.inj g2
    injection hh with h6 h7
    have : mv = mv1 := by simp at h6; exact h6.2.2.2
    rw [this] at x
    exact (g5 b x).2.1 rfl)
  have hbn : (w'.setCell ⟨b, 3, none⟩ mv').heap[b]? = some (.cells #[c0, d1, d2, mv'] 70 (0, 0)) := by
    simp [World.setCell, Array.getElem?_modify, hbk]
  rw [hbn] at hd
  have hh := Option.some.inj hd
  injection hh with h6 h7
  have hm : mv' = dm := by simp at h6; exact h6.2.2.2
  rw [← hm] at x
  obtain ⟨k', hk', hor⟩ := ho
  rw [x] at hk'
  cases hk'
  rcases hor with hor | hor
  · exact hc.2.2 _ _ _ _ hb hor
  · omega

structure DropMem (w0 w : World) (b gl gp c1 c2 : Nat) (s : List Int) (up : Nat) (ld : List Int) (ms : List Mv) (ch : Int) (l : List Int) (lv : Value) : Prop where
  mem : PlanMem w0 w b gl gp s up ld ms ch [] (.slice none 0 0) l lv
  box1 : w.heap[c1]? = some (.cells #[.pointer (some ⟨b, 0, none⟩)] 64 (0, 0))
  box2 : w.heap[c2]? = some (.cells #[lv] 22 (0, 0))
  out1 : w0.heap.size ≤ c1 ∧ Clear w b gl c1 ∧ c1 ≠ gp ∧ c1 ≠ c2 ∧ lv.ownBlock ≠ some c1
  out2 : w0.heap.size ≤ c2 ∧ Clear w b gl c2 ∧ c2 ≠ gp ∧ lv.ownBlock ≠ some c2

theorem DropMem.later (H : DropMem w0 w b gl gp c1 c2 s up ld ms ch l lv) (hk : Keep (fun _ => False) w w') : DropMem w0 w' b gl gp c1 c2 s up ld ms ch l lv := by
  obtain ⟨o, hb⟩ := H.mem.work.head
  exact ⟨H.mem.later hk, hk.get H.box1 id, hk.get H.box2 id, ⟨H.out1.1, H.out1.2.1.later hb (by rw [hk.get hb id, hb]), H.out1.2.2⟩, ⟨H.out2.1, H.out2.2.1.later hb (by rw [hk.get hb id, hb]), H.out2.2.2⟩⟩
theorem DropMem.push (H : DropMem w0 w b gl gp c1 c2 s up ld ms ch l lv) {c0 d1 d2 mv mv' : Value} (hb : w.heap[b]? = some (.cells #[c0, d1, d2, mv] 70 (0, 0))) (m : Mv) (hk : Keep (fun k => mv.ownBlock = some k) w w')
    (hr : Row w' 52 3 mv' (ms.length + 1) (mvsV ms ++ mvV m)) (ho : ∃ k, mv'.ownBlock = some k ∧ (mv.ownBlock = some k ∨ w.heap.size ≤ k)) :
    DropMem w0 (w'.setCell ⟨b, 3, none⟩ mv') b gl gp c1 c2 s up ld (ms ++ [m]) ch l lv := by
  have hk2 : Keep (fun k => k = b) w' (w'.setCell ⟨b, 3, none⟩ mv') := by refine Keep.setCell (Keep.refl _ _) (.inl ?_) _; rfl
  exact ⟨H.mem.push hb m hk hr ho, hk2.get (hk.get H.box1 (H.out1.2.1.2.2 _ _ _ _ hb)) H.out1.2.1.1, hk2.get (hk.get H.box2 (H.out2.2.1.2.2 _ _ _ _ hb)) H.out2.2.1.1,
    ⟨H.out1.1, Clear.pushed H.mem.work hb hk ho H.out1.2.1 (heap_lt H.box1), H.out1.2.2⟩, ⟨H.out2.1, Clear.pushed H.mem.work hb hk ho H.out2.2.1 (heap_lt H.box2), H.out2.2.2⟩⟩
theorem DropMem.bump (H : DropMem w0 w b gl gp c1 c2 s up ld ms ch l lv) (x : Nat) (hx : x < s.length) (z : Int) (hz : 0 ≤ z ∧ z ≤ 1000000) :
    DropMem w0 (w.setCell ⟨gl, x, none⟩ (.int .i64 z)) b gl gp c1 c2 s up (ld.set x z) ms ch l lv := by
  have hk : Keep (fun k => k = gl) w (w.setCell ⟨gl, x, none⟩ (.int .i64 z)) := by refine Keep.setCell (Keep.refl _ _) (.inl ?_) _; rfl
  obtain ⟨o, hb⟩ := H.mem.work.head
  exact ⟨H.mem.bump x hx z hz, hk.get H.box1 H.out1.2.1.2.1, hk.get H.box2 H.out2.2.1.2.1, ⟨H.out1.1, H.out1.2.1.later hb (by rw [hk.get hb H.mem.work.ne, hb]), H.out1.2.2⟩, ⟨H.out2.1, H.out2.2.1.later hb (by rw [hk.get hb H.mem.work.ne, hb]), H.out2.2.2⟩⟩
/-- The second list anew, and its box. -/
theorem DropMem.newLive (H : DropMem w0 w b gl gp c1 c2 s up ld ms ch l lv) {l' : List Int} {lv' : Value} (hk : Keep (fun k => lv.ownBlock = some k) w w') (hr : Row w' 3 1 lv' l'.length (numsV l'))
    (ho : lv'.ownBlock = lv.ownBlock) : DropMem w0 (w'.setCell ⟨c2, 0, none⟩ lv') b gl gp c1 c2 s up ld ms ch l' lv' := by
  have hk2 : Keep (fun k => k = c2) w' (w'.setCell ⟨c2, 0, none⟩ lv') := by refine Keep.setCell (Keep.refl _ _) (.inl ?_) _; rfl
  obtain ⟨o, hb⟩ := H.mem.work.head
  have hb' := hk.get hb (fun x => (H.mem.own b (.inr (.inl x))).2.1 rfl)
  have hbb := hk2.get hb' (fun x => H.out2.2.1.1 x.symm)
  have h1 := H.mem.newLive hk hr (fun k e => .inl (by rw [← ho]; exact e))
  obtain ⟨nv, hp⟩ := h1.pl
  refine ⟨⟨h1.work.aside hk2 (fun k e => by rw [e]; exact ⟨H.out2.1, H.out2.2.1.1, H.out2.2.1.2.1⟩) (fun k e0 e1 e2 mv hm e x => ?_), Row.nil _ _ _, h1.liv.keep hk2 (fun k e x => H.out2.2.2.2 (by rw [← ho, ← x]; exact e)), fun k e => ⟨(h1.own k e).1, (h1.own k e).2.later hb' (by rw [hbb, hb'])⟩, h1.apart, h1.apart2, ⟨nv, hk2.get hp (fun x => H.out2.2.2.1 x.symm)⟩⟩,
    hk2.get (hk.get H.box1 H.out1.2.2.2.2) H.out1.2.2.2.1, ?_, ⟨H.out1.1, H.out1.2.1.later hb (by rw [hbb, hb]), H.out1.2.2.1, H.out1.2.2.2.1, by rw [ho]; exact H.out1.2.2.2.2⟩, ⟨H.out2.1, H.out2.2.1.later hb (by rw [hbb, hb]), H.out2.2.2.1, by rw [ho]; exact H.out2.2.2.2⟩⟩
  · rw [hb', ← hb] at hm
    rw [x] at e
    exact H.out2.2.1.2.2 _ _ _ _ hm e
  · have := hk.get H.box2 H.out2.2.2.2
    simp [World.setCell, Array.getElem?_modify, this]
theorem DropMem.load {ps : List Pl} (H : DropMem w0 w b gl gp c1 c2 s up (ldL s.length ps []) ms ch l lv) {t : Nat} (ht : t < s.length) :
    ∃ cl, w.cell? ⟨b, 2, none⟩ = some (.slice (some ⟨gl, 0, none⟩) s.length cl) ∧ w.cell? ⟨gl, t, none⟩ = some (.int .i64 (loadOf ps (t : Int) : Nat)) ∧ w.frozen? ⟨gl, t, none⟩ = false := H.mem.load ht
end

/-! ### plain -/
theorem ldL_without {N : Nat} {ps : List Pl} {i : Nat} {t : Nat} (hi : i < ps.length) (ht : t < N) (hn : (t : Int) ∈ nodesAt ps i) :
    (ldL N ps []).set t ((loadOf ps (t : Int) : Int) - 1) = ldL N (setNodes ps i (without (nodesAt ps i) t)) [] ∧ 1 ≤ loadOf ps (t : Int) := by
  have hnode : nodesAt ps i = ps[i].nodes := by unfold nodesAt; simp [hi]
  have hge : ∀ n : Int, n ∈ ps[i].nodes → 1 ≤ loadOf ps n := fun n h => by
    have : 0 < ps.countP fun p => decide (n ∈ p.nodes) := List.countP_pos_iff.2 ⟨ps[i], List.getElem_mem hi, by simpa using h⟩
    unfold loadOf; omega
  have hl : ∀ n : Int, loadOf (setNodes ps i (without (nodesAt ps i) t)) n = loadOf ps n - if n = t then 1 else 0 := by
    intro n
    unfold loadOf setNodes
    rw [List.countP_set hi]
    have hmem : n ∈ without (nodesAt ps i) (t : Int) ↔ n ≠ t ∧ n ∈ ps[i].nodes := by
      unfold without
      rw [List.mem_filter, hnode]
      simp [and_comm]
    have hd : decide (n ∈ without (nodesAt ps i) (t : Int)) = (!decide (n = t) && decide (n ∈ ps[i].nodes)) := by
      rw [decide_eq_decide.2 hmem, Bool.decide_and]; simp
    simp only [hd]
    by_cases hnt : n = t
    · rw [hnt]
      have h1 : decide ((t : Int) ∈ ps[i].nodes) = true := by rw [← hnode]; simpa using hn
      simp [h1]
    · by_cases hp : n ∈ ps[i].nodes
      · have := hge n hp
        unfold loadOf at this
        simp [hnt, hp]; omega
      · simp [hnt, hp]
  refine ⟨?_, hge _ (by rw [← hnode]; exact hn)⟩
  apply List.ext_getElem?
  intro j
  by_cases hj : j < N
  · rw [ldL_get N _ _ j hj, hl]
    by_cases e : j = t
    · subst e
      rw [List.getElem?_set_self (by rw [ldL_length]; omega)]
      have := hge _ (by rw [← hnode]; exact hn)
      simp; omega
    · rw [List.getElem?_set_ne (fun h => e h.symm), ldL_get N ps [] j hj]
      have : (j : Int) ≠ (t : Int) := by omega
      simp [this]
  · rw [List.getElem?_eq_none (by rw [List.length_set, ldL_length]; omega), List.getElem?_eq_none (by rw [ldL_length]; omega)]
theorem live_drop {up : Nat} {l : List Int} {t : Int} : (live up l).filter (fun x => !decide (x = t)) = live up (without l t) := by
  unfold live without
  rw [List.filter_filter, List.filter_filter]
  congr 1
  funext x
  by_cases h1 : x = t <;> by_cases h2 : isUp up x = true <;> simp [h1, h2]
theorem dropAt_end {s : List Int} {up copies i f : Nat} {ps : List Pl} (h : ¬ (copies < (live up (nodesAt ps i)).length)) : dropAt s up copies i f ps = ([], ps) := by
  cases f with
  | zero => rfl
  | succ f => unfold dropAt; rw [if_neg h]
theorem dropAt_go {s : List Int} {up copies i f : Nat} {ps : List Pl} {t : Int} (h1 : copies < (live up (nodesAt ps i)).length) (ht : worst s up ps (nodesAt ps i) = some t) :
    dropAt s up copies i (f + 1) ps = (⟨chunkAt ps i, t, -1⟩ :: (dropAt s up copies i f (setNodes ps i (without (nodesAt ps i) t))).1, (dropAt s up copies i f (setNodes ps i (without (nodesAt ps i) t))).2) := by
  conv => lhs; unfold dropAt
  rw [if_pos h1, ht]
theorem worstV_eq {s : List Int} {up : Nat} {ps : List Pl} {l : List Int} (h : Rise s.length l) : pickFrom (fun x y => decide (0 < cmpW s (live up l) (ldL s.length ps []) x y)) none (live up l) = worst s up ps l := by
  unfold worst
  exact pick_congr (Q := fun x => 0 ≤ x ∧ x < (s.length : Int)) (fun x y hx hy => cmpW_pos hx hy) (live up l) none (fun x hx => h.2 x (List.mem_filter.1 hx).1) (fun x hx => by cases hx)

/-- Between places. -/
structure DropOut (w0 w : World) (b gl c1 : Nat) (s : List Int) (up copies : Nat) (ps0 : List Pl) (i : Nat) (ps : List Pl) (ms : List Mv) : Prop where
  work : WorkAt w0 w b gl s up (ldL s.length ps []) ms
  box1 : w.heap[c1]? = some (.cells #[.pointer (some ⟨b, 0, none⟩)] 64 (0, 0))
  out1 : w0.heap.size ≤ c1 ∧ Clear w b gl c1
  tot : (drop s up copies ps0).1 = ms ++ (dropFrom s up copies i (ps0.length - i) ps).1
  wf : Wf s ps
  len : ps.length = ps0.length
  left : ∀ j, i ≤ j → nodesAt ps j = nodesAt ps0 j
  chunk : ∀ j, chunkAt ps j = chunkAt ps0 j
  msl : ms.length ≤ 12 * i
theorem DropOut.later {w0 w w' : World} {b gl c1 : Nat} {s : List Int} {up copies : Nat} {ps0 : List Pl} {i : Nat} {ps : List Pl} {ms : List Mv} (h : DropOut w0 w b gl c1 s up copies ps0 i ps ms) (hk : Keep (fun _ => False) w w') : DropOut w0 w' b gl c1 s up copies ps0 i ps ms := by
  obtain ⟨o, hb⟩ := h.work.head
  exact ⟨h.work.later hk, hk.get h.box1 id, ⟨h.out1.1, h.out1.2.later hb (by rw [hk.get hb id, hb])⟩, h.tot, h.wf, h.len, h.left, h.chunk, h.msl⟩

/-- Within a place. -/
structure DropIn (w0 w : World) (b gl gp c1 c2 : Nat) (s : List Int) (up copies : Nat) (ps0 : List Pl) (i f : Nat) (ps : List Pl) (lv : Value) (ms : List Mv) : Prop where
  mem : DropMem w0 w b gl gp c1 c2 s up (ldL s.length ps []) ms (chunkAt ps0 i) (live up (nodesAt ps i)) lv
  tot : (drop s up copies ps0).1 = ms ++ (dropAt s up copies i f ps).1 ++ (dropFrom s up copies (i + 1) (ps0.length - (i + 1)) (dropAt s up copies i f ps).2).1
  wf : Wf s ps
  len : ps.length = ps0.length
  left : ∀ j, i < j → nodesAt ps j = nodesAt ps0 j
  chunk : ∀ j, chunkAt ps j = chunkAt ps0 j
  msl : ms.length + f ≤ 12 * (i + 1)
  fuel : (live up (nodesAt ps i)).length ≤ f
theorem DropIn.later {w0 w w' : World} {b gl gp c1 c2 : Nat} {s : List Int} {up copies : Nat} {ps0 : List Pl} {i f : Nat} {ps : List Pl} {lv : Value} {ms : List Mv} (H : DropIn w0 w b gl gp c1 c2 s up copies ps0 i f ps lv ms) (hk : Keep (fun _ => False) w w') : DropIn w0 w' b gl gp c1 c2 s up copies ps0 i f ps lv ms :=
  ⟨H.mem.later hk, H.tot, H.wf, H.len, H.left, H.chunk, H.msl, H.fuel⟩
theorem DropIn.out {w0 w : World} {b gl gp c1 c2 : Nat} {s : List Int} {up copies : Nat} {ps0 : List Pl} {i f : Nat} {ps : List Pl} {lv : Value} {ms : List Mv} (H : DropIn w0 w b gl gp c1 c2 s up copies ps0 i f ps lv ms)
    (hd : ¬ (copies < (live up (nodesAt ps i)).length)) : DropOut w0 w b gl c1 s up copies ps0 (i + 1) ps ms := by
  refine ⟨H.mem.mem.work, H.mem.box1, ⟨H.mem.out1.1, H.mem.out1.2.1⟩, ?_, H.wf, H.len, fun j hj => H.left j (by omega), H.chunk, by have := H.msl; omega⟩
  have := H.tot
  rw [dropAt_end hd] at this
  simpa using this
theorem DropIn.start {w0 w : World} {b gl gp c1 c2 : Nat} {s : List Int} {up copies : Nat} {ps0 : List Pl} {i : Nat} {ps : List Pl} {lv : Value} {ms : List Mv} (H : DropOut w0 w b gl c1 s up copies ps0 i ps ms) (hi : i < ps0.length)
    (hN : (nodesAt ps0 i).length ≤ 12) (hm : DropMem w0 w b gl gp c1 c2 s up (ldL s.length ps []) ms (chunkAt ps0 i) (live up (nodesAt ps0 i)) lv) : DropIn w0 w b gl gp c1 c2 s up copies ps0 i (nodesAt ps0 i).length ps lv ms := by
  have e := H.left i (Nat.le_refl _)
  refine ⟨by rw [e]; exact hm, ?_, H.wf, H.len, fun j hj => H.left j (by omega), H.chunk, by have := H.msl; omega, by rw [e]; exact List.length_filter_le _ _⟩
  have ht := H.tot
  rw [show ps0.length - i = (ps0.length - (i + 1)) + 1 by omega] at ht
  rw [ht]
  show ms ++ ((dropAt s up copies i (nodesAt ps i).length ps).1 ++ (dropFrom s up copies (i + 1) (ps0.length - (i + 1)) (dropAt s up copies i (nodesAt ps i).length ps).2).1) = _
  rw [List.append_assoc, e]
theorem DropIn.step {w0 w w' : World} {b gl gp c1 c2 : Nat} {s : List Int} {up copies : Nat} {ps0 : List Pl} {i f : Nat} {ps : List Pl} {lv lv' : Value} {ms : List Mv} {t : Int} (H : DropIn w0 w b gl gp c1 c2 s up copies ps0 i (f + 1) ps lv ms)
    (hi : i < ps0.length) (h1 : copies < (live up (nodesAt ps i)).length) (ht : worst s up ps (nodesAt ps i) = some t) (hl : t ∈ live up (nodesAt ps i))
    (hm : DropMem w0 w' b gl gp c1 c2 s up (ldL s.length (setNodes ps i (without (nodesAt ps i) t)) []) (ms ++ [⟨chunkAt ps0 i, t, -1⟩]) (chunkAt ps0 i) (live up (without (nodesAt ps i) t)) lv') :
    DropIn w0 w' b gl gp c1 c2 s up copies ps0 i f (setNodes ps i (without (nodesAt ps i) t)) lv' (ms ++ [⟨chunkAt ps0 i, t, -1⟩]) := by
  have hil : i < ps.length := by rw [H.len]; exact hi
  have hnode : nodesAt (setNodes ps i (without (nodesAt ps i) t)) i = without (nodesAt ps i) t := nodesAt_set hil _
  refine ⟨by rw [hnode]; exact hm, ?_, H.wf.set i (without_rise (H.wf.at i)), by rw [set_len, H.len], fun j hj => by rw [nodesAt_other (by omega)]; exact H.left j hj, fun j => by rw [chunkAt_set]; exact H.chunk j, ?_, ?_⟩
  · have := H.tot
    rw [dropAt_go h1 ht, H.chunk i] at this
    rw [this]
    simp
  · have := H.msl
    rw [List.length_append, List.length_singleton]; omega
  · have := H.fuel
    have h2 := (live_without (H.wf.at i).nodup hl).2
    rw [hnode]; omega

set_option maxRecDepth 20000 in
theorem drop2_any (w : World) (c3 : Nat) (t n : Int) (hc : w.cell? ⟨c3, 0, none⟩ = some (.int .i64 t)) :
    Calls Try.prog 48 #[.int .i64 n, .pointer (some ⟨c3, 0, none⟩)] w fun e w' => e = .returned (.bool (decide (n = t))) ∧ Keep (fun _ => False) w w' := by
  obtain ⟨B, hB⟩ : ∃ B, B = decide (n = t) := ⟨_, rfl⟩
  have t1 : (n == t) = B := by rw [hB]; by_cases h : n = t <;> simp [h]
  rw [← hB]
  have t2 : decide (n = t) = B := hB.symm
  clear hB
  go_enter Try.func48, Try.ntmps48
  go_wp2_with (at_builtin; refine stopAt ?_; intro q hq)
  go_ret
  exact ⟨by first | rfl | simp [t1, t2] , Keep.refl _ _⟩
end Go.Proofs.Ytmdonjadhkffiaa
/- Heal: the program's Drop. Conditions: as each law names them. -/
namespace Go.Proofs.Ytmdonjadhkffiaa
open Go.RowKit
open HE

def lenOf : Value → Nat
  | .slice _ n _ => n
  | _ => 0

set_option maxHeartbeats 4000000 in
set_option maxRecDepth 20000 in
theorem drop_any (w : World) (v u : Value) (s : List Int) (ps : List Pl) (up : Nat) (copies : Int) (hs : IntsV w v s) (hp : PlsV w u ps) (hup : up < 4294967296) (hc64 : I64 copies) :
    Calls Try.prog 15 #[v, .int .u32 (up : Int), .int .i64 copies, u] w (PlanPost w s ps up copies (drop s up copies.toNat ps).1) := by
  have HQ := hid (begin_any w v u s ps up copies hs hp hup hc64)
  have HSV := hid hs
  have HPV := hid hp
  obtain ⟨Post, hPost⟩ : ∃ Post, Post = PlanPost w s ps up copies (drop s up copies.toNat ps).1 := ⟨_, rfl⟩
  rw [← hPost]
  have HPost := hid hPost
  obtain ⟨aS, cS, rfl, hmS, -, -⟩ := hs
  obtain ⟨aP, cP, rfl, hmP, hcP⟩ := hp
  obtain ⟨m, hmm⟩ : ∃ m, m = ps.length := ⟨_, rfl⟩
  obtain ⟨N, hN⟩ : ∃ N, N = s.length := ⟨_, rfl⟩
  rw [← hmm] at HQ HPV hmP ⊢
  rw [← hN] at HQ HSV hmS ⊢
  have HM := hid (And.intro hmm hN)
  have HC := hid hcP
  unfold I64 at hc64
  have hm63 : (m : Int) ≤ 9223372036854775807 := by unfold maxLen at hmP; omega
  clear hPost hmm hN hcP
  go_enter Try.func15, Try.ntmps15
  go_wp2_with (at_builtin; refine stopAt ?_; intro q hq)
  refine HQ.out.mono ?_
  rintro e w1 ⟨hk1, hres⟩
  have HK1 := hid hk1
  clear hk1
  rcases hres with ⟨hne, rfl⟩ | ⟨h0, hcc, rfl⟩ | ⟨h0, hcc, b, gl, rfl, hW⟩
  · have t0 : ((check s ps : Nat) : Int) ≠ 0 := by omega
    obtain ⟨E, hE⟩ : ∃ E, E = check s ps := ⟨_, rfl⟩
    rw [← hE] at t0 ⊢
    have HE := hid (And.intro hE hne)
    have t1 : ((E : Int) != 0) = true := by simpa using t0
    clear hE hne t0
    go_wp2_with (at_builtin; refine stopAt ?_; intro q hq)
    rw [HPost.out]
    exact ⟨HK1.out.alloc _, .inl ⟨HE.out.2, by rw [← HE.out.1]; rfl⟩⟩
  · have HE := hid (And.intro h0 hcc)
    have t1 : ((2 : Int) != 0) = true := by decide
    clear h0 hcc
    go_wp2_with (at_builtin; refine stopAt ?_; intro q hq)
    rw [HPost.out]
    exact ⟨HK1.out.alloc _, .inr (.inl ⟨HE.out.1, HE.out.2, rfl⟩)⟩
  · have HE := hid (And.intro h0 (And.intro hcc hW))
    obtain ⟨cp, hcp⟩ : ∃ cp : Nat, (cp : Int) = copies := ⟨copies.toNat, by omega⟩
    have hcp12 : 1 ≤ cp ∧ cp ≤ 12 := by omega
    subst hcp
    rw [Int.toNat_natCast] at HPost
    have hcz := check_zero h0
    have HWf := hid hcz.2.2
    have hN12 : N ≤ 12 := by have := HM.out.2; omega
    have hm256 : m ≤ 256 := by have := HM.out.1; omega
    go_upto_region 2 with fail
    obtain ⟨c1, hc1⟩ : ∃ c1, c1 = w1.heap.size := ⟨_, rfl⟩
    have hk2 : Keep (fun _ => False) w1 (w1.alloc (.cells #[.pointer (some ⟨b, 0, none⟩)] 64)) := (Keep.refl _ _).alloc _
    have hn2 := heap_alloc_new w1 (.cells #[.pointer (some ⟨b, 0, none⟩)] 64)
    obtain ⟨w2, hw2⟩ : ∃ w2, w2 = w1.alloc (.cells #[.pointer (some ⟨b, 0, none⟩)] 64) := ⟨_, rfl⟩
    rw [← hw2] at hk2
    rw [← hw2, ← hc1] at hn2
    rw [← hw2, ← hc1]
    have hcl1 : w.heap.size ≤ c1 ∧ Clear w2 b gl c1 := by
      obtain ⟨sv, cl, mv, -, f2, f3, f4, -⟩ := hW.ex
      have hb := heap_lt f2
      have hg : gl < w1.heap.size := f3.lt rfl
      have := hW.keep.size
      refine ⟨by omega, by omega, by omega, fun d0 d1 d2 mv' e x => ?_⟩
      rw [hk2.get f2 id] at e
      have hh := Option.some.inj e
      injection hh with h6 h7
      have h8 : mv = mv' := by simp at h6; exact h6.2.2.2
      rw [← h8] at x
      have := f4.lt x
      omega
    have hout : DropOut w w2 b gl c1 s up cp ps 0 ps [] := ⟨hW.later hk2, hn2, hcl1, by unfold drop; simp, hcz.2.2, rfl, fun _ _ => rfl, fun _ => rfl, by simp⟩
    have HO := hid hout
    clear h0 hcc hW hcz hout hcl1 hk2 hn2 hw2 hc1
    go_wp2_with (at_builtin; refine stopAt ?_; intro q hq)
    go_loopw [29] (fun iv wr => ∃ i : Nat, i ≤ m ∧ iv = .int .i64 i ∧ Hid (∃ qs ms, DropOut w wr b gl c1 s up cp ps i qs ms)) (fun iv _ => m - (intOf iv).toNat)
    case atStart => exact ⟨0, Nat.zero_le _, rfl, hid ⟨_, _, HO.out⟩⟩
    case round =>
      obtain ⟨i, hi, rfl, HR⟩ := hrel
      obtain ⟨qs, ms, hR⟩ := HR.out
      have HR := hid hR
      by_cases hin : i < m
      · have h4 : (i : Int) < m := by omega
        have hil : i < ps.length := by have := HM.out.1; omega
        obtain ⟨ad, rfl, hcell⟩ := HC.out (by omega)
        obtain ⟨nv, g1, g2, g3, g4⟩ := hcell i hil
        have a0 := cell_old hR.work.keep _ _ g1
        have a1 := cell_old hR.work.keep _ _ g2
        have HG := hid (g3.keep hR.work.keep)
        obtain ⟨nl, hnl⟩ : ∃ nl, nl = ps[i].nodes := ⟨_, rfl⟩
        obtain ⟨ch, hch⟩ : ∃ ch, ch = ps[i].chunk := ⟨_, rfl⟩
        have hrise : Rise s.length nl := by rw [hnl]; exact HWf.out _ (List.getElem_mem hil)
        rw [← hnl] at HG
        rw [← hch] at a0
        have HN := hid (And.intro hrise (And.intro (show nodesAt ps i = nl by rw [hnl]; unfold nodesAt; simp [hil]) (show chunkAt ps i = ch by rw [hch]; unfold chunkAt; simp [hil])))
        obtain ⟨an, cn, hnv, hnm, hnz, hnc⟩ := HG.out
        subst hnv
        have hnn63 : (nl.length : Int) ≤ 9223372036854775807 := by unfold maxLen at hnm; omega
        clear hcell g1 g2 g3 g4 hnl hch hnz hnc hrise hR
        have hk2 : Keep (fun _ => False) wr (wr.alloc (.cells #[.int .i64 ch, .slice an nl.length cn] 44)) := (Keep.refl _ _).alloc _
        have hn2 := heap_alloc_new wr (.cells #[.int .i64 ch, .slice an nl.length cn] 44)
        go_upto_region 7 with fail
        obtain ⟨gp, hgp⟩ : ∃ gp, gp = wr.heap.size := ⟨_, rfl⟩
        obtain ⟨w2, hw2⟩ : ∃ w2, w2 = wr.alloc (.cells #[.int .i64 ch, .slice an nl.length cn] 44) := ⟨_, rfl⟩
        rw [← hw2] at hk2
        rw [← hw2, ← hgp] at hn2
        rw [← hw2, ← hgp]
        have H2 := hid (And.intro hn2 (And.intro hk2 hgp))
        clear hw2 hgp a0 a1
        obtain ⟨k0, k1, kf, kb⟩ := cells2' hn2
        have hR2 := HR.out.later hk2
        have e1 : w2.cell? ⟨c1, 0, none⟩ = some (.pointer (some ⟨b, 0, none⟩)) := by simp [World.cell?, hR2.box1]
        have HR2 := hid hR2
        clear hn2 hk2 hR2
        have hsm : nl.length ≤ 12 := by
          have h1 := HN.out.1.perm.length_eq
          have h2 := List.length_filter_le (fun x => decide (x ∈ nl)) (nums s.length)
          rw [nums_length] at h2
          have := HR.out.work.len
          omega
        go_wp2_with (at_builtin; refine stopAt ?_; intro q hq)
        refine (wlive_any w2 b _ s nl (ldL s.length qs []) up HR2.out.work.workV (HG.out.keep H2.out.2.1) (by omega) (fun x hx => by have := HN.out.1.2 x hx; have := HR2.out.work.len; omega)).mono ?_
        rintro e w4 ⟨v4, rfl, ho4, hk4⟩
        obtain ⟨a4, cc4, rfl, -⟩ := ho4.1.form
        obtain ⟨LV, hLV⟩ : ∃ LV, LV = (live up nl).length := ⟨_, rfl⟩
        rw [← hLV] at ho4 ⊢
        have H4 := hid (And.intro ho4 (And.intro hk4 (And.intro (HR2.out.later hk4) hLV)))
        clear ho4 hk4 k0 k1 kf kb e1 hLV
        go_upto_block 2 with fail
        have hk5 : Keep (fun _ => False) w4 (w4.alloc (.cells #[.slice a4 LV cc4] 22)) := (Keep.refl _ _).alloc _
        have hn5 := heap_alloc_new w4 (.cells #[.slice a4 LV cc4] 22)
        obtain ⟨c2, hc2⟩ : ∃ c2, c2 = w4.heap.size := ⟨_, rfl⟩
        obtain ⟨w5, hw5⟩ : ∃ w5, w5 = w4.alloc (.cells #[.slice a4 LV cc4] 22) := ⟨_, rfl⟩
        rw [← hw5] at hk5
        rw [← hw5, ← hc2] at hn5
        rw [← hw5, ← hc2]
        have hin0 : DropIn w w5 b gl gp c1 c2 s up cp ps i nl.length qs (.slice a4 LV cc4) ms := by
          have hR5 := H4.out.2.2.1.later hk5
          have hs2 := H2.out.2.1.size
          have hs4 := H4.out.2.1.size
          have hs0 := HR.out.work.keep.size
          have hcl : ∀ k, wr.heap.size ≤ k → Clear w5 b gl k := by
            intro k hk
            obtain ⟨sv, cl, mv, -, f2, f3, f4, -⟩ := HR.out.work.ex
            have hb := heap_lt f2
            have hg : gl < wr.heap.size := f3.lt rfl
            refine ⟨by omega, by omega, fun d0 d1 d2 mv' e x => ?_⟩
            rw [hk5.get (H4.out.2.1.get (H2.out.2.1.get f2 id) id) id] at e
            have hh := Option.some.inj e
            injection hh with h6 h7
            have h8 : mv = mv' := by simp at h6; exact h6.2.2.2
            rw [← h8] at x
            have := f4.lt x
            omega
          have hgp := H2.out.2.2
          have hc1l := heap_lt HR.out.box1
          have ho := H4.out.1
          have hb4 := fun k (e : (Value.slice a4 LV cc4).ownBlock = some k) => (And.intro (ho.2.1 k e) (ho.1.lt e))
          have hgl2 := heap_lt H2.out.1
          have h0 := DropIn.start (gp := gp) (c2 := c2) (lv := .slice a4 LV cc4) hR5 hil (by rw [HN.out.2.1]; exact hsm)
            ⟨⟨hR5.work, Row.nil _ _ _, by rw [HN.out.2.1]; exact (by have h := ho.1; rw [← H4.out.2.2.2] at h ⊢; exact h.keep hk5 (fun _ _ x => x)), fun k e => by
                have hk : wr.heap.size ≤ k := by
                  rcases e with e | e | e
                  · simp [Value.ownBlock] at e
                  · have := (hb4 k e).1; omega
                  · omega
                exact ⟨by omega, hcl k hk⟩, fun k e => by simp [Value.ownBlock] at e, fun k e => by have := (hb4 k e).1; omega, ⟨_, by rw [HN.out.2.2]; exact hk5.get (H4.out.2.1.get H2.out.1 id) id⟩⟩,
              hR5.box1, hn5, ⟨hR5.out1.1, hR5.out1.2, by omega, by omega, fun e => by have := (hb4 _ e).1; omega⟩, ⟨by omega, hcl c2 (by omega), by omega, fun e => by have := (hb4 _ e).2; omega⟩⟩
          rw [HN.out.2.1] at h0
          exact h0
        have HI0 := hid hin0
        clear hin0 hk5 hn5 hw5 hc2
        go_wp2_with (at_builtin; refine stopAt ?_; intro q hq)
        go_loopw [] (fun wy => ∃ (f : Nat) (rs : List Pl) (ms' : List Mv) (lv : Value), Hid (DropIn w wy b gl gp c1 c2 s up cp ps i f rs lv ms')) (fun wy => lenOf ((wy.cell? ⟨c2, 0, none⟩).getD (.int .u64 0)))
        case atStart => exact ⟨_, _, _, _, HI0⟩
        case round =>
          obtain ⟨f, rs, ms', lv, HI⟩ := hrel
          obtain ⟨L, hL⟩ : ∃ L, L = (live up (nodesAt rs i)).length := ⟨_, rfl⟩
          obtain ⟨al, cl, rfl, hlc, hlm, -, -⟩ := HI.out.mem.mem.liv.form
          rw [← hL] at HI hlc
          have HL := hid hL
          have hL63 : (L : Int) ≤ 9223372036854775807 := by unfold maxLen at hlm; omega
          have q2 : wr.cell? ⟨c2, 0, none⟩ = some (.slice al L cl) := by simp [World.cell?, HI.out.mem.box2]
          have q1 : wr.cell? ⟨c1, 0, none⟩ = some (.pointer (some ⟨b, 0, none⟩)) := by simp [World.cell?, HI.out.mem.box1]
          have Hq2 : Hid (lenOf ((wr.cell? ⟨c2, 0, none⟩).getD (.int .u64 0)) = L) := hid (by rw [q2]; rfl)
          clear hL
          by_cases hl1 : cp < L
          · have t1 : decide ((cp : Int) < (L : Int)) = true := by simp; omega
            have hrise := HI.out.wf.at i
            have hI64 : ∀ z ∈ nodesAt rs i, I64 z := fun z hz => by have := hrise.2 z hz; have := HI.out.mem.mem.work.len; unfold I64; omega
            have hlv : IntsV wr (.slice al L cl) (live up (nodesAt rs i)) := IntsV.of_row (by rw [← HL.out]; have := HI.out.mem.mem.liv; rw [← HL.out] at this; exact this) (fun z hz => hI64 z (List.mem_filter.1 hz).1)
            have hrl : ∀ z ∈ live up (nodesAt rs i), 0 ≤ z ∧ z < s.length := fun z hz => hrise.2 z (List.mem_filter.1 hz).1
            rcases worst_spec s up rs (nodesAt rs i) with ⟨-, htn⟩ | ⟨t, hts, htm, -⟩
            · have := HL.out
              rw [htn] at this
              simp at this
              omega
            · have htr := hrl t htm
              have hmax := maxFunc_any wr _ (live up (nodesAt rs i)) hlv (by rw [← HL.out]; omega) 43 #[.pointer (some ⟨c1, 0, none⟩), .pointer (some ⟨c2, 0, none⟩)] (cmpW s (live up (nodesAt rs i)) (ldL s.length rs [])) t (by rw [worstV_eq hrise]; exact hts)
                (enters_of Try.func43 (by kernel_rfl) rfl) (fun x hx y hy w5 hk5 =>
                  orderD_any w5 b c1 c2 _ s _ _ up x y (HI.out.mem.mem.work.workV.keep hk5) (hlv.keep hk5) hrl (hrl x hx) (hrl y hy) (cell_old hk5 _ _ q1) (cell_old hk5 _ _ q2))
              have HMAX := hid hmax
              have HTs := hid (And.intro hts (And.intro htm (And.intro htr (And.intro hrise hI64))))
              clear hrise hI64 hlv hrl hts htm htr hmax
              go_wp2_with (at_builtin; refine stopAt ?_; intro q hq)
              refine HMAX.out.mono ?_
              rintro e w6 ⟨rfl, hk6⟩
              have hi6 := HI.out.later hk6
              have HI6 := hid hi6
              clear hk6 hi6 q1 q2
              go_upto_region 10 with fail
              obtain ⟨c3, hc3⟩ : ∃ c3, c3 = w6.heap.size := ⟨_, rfl⟩
              have hk7 : Keep (fun _ => False) w6 (w6.alloc (.cells #[.int .i64 t] 3)) := (Keep.refl _ _).alloc _
              have hn7 := heap_alloc_new w6 (.cells #[.int .i64 t] 3)
              obtain ⟨w7, hw7⟩ : ∃ w7, w7 = w6.alloc (.cells #[.int .i64 t] 3) := ⟨_, rfl⟩
              rw [← hw7] at hk7
              rw [← hw7, ← hc3] at hn7
              rw [← hw7, ← hc3]
              have hi7 := HI6.out.later hk7
              have H7 := hid (And.intro hi7 (And.intro hn7 (And.intro hc3 hk7)))
              clear hw7 hc3 hk7
              obtain ⟨sv, clw, mv, -, f2, -, f4, f5⟩ := hi7.mem.mem.work.ex
              obtain ⟨nv5, f6⟩ := hi7.mem.mem.pl
              rw [HN.out.2.2] at f6
              obtain ⟨am, cm, rfl, -⟩ := f4.form
              obtain ⟨M, hM⟩ : ∃ M, M = ms'.length := ⟨_, rfl⟩
              rw [← hM] at f2 f4 f5
              have x7 : w7.cell? ⟨c1, 0, none⟩ = some (.pointer (some ⟨b, 0, none⟩)) := by simp [World.cell?, hi7.mem.box1]
              have k3 : w7.cell? ⟨b, 3, none⟩ = some (.slice am M cm) := by simp [World.cell?, f2]
              have kc : w7.cell? ⟨gp, 0, none⟩ = some (.int .i64 ch) := by simp [World.cell?, f6]
              have kt : w7.cell? ⟨c3, 0, none⟩ = some (.int .i64 t) := by simp [World.cell?, hn7]
              have H7b := hid (And.intro f2 (And.intro f4 (And.intro f5 hM)))
              clear f2 f4 f5 f6 hM hn7 hi7
              have hk8 : Keep (fun _ => False) w7 (w7.alloc (.cells #[.int .i64 ch, .int .i64 t, .int .i64 (-1)] 52)).drew := ((Keep.refl _ _).alloc _).drew
              have hn8 : (w7.alloc (.cells #[.int .i64 ch, .int .i64 t, .int .i64 (-1)] 52)).drew.heap[w7.heap.size]? = some (.cells #[.int .i64 ch, .int .i64 t, .int .i64 (-1)] 52) := heap_alloc_new w7 _
              have x8 := cell_old hk8 _ _ x7
              refine Held.wp_region_held (fun w' => w'.cell? ⟨c1, 0, none⟩ = some (.pointer (some ⟨b, 0, none⟩))) [] [44] (by kernel_rfl) (by kernel_rfl) ?_
              repeat (first | (apply Held.wpC_pure (by rfl) (by exact x7); (intro K w' hS; (try dsimp only at hS); go_simp; exact id)) | (apply Held.wpC_load (by rfl) (by rfl) (by exact x7); (intro K; go_simp; exact id)))
              refine Held.wpC_act (by decide) (by rfl) (by exact x7) (fun K hK => ?_)
              go_simp
              refine hK _ _ (fun _ => Pre.push _ rfl) (fun _ => x8) ?_
              clear hK K
              obtain ⟨w8, hw8⟩ : ∃ w8, w8 = (w7.alloc (.cells #[.int .i64 ch, .int .i64 t, .int .i64 (-1)] 52)).drew := ⟨_, rfl⟩
              rw [← hw8] at hk8 hn8 x8 ⊢
              clear k3 kc kt
              have hm8 := (H7.out.1.later hk8).mem
              have hb8 := hk8.get H7b.out.1 id
              have hr8 := H7b.out.2.1.keep hk8 (fun _ _ x => x)
              have hc38 := hk8.get H7.out.2.1 id
              have hml : M ≤ 100000 := by have := HI.out.msl; have := H7b.out.2.2.2; have := HM.out.1; omega
              refine Held.wpC_act (by decide) (by rfl) (by exact x8) (fun K hK => ?_)
              refine wp_append ty_moves (.tmp 48) (.tmp 53) rfl rfl hr8 (some ⟨w7.heap.size, 0, none⟩) 1 1 (mvV ⟨ch, t, -1⟩) rfl
                ⟨rfl, fun _ => ⟨_, rfl, fun t u hu => by rw [addr_add, Nat.zero_add, cell_of_row _ _ _ _ _ _ hn8]; simpa [mvV] using hu⟩⟩ (mvV_one _) (by unfold maxLen; omega) (by omega) ?_
              intro v9 w9 hr9 hk9 hv9
              have hcl3 : Clear w8 b gl c3 ∧ c3 < w8.heap.size ∧ w.heap.size ≤ c3 := by
                have h1 := H7.out.2.2.1
                have h2 := HI6.out.mem.mem.fresh (k := c3) (by omega)
                obtain ⟨o, ho⟩ := HI6.out.mem.mem.work.head
                have h3 := H7.out.2.2.2.next hk8 (fun _ _ x => x) (fun _ _ x => x)
                exact ⟨h2.2.later ho (by rw [h3.get ho id, ho]), heap_lt hc38, h2.1⟩
              have hor : ∃ k, v9.ownBlock = some k ∧ ((Value.slice am M cm).ownBlock = some k ∨ w8.heap.size ≤ k) := by
                rcases hv9 with ⟨_, h0⟩ | ⟨k', h1, h2⟩
                · omega
                · exact ⟨k', h1, h2.imp id fun x => by omega⟩
              have x9 : w9.cell? ⟨c1, 0, none⟩ = some (.pointer (some ⟨b, 0, none⟩)) := by
                have := hk9.get hm8.box1 (hm8.out1.2.1.2.2 _ _ _ _ hb8)
                simp [World.cell?, this]
              refine hK _ _ (fun h => by cases h) (fun _ => x9) ?_
              clear hK K
              obtain ⟨am9, cm9, rfl, -⟩ := hr9.form
              have hm10 := hm8.push hb8 ⟨ch, t, -1⟩ hk9 (by rw [← H7b.out.2.2.2]; exact hr9) hor
              have hb9 := hk9.get hb8 (fun x => (H7b.out.2.2.1 b x).2.1 rfl)
              have e8 : w9.cell? ⟨b, 3, none⟩ = some (.slice am M cm) := by simp [World.cell?, hb9]
              have e9 : w9.frozen? ⟨b, 3, none⟩ = false := by simp [World.frozen?, hb9]
              have hk10 : Keep (fun k => k = b) w9 (w9.setCell ⟨b, 3, none⟩ (.slice am9 (M + 1) cm9)) := by refine Keep.setCell (Keep.refl _ _) (.inl ?_) _; rfl
              have hc310 := hk10.get (hk9.get hc38 (hcl3.1.2.2 _ _ _ _ hb8)) hcl3.1.1
              have hcl10 := Clear.pushed hm8.mem.work hb8 hk9 hor hcl3.1 hcl3.2.1
              have HM10 := hid (And.intro hm10 (And.intro hc310 (And.intro hcl10 hcl3.2.2)))
              clear hk8 hn8 hm8 hb8 hr8 hr9 hk9 hv9 hm10 hb9 hc38 hcl3 hor hk10 hc310 hcl10 hw8
              repeat (apply Held.wpC_pure (by rfl) (by exact x9); (intro K w' hS; (try dsimp only at hS); go_simp; exact id))
              refine Held.wpC_act (by decide) (by rfl) (by exact x9) (fun K hK => ?_)
              go_simp
              refine hK _ _ (fun h => by cases h) (fun h => absurd rfl h) ?_
              clear hK K
              refine Held.wpC_nil ?_
              obtain ⟨w10, hw10⟩ : ∃ w10, w10 = w9.setCell ⟨b, 3, none⟩ (.slice am9 (M + 1) cm9) := ⟨_, rfl⟩
              rw [← hw10] at HM10 ⊢
              clear hw10 e8 e9 x9 x8 x7
              go_upto_region 11 with fail
              refine wp_region_canon [] (by kernel_rfl) (by kernel_rfl) ?_
              obtain ⟨wd, hwd⟩ : ∃ wd, wd = w10.drew := ⟨_, rfl⟩
              rw [← hwd]
              have HM10 := hid (show DropMem w wd b gl gp c1 c2 s up (ldL s.length rs []) (ms' ++ [⟨ch, t, -1⟩]) (chunkAt ps i) (live up (nodesAt rs i)) (.slice al L cl) ∧ wd.heap[c3]? = some (.cells #[.int .i64 t] 3 (0, 0)) ∧ Clear wd b gl c3 ∧ w.heap.size ≤ c3 by
                have hk : Keep (fun _ => False) w10 wd := by rw [hwd]; exact (Keep.refl _ _).drew
                obtain ⟨o, ho⟩ := HM10.out.1.mem.work.head
                exact ⟨HM10.out.1.later hk, hk.get HM10.out.2.1 id, HM10.out.2.2.1.later ho (by rw [hk.get ho id, ho]), HM10.out.2.2.2⟩)
              clear hwd
              obtain ⟨tn, htn⟩ : ∃ x : Nat, (x : Int) = t := ⟨t.toNat, by have := HTs.out.2.2.1; omega⟩
              subst htn
              have htN : tn < N := by have := HTs.out.2.2.1; have := HM.out.2; omega
              have hil2 : i < rs.length := by have := HI.out.len; omega
              obtain ⟨hset, hge⟩ := ldL_without (N := s.length) (ps := rs) hil2 (t := tn) (by rw [← HM.out.2]; exact htN) (List.mem_filter.1 HTs.out.2.1).1
              obtain ⟨clg, g1, g2, g3⟩ := HM10.out.1.load (t := tn) (by rw [← HM.out.2]; exact htN)
              rw [← HM.out.2] at g1
              obtain ⟨zc, hzc⟩ : ∃ zc, zc = loadOf rs (tn : Int) := ⟨_, rfl⟩
              rw [← hzc] at g2 hge hset
              have hz256 : zc ≤ 256 := by
                rw [hzc]
                unfold loadOf
                refine Nat.le_trans List.countP_le_length ?_
                have := HI.out.len; have := HM.out.1; omega
              have wq : IntKind.i64.wrap ((zc : Int) - 1) = (zc : Int) - 1 := by simp [IntKind.wrap, IntKind.signed, IntKind.bits]; omega
              have htN' : (tn : Int) < N := by omega
              have x10 : wd.cell? ⟨c1, 0, none⟩ = some (.pointer (some ⟨b, 0, none⟩)) := by simp [World.cell?, HM10.out.1.box1]
              have kt : wd.cell? ⟨c3, 0, none⟩ = some (.int .i64 (tn : Int)) := by simp [World.cell?, HM10.out.2.1]
              have hm11 := HM10.out.1.bump tn (by have := HM.out.2; omega) ((zc : Int) - 1) (by omega)
              rw [hset] at hm11
              have hk11 : Keep (fun k => k = gl) wd (wd.setCell ⟨gl, tn, none⟩ (.int .i64 ((zc : Int) - 1))) := by refine Keep.setCell (Keep.refl _ _) (.inl ?_) _; rfl
              have hc311 := hk11.get HM10.out.2.1 HM10.out.2.2.1.2.1
              have HM11 := hid (And.intro hm11 hc311)
              clear hzc hm11 hk11 hc311 hset hil2
              repeat (first | (apply wpC_pure (by rfl); (intro K w'; go_simp; exact id)) | (apply wpC_load (by rfl); (intro K; go_simp; exact id)))
              (refine wpC_act (by rfl) (by rfl) (fun K hK => ?_); go_simp; refine hK _ _ ?_; clear hK K)
              refine wpC_nil ?_
              obtain ⟨w11, hw11⟩ : ∃ w11, w11 = wd.setCell ⟨gl, tn, none⟩ (.int .i64 ((zc : Int) - 1)) := ⟨_, rfl⟩
              rw [← hw11] at HM11 ⊢
              clear hw11 g1 g2 g3 x10 kt
              have q2 : w11.cell? ⟨c2, 0, none⟩ = some (.slice al L cl) := by simp [World.cell?, HM11.out.1.box2]
              have q3 : w11.frozen? ⟨c2, 0, none⟩ = false := by simp [World.frozen?, HM11.out.1.box2]
              have kt : w11.cell? ⟨c3, 0, none⟩ = some (.int .i64 (tn : Int)) := by simp [World.cell?, HM11.out.2]
              have hliv := HM11.out.1.mem.liv
              rw [← HL.out] at hliv
              have hne3 : (Value.slice al L cl).ownBlock ≠ some c3 := fun e => by
                have h1 := HI6.out.mem.mem.liv.lt (k := c3) e
                have := H7.out.2.2.1
                omega
              have hdel := deleteFunc_any w11 (.slice al L cl) (live up (nodesAt rs i)) (by rw [← HL.out]; exact hliv) (fun z hz => HTs.out.2.2.2.2 z (List.mem_filter.1 hz).1) 48 #[.pointer (some ⟨c3, 0, none⟩)] (fun n => decide (n = (tn : Int)))
                (enters_of Try.func48 (by kernel_rfl) rfl) (fun z hz w5 hk5 => drop2_any w5 c3 tn z (by
                  have := hk5.get HM11.out.2 hne3
                  simp [World.cell?, this]))
              unfold DelPost at hdel
              rw [live_drop] at hdel
              have HDEL := hid hdel
              clear hdel hliv kt hne3
              go_wp2_with (at_builtin; refine stopAt ?_; intro q hq)
              refine HDEL.out.mono ?_
              rintro e w12 ⟨v12, rfl, hr12, hk12, ho12⟩
              obtain ⟨al12, cl12, rfl, -⟩ := hr12.form
              have hm13 := HM11.out.1.newLive (l' := live up (without (nodesAt rs i) (tn : Int))) hk12 hr12 ho12
              have y2 := hk12.get HM11.out.1.box2 HM11.out.1.out2.2.2.2
              have y3 : w12.cell? ⟨c2, 0, none⟩ = some (.slice al L cl) := by simp [World.cell?, y2]
              have y4 : w12.frozen? ⟨c2, 0, none⟩ = false := by simp [World.frozen?, y2]
              have hlw := (live_without HTs.out.2.2.2.1.nodup HTs.out.2.1).2
              obtain ⟨L', hL'⟩ : ∃ L', L' = (live up (without (nodesAt rs i) (tn : Int))).length := ⟨_, rfl⟩
              rw [← hL'] at hm13 hlw ⊢
              have hf0 : ∃ f', f = f' + 1 := ⟨f - 1, by have := HI.out.fuel; rw [← HL.out] at this; omega⟩
              obtain ⟨f', rfl⟩ := hf0
              have hfin : DropIn w (w12.setCell ⟨c2, 0, none⟩ (.slice al12 L' cl12)) b gl gp c1 c2 s up cp ps i f' (setNodes rs i (without (nodesAt rs i) (tn : Int))) (.slice al12 L' cl12) (ms' ++ [⟨chunkAt ps i, (tn : Int), -1⟩]) :=
                HI.out.step hil (by rw [← HL.out]; exact hl1) HTs.out.1 HTs.out.2.1 (by rw [HN.out.2.2] at hm13 ⊢; exact hm13)
              have HFin := hid hfin
              have hmeas : lenOf (((w12.setCell ⟨c2, 0, none⟩ (.slice al12 L' cl12)).cell? ⟨c2, 0, none⟩).getD (.int .u64 0)) < lenOf ((wr.cell? ⟨c2, 0, none⟩).getD (.int .u64 0)) := by
                rw [Hq2.out, show (w12.setCell ⟨c2, 0, none⟩ (.slice al12 L' cl12)).cell? ⟨c2, 0, none⟩ = some (.slice al12 L' cl12) by simp [World.cell?, hfin.mem.box2]]
                show L' < L
                have := HL.out
                omega
              have HMe := hid hmeas
              clear hr12 hk12 ho12 hm13 y2 hlw hL' hfin hmeas
              go_wp2_with (at_builtin; refine stopAt ?_; intro q hq)
              exact ⟨⟨_, _, _, _, HFin⟩, HMe.out⟩
          · have t1 : decide ((cp : Int) < (L : Int)) = false := by simp; omega
            have hd := HI.out.out (by rw [← HL.out]; exact hl1)
            have HD := hid hd
            clear hd
            go_wp2_with (at_builtin; refine stopAt ?_; intro q hq)
            exact ⟨⟨i + 1, by omega, by go_num, hid ⟨_, _, HD.out⟩⟩, by simp [intOf]; omega⟩
      · have h4 : decide ((i : Int) < m) = false := by simp; omega
        obtain ⟨sv, cl, mv, -, f2, -, f4, f5⟩ := hR.work.ex
        have q1 : wr.cell? ⟨b, 3, none⟩ = some mv := by simp [World.cell?, f2]
        have q0 : wr.cell? ⟨c1, 0, none⟩ = some (.pointer (some ⟨b, 0, none⟩)) := by simp [World.cell?, hR.box1]
        obtain ⟨am, cm, rfl, -⟩ := f4.form
        have htot : (drop s up cp ps).1 = ms := by
          have := hR.tot
          rw [show ps.length - i = 0 by have := HM.out.1; omega] at this
          simpa [dropFrom] using this
        have HF := hid (And.intro f4 (And.intro f5 htot))
        clear f2 f4 f5 htot hR
        go_wp2_with (at_builtin; refine stopAt ?_; intro q hq)
        rw [HPost.out]
        refine ⟨HR.out.work.keep, .inr (.inr ⟨HE.out.1, HE.out.2.1, _, rfl, by rw [HF.out.2.2]; exact HF.out.1, fun k e => (HF.out.2.1 k e).1⟩)⟩
end Go.Proofs.Ytmdonjadhkffiaa
