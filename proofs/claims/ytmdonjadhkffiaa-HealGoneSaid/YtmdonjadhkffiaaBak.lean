/- Texts HebQ, HebS, HebT, HebU, HebV, HebW in one. Conditions: as each law names them. -/
import Derived.Deep.CutBlock
import Derived.Deep.DeepCutAuto
import Derived.Laws.BitsAllLaws
import Derived.Test.YtmdonjadhkffiaaBaa
import Derived.Test.YtmdonjadhkffiaaBaj
/- Heal: a right system out of any numbers. Conditions: as each law names them. -/
namespace Go.Proofs.Ytmdonjadhkffiaa
open Go.RowKit
open HE

def SiteOk (s : List Int) : Prop := ∀ z ∈ s, 0 ≤ z ∧ z < 12
def RightPls (N : Nat) (xs : List (Pl × Value)) : Prop := ∀ j (hj : j < xs.length), xs[j].1.chunk = 3 * (j : Int) ∧ Rise N xs[j].1.nodes
def RightPost (w : World) (e : Ending) (w' : World) : Prop :=
  ∃ vs s vl xs, e = .returned (.tuple #[vs, vl]) ∧ (1 ≤ s.length ∧ s.length ≤ 12) ∧ SiteOk s ∧ RightPls s.length xs ∧ xs.length ≤ 40 ∧ OwnI w.heap.size w' vs s ∧ PlsO w.heap.size w' vl xs ∧ Keep (fun _ => False) w w'

theorem PlsO.weaken {B B' : Nat} {w : World} {v : Value} {xs : List (Pl × Value)} (H : PlsO B w v xs) (h : B' ≤ B) : PlsO B' w v xs :=
  ⟨H.row, H.each, fun k e => Nat.le_trans h (H.own k e), fun x hx k e => ⟨Nat.le_trans h (H.owns x hx k e).1, (H.owns x hx k e).2⟩, H.apart, H.i64⟩

/-- A fresh slice of two. -/
theorem Row.made2 (w : World) (xs : List Value) (h : xs = [.int .i64 0, .int .i64 1] := by rfl) : Row (w.alloc (.cells #[.int .i64 0, .int .i64 1] 3)) 3 1 (.slice (Option.some ⟨w.heap.size, 0, none⟩) 2 2) 2 xs := by
  subst h
  exact ⟨rfl, .inr ⟨w.heap.size, 2, #[.int .i64 0, .int .i64 1], (0, 0), rfl, heap_alloc_new w _, Free.zero _, Nat.le_refl _, by unfold maxLen; decide, rfl, rfl⟩⟩

set_option maxRecDepth 20000 in
set_option maxHeartbeats 4000000 in
theorem right_any (w : World) (v u : Value) (s0 : List Int) (raw : List Pl) (hs : IntsV w v s0) (hp : PlsV w u raw) :
    Calls Try.prog 23 #[v, u] w (RightPost w) := by
  obtain ⟨Post, hPost⟩ : ∃ Post, Post = RightPost w := ⟨_, rfl⟩
  rw [← hPost]
  have HPost := hid hPost
  obtain ⟨aS, cS, rfl, hmS, hzS, hcS⟩ := hs
  obtain ⟨aP, cP, rfl, hmP, hcP⟩ := hp
  obtain ⟨n, hn⟩ : ∃ n, n = s0.length := ⟨_, rfl⟩
  obtain ⟨m, hm⟩ : ∃ m, m = raw.length := ⟨_, rfl⟩
  rw [← hn] at hmS ⊢
  rw [← hm] at hmP ⊢
  have hn63 : (n : Int) ≤ 9223372036854775807 := by unfold maxLen at hmS; omega
  have hm63 : (m : Int) ≤ 9223372036854775807 := by unfold maxLen at hmP; omega
  have HN := hid (And.intro hn hm)
  have HCs := hid hcS
  have HCp := hid hcP
  clear hn hm hcS hcP hzS hPost
  go_enter Try.func23, Try.ntmps23
  go_upto_block 0 with fail
  go_cut [6, 7] (fun sv iv wx => ∃ (s : List Int), Hid (Gather w s sv wx ∧ SiteOk s ∧ s.length ≤ 12))
  case first =>
    go_wp2_with (at_builtin; refine stopAt ?_; intro q hq)
    go_loopw [6, 7] (fun sv iv wr => ∃ (i : Nat) (s : List Int) (sw : Value), i ≤ n ∧ i ≤ 12 ∧ iv = .int .i64 i ∧ sw = sv ∧ Hid (Gather w s sw wr ∧ SiteOk s ∧ s.length = i)) (fun _ iv _ => n - (intOf iv).toNat)
    case atStart => exact ⟨0, [], _, Nat.zero_le _, Nat.zero_le _, rfl, rfl, hid ⟨Gather.nil w w (Keep.refl _ _), (fun z hz => absurd hz (by simp)), rfl⟩⟩
    case round =>
      obtain ⟨i, s, sv, hi, hi12, rfl, rfl, HG⟩ := hrel
      by_cases hin : i < n
      · have h4 : (i : Int) < n := by omega
        by_cases h12 : i < 12
        · have h5 : (i : Int) < 12 := by omega
          have hil : i < s0.length := by have := HN.out.1; omega
          obtain ⟨ad, rfl, hcell⟩ := HCs.out (by omega)
          have a0 := cell_old HG.out.1.keep _ _ (hcell i hil)
          obtain ⟨x, hx⟩ : ∃ x, x = s0[i] := ⟨_, rfl⟩
          rw [← hx] at a0
          have hmod := umod_int x 12 (by decide) (by decide)
          obtain ⟨q, hq⟩ : ∃ q, q = x % 18446744073709551616 % 12 := ⟨_, rfl⟩
          rw [← hq] at hmod
          have hq12 : 0 ≤ q ∧ q < 12 := by omega
          have HQ := hid hq12
          clear hcell hx hq hq12
          go_wp2_with (at_builtin; refine stopAt ?_; intro q hq)
          (refine hq.out ?_; clear hq q)
          have hn7 := heap_alloc_new wr (.cells #[.int .i64 q] 3)
          have hk7 : Keep (fun _ => False) wr (wr.alloc (.cells #[.int .i64 q] 3)) := (Keep.refl _ _).alloc _
          obtain ⟨w7, hw7⟩ : ∃ w7, w7 = wr.alloc (.cells #[.int .i64 q] 3) := ⟨_, rfl⟩
          rw [← hw7] at hn7 hk7 ⊢
          clear hw7
          have hF7 := HG.out.1.later hk7
          have hll := HG.out.2.2
          refine wpList_plain rfl (fun K hK => ?_)
          refine wp_append ty_nums (.tmp 24) (.tmp 32) rfl rfl hF7.own.1 (some ⟨wr.heap.size, 0, none⟩) 1 1 [.int .i64 q] (by rfl)
            ⟨rfl, fun _ => ⟨_, rfl, fun t u hu => by rw [addr_add, Nat.zero_add, cell_of_row _ _ _ _ _ _ hn7]; simpa using hu⟩⟩ (numsV_one [q]) (by unfold maxLen; omega) (by omega) ?_
          intro v8 w8 hr8 hk8 hv8
          refine hK _ _ ?_
          clear hK K
          have HG8 := hid (And.intro (hF7.push (by have := HQ.out; unfold I64; omega) hr8 hk8 hv8) (And.intro (show SiteOk (s ++ [q]) from fun z hz => by
            rcases List.mem_append.1 hz with hz | hz
            · exact HG.out.2.1 z hz
            · rw [List.mem_singleton] at hz; rw [hz]; exact HQ.out) (show (s ++ [q]).length = i + 1 by rw [List.length_append, List.length_singleton]; omega)))
          clear hr8 hk8 hv8 hF7 hk7 hn7 hll
          go_wp2_with (at_builtin; refine stopAt ?_; intro q hq)
          exact ⟨⟨i + 1, _, _, by omega, by omega, by go_num, rfl, HG8⟩, by simp [intOf]; omega⟩
        · have h5 : decide ((i : Int) < 12) = false := by simp; omega
          go_wp2_with (at_builtin; refine stopAt ?_; intro q hq)
          go_meet
          exact ⟨s, hid ⟨HG.out.1, HG.out.2.1, by have := HG.out.2.2; omega⟩⟩
      · have h4 : decide ((i : Int) < n) = false := by simp; omega
        go_wp2_with (at_builtin; refine stopAt ?_; intro q hq)
        go_meet
        exact ⟨s, hid ⟨HG.out.1, HG.out.2.1, by have := HG.out.2.2; omega⟩⟩
  case rest =>
    obtain ⟨s, HG⟩ := hcut
    obtain ⟨ao, cs, hv6, -⟩ := HG.out.1.own.1.form
    subst hv6
    obtain ⟨N0, hN0⟩ : ∃ N0, N0 = s.length := ⟨_, rfl⟩
    rw [← hN0] at HG ⊢
    have HN0 := hid hN0
    clear hN0
    go_upto_if 36 with fail
    go_cut [6] (fun sv wx => ∃ (s : List Int), Hid (Gather w s sv wx ∧ SiteOk s ∧ 1 ≤ s.length ∧ s.length ≤ 12))
    case first =>
      by_cases hz : N0 = 0
      · have t1 : ((N0 : Int) == 0) = true := by simpa using hz
        have t2 : decide ((N0 : Int) = 0) = true := by simpa using hz
        clear hz
        go_wp2_with (at_builtin; refine stopAt ?_; intro q hq)
        go_meet
        refine ⟨[0, 1], hid ⟨⟨⟨Row.made2 _ _, fun k e => ?_, ?_⟩, HG.out.1.keep.alloc _⟩, ?_, by decide, by decide⟩⟩
        · simp [Value.ownBlock] at e
          have := HG.out.1.keep.size
          omega
        · unfold I64; simp
        · intro z hz; simp at hz; omega
      · have t1 : ((N0 : Int) == 0) = false := by simpa using hz
        have t2 : decide ((N0 : Int) = 0) = false := by simpa using hz
        have HZ := hid hz
        clear hz
        go_wp2_with (at_builtin; refine stopAt ?_; intro q hq)
        go_meet
        refine ⟨s, hid ⟨?_, HG.out.2.1, by have := HN0.out; have := HZ.out; omega, by have := HN0.out; have := HG.out.2.2; omega⟩⟩
        exact HG.out.1
    case rest =>
      obtain ⟨s, HG⟩ := hcut
      obtain ⟨ao, cs, hv6, -⟩ := HG.out.1.own.1.form
      subst hv6
      obtain ⟨N, hN⟩ : ∃ N, N = s.length := ⟨_, rfl⟩
      rw [← hN] at HG ⊢
      have HNs := hid hN
      have hN12 : N ≤ 12 := by have := HG.out.2.2.2; omega
      have hN0 : 1 ≤ N := by have := HG.out.2.2.1; omega
      clear hN
      obtain ⟨wS, rfl⟩ : ∃ wS, wS = wc := ⟨_, rfl⟩
      go_wp2_with (at_builtin; refine stopAt ?_; intro q hq)
      go_loopw [8, 9] (fun ov iv wr => ∃ (i : Nat) (xs : List (Pl × Value)) (ow : Value), i ≤ m ∧ i ≤ 40 ∧ iv = .int .i64 i ∧ ow = ov ∧ Hid (PlsO wS.heap.size wr ow xs ∧ xs.length = i ∧ RightPls N xs ∧ Gather w s (.slice ao N cs) wr ∧ Keep (fun _ => False) wS wr)) (fun _ iv _ => m - (intOf iv).toNat)
      case atStart => exact ⟨0, [], _, Nat.zero_le _, Nat.zero_le _, rfl, rfl, hid ⟨PlsO.nil _ _, rfl, (fun j hj => absurd hj (by simp)), HG.out.1, Keep.refl _ _⟩⟩
      case round =>
        obtain ⟨i, xs, ov, hi, hi40, rfl, rfl, HR⟩ := hrel
        have hend : Hid (RightPost w (.returned (.tuple #[.slice ao N cs, ov])) wr) := hid ⟨_, s, _, xs, rfl, ⟨by have := HNs.out; omega, by have := HNs.out; omega⟩, HG.out.2.1, by rw [← HNs.out]; exact HR.out.2.2.1, by have := HR.out.2.1; omega, HR.out.2.2.2.1.own, HR.out.1.weaken HG.out.1.keep.size, HR.out.2.2.2.1.keep⟩
        by_cases hin : i < m
        · have h4 : (i : Int) < m := by omega
          by_cases h40 : i < 40
          · have h5 : (i : Int) < 40 := by omega
            have hil : i < raw.length := by have := HN.out.2; omega
            obtain ⟨ad, rfl, hcell⟩ := HCp.out (by omega)
            obtain ⟨nv, g1, g2, g3, g4⟩ := hcell i hil
            have a1 := cell_old HR.out.2.2.2.1.keep _ _ g2
            have HGv := hid (g3.keep HR.out.2.2.2.1.keep)
            obtain ⟨an, cn, rfl, hnm, hnz, hnc⟩ := HGv.out
            obtain ⟨L, hL⟩ : ∃ L, L = raw[i].nodes.length := ⟨_, rfl⟩
            rw [← hL] at a1 hnm
            have hL63 : (L : Int) ≤ 9223372036854775807 := by unfold maxLen at hnm; omega
            have HL := hid hL
            have HNc := hid hnc
            clear hcell g1 g2 g3 g4 hL hnz hnc hend
            go_upto_block 4 with fail
            go_cut [10, 11] (fun zv kv wx => ∃ z : Int, zv = .int .u32 z ∧ Hid (Keep (fun _ => False) wr wx))
            case first =>
              go_wp2_with (at_builtin; refine stopAt ?_; intro q hq)
              go_loopw [10, 11] (fun zv kv wy => ∃ (k : Nat) (z : Int), k ≤ L ∧ k ≤ 40 ∧ kv = .int .i64 k ∧ zv = .int .u32 z ∧ Hid (Keep (fun _ => False) wr wy)) (fun _ kv _ => L - (intOf kv).toNat)
              case atStart => exact ⟨0, 0, Nat.zero_le _, Nat.zero_le _, rfl, rfl, hid (Keep.refl _ _)⟩
              case round =>
                obtain ⟨k, z, hk, hk40, rfl, rfl, HK⟩ := hrel
                have a1 := cell_old HK.out _ _ a1
                by_cases hkn : k < L
                · have h6 : (k : Int) < L := by omega
                  by_cases hk4 : k < 40
                  · have h7 : (k : Int) < 40 := by omega
                    have hkl : k < raw[i].nodes.length := by have := HL.out; omega
                    obtain ⟨and', rfl, hce⟩ := HNc.out (by omega)
                    have a2 := cell_old HK.out _ _ (hce k hkl)
                    obtain ⟨x, hx⟩ : ∃ x, x = raw[i].nodes[k] := ⟨_, rfl⟩
                    rw [← hx] at a2
                    have hmod := umod_int x N (by omega) (by omega)
                    obtain ⟨q, hq⟩ : ∃ q, q = x % 18446744073709551616 % (N : Int) := ⟨_, rfl⟩
                    rw [← hq] at hmod
                    have hq12 : 0 ≤ q ∧ q < 12 := by
                      have h1 := Int.emod_nonneg (x % 18446744073709551616) (show (N : Int) ≠ 0 by omega)
                      have h2 := Int.emod_lt_of_pos (x % 18446744073709551616) (show (0 : Int) < N by omega)
                      omega
                    have wN : IntKind.u64.wrap (N : Int) = (N : Int) := by simp [IntKind.wrap, IntKind.signed, IntKind.bits]; omega
                    have wq : IntKind.u64.wrap q = q := by simp [IntKind.wrap, IntKind.signed, IntKind.bits]; omega
                    have hN0' : ¬ (N : Int) = 0 := by omega
                    clear hx hq hce
                    go_wp2_with (at_builtin; refine stopAt ?_; intro q hq)
                    exact ⟨⟨k + 1, _, by omega, by omega, by go_num, rfl, HK⟩, by simp [intOf]; omega⟩
                  · have h7 : decide ((k : Int) < 40) = false := by simp; omega
                    go_wp2_with (at_builtin; refine stopAt ?_; intro q hq)
                    go_meet
                    exact ⟨z, rfl, HK⟩
                · have h6 : decide ((k : Int) < L) = false := by simp; omega
                  go_wp2_with (at_builtin; refine stopAt ?_; intro q hq)
                  go_meet
                  exact ⟨z, rfl, HK⟩
            case rest =>
              obtain ⟨z, rfl, HK⟩ := hcut
              have HR0 := hid (And.intro (HR.out.1.later HK.out) (And.intro (HR.out.2.2.2.1.later HK.out) (And.intro HR.out.2.1 (And.intro HR.out.2.2.1 (HR.out.2.2.2.2.next HK.out (fun _ _ x => x) (fun _ _ x => x))))))
              obtain ⟨p3, hp3⟩ : ∃ p3, p3 = i * 3 := ⟨_, rfl⟩
              have e1 : (i : Int) * 3 = (p3 : Int) := by omega
              have e2 : IntKind.i64.wrap (p3 : Int) = (p3 : Int) := by simp [IntKind.wrap, IntKind.signed, IntKind.bits]; omega
              have HP3 := hid hp3
              clear hp3 a1 HGv HNc
              go_upto_block 6 with fail
              have hk2 : Keep (fun _ => False) wc (wc.alloc (.cells #[.int .i64 (p3 : Int), .slice none 0 0] 44)) := (Keep.refl _ _).alloc _
              have hn2 := heap_alloc_new wc (.cells #[.int .i64 (p3 : Int), .slice none 0 0] 44)
              obtain ⟨gp, hgp⟩ : ∃ gp, gp = wc.heap.size := ⟨_, rfl⟩
              obtain ⟨w2, hw2⟩ : ∃ w2, w2 = wc.alloc (.cells #[.int .i64 (p3 : Int), .slice none 0 0] 44) := ⟨_, rfl⟩
              rw [← hw2] at hk2
              rw [← hw2, ← hgp] at hn2
              rw [← hw2, ← hgp]
              have H2 := hid (And.intro hk2 (And.intro hn2 hgp))
              clear hk2 hn2 hgp hw2
              go_wp2_with (at_builtin; refine stopAt ?_; intro q hq)
              go_loopw [13] (fun nv wy => ∃ (k : Nat) (nl : List Int) (lv : Value), k ≤ N ∧ nv = .int .i64 k ∧ Hid (Keep (fun _ => False) wc wy ∧ wy.heap[gp]? = some (.cells #[.int .i64 (p3 : Int), lv] 44 (0, 0)) ∧ OwnI wc.heap.size wy lv nl ∧ lv.ownBlock ≠ some gp ∧ Rise k nl)) (fun nv _ => N - (intOf nv).toNat)
              case atStart => exact ⟨0, [], _, Nat.zero_le _, rfl, hid ⟨H2.out.1, H2.out.2.1, ⟨Row.nil _ _ _, fun k e => by simp [Value.ownBlock] at e, by simp⟩, by simp [Value.ownBlock], List.Pairwise.nil, by simp⟩⟩
              case round =>
                obtain ⟨k, nl, lv, hk, rfl, HI⟩ := hrel
                obtain ⟨al, cl, rfl, -⟩ := HI.out.2.2.1.1.form
                obtain ⟨L2, hL2⟩ : ∃ L2, L2 = nl.length := ⟨_, rfl⟩
                rw [← hL2] at HI
                have HL2 := hid hL2
                have hL212 : L2 ≤ 12 := by have := rise_len HI.out.2.2.2.2; omega
                obtain ⟨k0, k1, kf, kb⟩ := cells2' HI.out.2.1
                clear hL2
                by_cases hkn : k < N
                · have h6 : (k : Int) < N := by omega
                  have wk : IntKind.u64.wrap (k : Int) = (k : Int) := by simp [IntKind.wrap, IntKind.signed, IntKind.bits]; omega
                  have hrk : Rise (k + 1) nl := ⟨HI.out.2.2.2.2.1, fun x hx => by have := HI.out.2.2.2.2.2 x hx; omega⟩
                  have HRk := hid hrk
                  clear hrk
                  go_upto_if 94 with fail
                  go_wp2_with (at_builtin; refine stopAt ?_; intro q hq)
                  · (refine hq.out ?_; clear hq q)
                    have hn7 := heap_alloc_new wr (.cells #[.int .i64 (k : Int)] 3)
                    have hk7 : Keep (fun _ => False) wr (wr.alloc (.cells #[.int .i64 (k : Int)] 3)) := (Keep.refl _ _).alloc _
                    obtain ⟨w7, hw7⟩ : ∃ w7, w7 = wr.alloc (.cells #[.int .i64 (k : Int)] 3) := ⟨_, rfl⟩
                    rw [← hw7] at hn7 hk7 ⊢
                    clear hw7
                    have hr7 := HI.out.2.2.1.1.keep hk7 (fun _ _ x => x)
                    rw [← HL2.out] at hr7
                    refine wpList_plain rfl (fun K hK => ?_)
                    refine wp_append ty_nums (.tmp 96) (.tmp 98) rfl rfl hr7 (some ⟨wr.heap.size, 0, none⟩) 1 1 [.int .i64 (k : Int)] (by rfl)
                      ⟨rfl, fun _ => ⟨_, rfl, fun t u hu => by rw [addr_add, Nat.zero_add, cell_of_row _ _ _ _ _ _ hn7]; simpa using hu⟩⟩ (numsV_one [(k : Int)]) (by unfold maxLen; omega) (by omega) ?_
                    intro v8 w8 hr8 hk8 hv8
                    refine hK _ _ ?_
                    clear hK K
                    obtain ⟨a8, c8, rfl, -⟩ := hr8.form
                    have hgp8 := hk8.get (hk7.get HI.out.2.1 id) HI.out.2.2.2.1
                    have q1 : w8.cell? ⟨gp, 1, none⟩ = some (.slice al L2 cl) := by simp [World.cell?, hgp8]
                    have q2 : w8.frozen? ⟨gp, 1, none⟩ = false := by simp [World.frozen?, hgp8]
                    have hb8 : ∀ q, (Value.slice a8 (L2 + 1) c8).ownBlock = some q → wc.heap.size ≤ q ∧ q ≠ gp := fun q e => by
                      rcases own_of hv8 q e with e | e
                      · exact ⟨HI.out.2.2.1.2.1 q e, fun x => HI.out.2.2.2.1 (by rw [← x]; exact e)⟩
                      · have h1 := HI.out.1.size
                        have h2 := hk7.size
                        have h3 := heap_lt HI.out.2.1
                        exact ⟨by omega, by omega⟩
                    have hk9 : Keep (fun q => q = gp) w8 (w8.setCell ⟨gp, 1, none⟩ (.slice a8 (L2 + 1) c8)) := by refine Keep.setCell (Keep.refl _ _) (.inl ?_) _; rfl
                    have hgw : wc.heap.size ≤ gp := by rw [H2.out.2.2]; exact Nat.le_refl _
                    have HF := hid (show Keep (fun _ => False) wc (w8.setCell ⟨gp, 1, none⟩ (.slice a8 (L2 + 1) c8)) ∧ (w8.setCell ⟨gp, 1, none⟩ (.slice a8 (L2 + 1) c8)).heap[gp]? = some (.cells #[.int .i64 (p3 : Int), .slice a8 (L2 + 1) c8] 44 (0, 0)) ∧
                      OwnI wc.heap.size (w8.setCell ⟨gp, 1, none⟩ (.slice a8 (L2 + 1) c8)) (.slice a8 (L2 + 1) c8) (nl ++ [(k : Int)]) ∧ (Value.slice a8 (L2 + 1) c8).ownBlock ≠ some gp ∧ Rise (k + 1) (nl ++ [(k : Int)]) from by
                      refine ⟨((HI.out.1.next hk7 (fun _ _ x => x) (fun _ _ x => x)).next hk8 (fun _ _ x => x) (fun q hq x => ?_)).next hk9 (fun _ _ x => x) (fun q hq x => ?_), by simp [World.setCell, Array.getElem?_modify, hgp8], ⟨?_, fun q e => (hb8 q e).1, fun y hy => ?_⟩, fun e => (hb8 gp e).2 rfl, ?_, fun y hy => ?_⟩
                      · have := HI.out.2.2.1.2.1 q x; omega
                      · omega
                      · have h : (nl ++ [(k : Int)]).length = L2 + 1 := by rw [List.length_append, List.length_singleton, HL2.out]
                        rw [h]
                        have e : numsV (nl ++ [(k : Int)]) = numsV nl ++ [.int .i64 (k : Int)] := by simp [numsV]
                        rw [e]
                        exact hr8.keep hk9 (fun q e x => (hb8 q e).2 x)
                      · rcases List.mem_append.1 hy with hy | hy
                        · exact HI.out.2.2.1.2.2 y hy
                        · rw [List.mem_singleton] at hy; rw [hy]; unfold I64; omega
                      · refine List.pairwise_append.2 ⟨HI.out.2.2.2.2.1, List.pairwise_singleton _ _, fun a ha b hb => ?_⟩
                        rw [List.mem_singleton] at hb
                        have := HI.out.2.2.2.2.2 a ha
                        omega
                      · rcases List.mem_append.1 hy with hy | hy
                        · exact HRk.out.2 y hy
                        · rw [List.mem_singleton] at hy; omega)
                    clear hr8 hk8 hv8 hgp8 hb8 hk9 hgw hr7 hk7 hn7 k0 k1 kf kb
                    go_wp2_with (at_builtin; refine stopAt ?_; intro q hq)
                    exact ⟨⟨k + 1, _, _, by omega, by go_num, HF⟩, by simp [intOf]; omega⟩
                  · exact ⟨⟨k + 1, nl, _, by omega, by go_num, hid ⟨HI.out.1, HI.out.2.1, HI.out.2.2.1, HI.out.2.2.2.1, HRk.out⟩⟩, by simp [intOf]; omega⟩
                · have h6 : decide ((k : Int) < N) = false := by simp; omega
                  have hkN : k = N := by omega
                  go_wp2_with (at_builtin; refine stopAt ?_; intro q hq)
                  (refine hq.out ?_; clear hq q)
                  have hk5 : Keep (fun _ => False) wr (wr.alloc (.cells #[.int .i64 (p3 : Int), .slice al L2 cl] 44)) := (Keep.refl _ _).alloc _
                  have hn5 := heap_alloc_new wr (.cells #[.int .i64 (p3 : Int), .slice al L2 cl] 44)
                  obtain ⟨w5, hw5⟩ : ∃ w5, w5 = wr.alloc (.cells #[.int .i64 (p3 : Int), .slice al L2 cl] 44) := ⟨_, rfl⟩
                  rw [← hw5] at hk5 hn5 ⊢
                  clear hw5
                  have hkc5 := HI.out.1.next hk5 (fun _ _ x => x) (fun _ _ x => x)
                  have ho5 := HR0.out.1.later hkc5
                  have hxl := HR0.out.2.2.1
                  refine wpList_plain rfl (fun K hK => ?_)
                  refine wp_append ty_places (.tmp 101) (.tmp 103) rfl rfl ho5.row (some ⟨wr.heap.size, 0, none⟩) 1 1 (plV (⟨(p3 : Int), nl⟩, .slice al L2 cl)) rfl
                    ⟨rfl, fun _ => ⟨_, rfl, fun t u hu => by rw [addr_add, Nat.zero_add, cell_of_row _ _ _ _ _ _ hn5]; simpa [plV] using hu⟩⟩ (plV_one rfl) (by unfold maxLen; omega) (by omega) ?_
                  intro v6 w6 hr6 hk6 hv6
                  refine hK _ _ ?_
                  clear hK K
                  have hsz0 := HR0.out.2.2.2.2.size
                  have hsz5 := hkc5.size
                  have hown : PlsO wS.heap.size w6 v6 (xs ++ [(⟨(p3 : Int), nl⟩, .slice al L2 cl)]) := ho5.push (by omega) hr6 hk6 hv6 (by
                    have h := HI.out.2.2.1.1.keep hk5 (fun _ _ x => x)
                    exact h) (fun q e => by
                    have h1 := HI.out.2.2.1.2.1 q e
                    exact ⟨by omega, fun e' => by have := HR0.out.1.row.lt e'; omega, fun y hy e' => by have := (HR0.out.1.each y hy).lt e'; omega⟩) ⟨by unfold I64; simp only; omega, HI.out.2.2.1.2.2⟩
                  have hg6 : Gather w s (.slice ao N cs) w6 := by
                    have hg := HR0.out.2.1.later hkc5
                    refine ⟨⟨hg.own.1.keep hk6 (fun q e x => ?_), hg.own.2⟩, hg.keep.next hk6 (fun _ _ x => x) (fun q hq x => ?_)⟩
                    · have h1 := HG.out.1.own.1.lt e
                      have h2 := HR0.out.1.own q x
                      omega
                    · have h1 := HR0.out.1.own q x
                      have h2 := HG.out.1.keep.size
                      omega
                  have hri : RightPls N (xs ++ [(⟨(p3 : Int), nl⟩, .slice al L2 cl)]) := fun j hj => by
                    by_cases hjx : j < xs.length
                    · rw [List.getElem_append_left hjx]
                      exact HR0.out.2.2.2.1 j hjx
                    · have hjx' : j = xs.length := by rw [List.length_append, List.length_singleton] at hj; omega
                      subst hjx'
                      rw [List.getElem_append_right (Nat.le_refl _)]
                      simp only [Nat.sub_self, List.getElem_cons_zero]
                      exact ⟨by have := HP3.out; omega, by rw [← hkN]; exact HI.out.2.2.2.2⟩
                  have HO := hid (And.intro hown (And.intro (show (xs ++ [((⟨(p3 : Int), nl⟩ : Pl), Value.slice al L2 cl)]).length = i + 1 by rw [List.length_append, List.length_singleton]; omega) (And.intro hri (And.intro hg6 ((HR0.out.2.2.2.2.next hkc5 (fun _ _ x => x) (fun _ _ x => x)).next hk6 (fun _ _ x => x) (fun q hq x => by have := HR0.out.1.own q x; omega))))))
                  clear hr6 hk6 hv6 hown hri hg6 hsz0 hsz5 ho5 hk5 hn5 hkc5 hxl k0 k1 kf kb
                  go_wp2_with (at_builtin; refine stopAt ?_; intro q hq)
                  exact ⟨⟨i + 1, _, _, by omega, by omega, by go_num, rfl, HO⟩, by simp [intOf]; omega⟩
          · have h5 : decide ((i : Int) < 40) = false := by simp; omega
            go_wp2_with (at_builtin; refine stopAt ?_; intro q hq)
            rw [HPost.out]
            exact hend.out
        · have h4 : decide ((i : Int) < m) = false := by simp; omega
          go_wp2_with (at_builtin; refine stopAt ?_; intro q hq)
          rw [HPost.out]
          exact hend.out
end Go.Proofs.Ytmdonjadhkffiaa
/- Heal: HealMends' walk. Conditions: as each law names them. -/
namespace Go.Proofs.Ytmdonjadhkffiaa
open Go.RowKit
open HE

theorem right_sys {s : List Int} {xs : List (Pl × Value)} (h1 : 1 ≤ s.length ∧ s.length ≤ 12) (h2 : SiteOk s) (h3 : RightPls s.length xs) (h4 : xs.length ≤ 40) : Sound s (xs.map (·.1)) := by
  refine ⟨h1.1, h1.2, h2, fun p hp => ?_, ?_, fun p hp => ?_, by rw [List.length_map]; omega⟩
  · obtain ⟨x, hx, rfl⟩ := List.mem_map.1 hp
    obtain ⟨j, hj, rfl⟩ := List.getElem_of_mem hx
    exact (h3 j hj).2
  · unfold Chunks
    rw [List.map_map, List.pairwise_map, List.pairwise_iff_getElem]
    intro i j hi hj hij
    have e1 := (h3 i hi).1
    have e2 := (h3 j hj).1
    show xs[i].1.chunk < xs[j].1.chunk
    omega
  · obtain ⟨x, hx, rfl⟩ := List.mem_map.1 hp
    obtain ⟨j, hj, rfl⟩ := List.getElem_of_mem hx
    have := (h3 j hj).1
    omega

theorem maxn_any (w : World) (a b : Nat) : (Builtin.max_ #[3, 3] 3 #[.int .i64 (a : Int), .int .i64 (b : Int)]).run Try.prog w = .ok (.int .i64 ((max a b : Nat) : Int)) w := by
  rcases Nat.lt_or_ge a b with q | q
  · rw [Nat.max_eq_right (by omega)]
    simp [Builtin.max_, Builtin.max2]
    omega
  · rw [Nat.max_eq_left q]
    simp [Builtin.max_, Builtin.max2]
    omega
theorem codeOf_sys {s : List Int} {ps : List Pl} (h : Sound s ps) {c : Nat} (h1 : 1 ≤ c ∧ c ≤ 12) : codeOf s ps (c : Int) = 0 := by
  unfold codeOf
  rw [if_pos h.check, if_neg (by omega)]
theorem given_sys {s : List Int} {ps : List Pl} (h : Sound s ps) {c : Nat} (h1 : 1 ≤ c ∧ c ≤ 12) (ms : List Mv) : given s ps (c : Int) ms = ms := by
  unfold given
  rw [if_pos (codeOf_sys h h1)]
theorem sys_i64 {w : World} {v : Value} {ps : List Pl} (h : PlsV w v ps) : ∀ p ∈ ps, I64 p.chunk := h.i64

set_option maxRecDepth 20000 in
/-- What comes of a plan and of its moves applied, in memory. -/
theorem mends_plan (w : World) (vs vl : Value) (s : List Int) (ps : List Pl) (up c : Nat) (hs : IntsV w vs s) (hp : PlsV w vl ps) (hsy : Sound s ps) (hup : up < 4294967296) (hc : 1 ≤ c ∧ c ≤ 12) :
    Calls Try.prog 14 #[vs, .int .u32 (up : Int), .int .i64 (c : Int), vl] w fun e w' => ∃ mv, e = .returned (.tuple #[mv, .int .i64 0]) ∧ MvsV w' mv (plan s up c ps).1 ∧ Row w' 52 3 mv (plan s up c ps).1.length (mvsV (plan s up c ps).1) ∧ Keep (fun _ => False) w w' := by
  refine (plan_any w vs vl s ps up c hs hp hup (by unfold I64; omega)).mono ?_
  intro e w' hpost
  obtain ⟨mv, rfl, hr, -, hk⟩ := hpost.all
  rw [Int.toNat_natCast, given_sys hsy hc] at hr
  rw [codeOf_sys hsy hc]
  refine ⟨mv, rfl, MvsV.of_row hr ?_, hr, hk⟩
  have := plan_i64 s ps up (c : Int) hp.i64
  rw [Int.toNat_natCast, given_sys hsy hc] at this
  exact this
set_option maxRecDepth 20000 in
theorem mends_drop (w : World) (vs vl : Value) (s : List Int) (ps : List Pl) (up c : Nat) (hs : IntsV w vs s) (hp : PlsV w vl ps) (hsy : Sound s ps) (hup : up < 4294967296) (hc : 1 ≤ c ∧ c ≤ 12) :
    Calls Try.prog 15 #[vs, .int .u32 (up : Int), .int .i64 (c : Int), vl] w fun e w' => ∃ mv, e = .returned (.tuple #[mv, .int .i64 0]) ∧ MvsV w' mv (drop s up c ps).1 ∧ Row w' 52 3 mv (drop s up c ps).1.length (mvsV (drop s up c ps).1) ∧ Keep (fun _ => False) w w' := by
  refine (drop_any w vs vl s ps up c hs hp hup (by unfold I64; omega)).mono ?_
  intro e w' hpost
  obtain ⟨mv, rfl, hr, -, hk⟩ := hpost.all
  rw [Int.toNat_natCast, given_sys hsy hc] at hr
  rw [codeOf_sys hsy hc]
  refine ⟨mv, rfl, MvsV.of_row hr ?_, hr, hk⟩
  have := drop_i64 s ps up (c : Int) hp.i64
  rw [Int.toNat_natCast, given_sys hsy hc] at this
  exact this
set_option maxRecDepth 20000 in
/-- Moves that go well, applied. -/
theorem mends_apply (w : World) (vl vm : Value) (s : List Int) (ps qs : List Pl) (ms : List Mv) (hp : PlsV w vl ps) (hm : MvsV w vm ms) (hsy : Sound s ps) (ha : apply ps ms = some qs) (_hq : Sound s qs) (hms : ms.length ≤ 100000) :
    Calls Try.prog 21 #[vl, vm] w fun e w' => ∃ v, e = .returned (.tuple #[v, .int .i64 0]) ∧ PlsV w' v qs ∧ Keep (fun _ => False) w w' := by
  refine (apply_any w vl vm ps ms hp hm ⟨by have := hsy.few; omega, fun p hp => by have := rise_len (hsy.wf p hp); have := hsy.n12; omega, hms⟩).mono ?_
  intro e w' hpost
  obtain ⟨v, xs, h1, rfl, h3, hk⟩ := hpost.good ha
  exact ⟨v, rfl, by have := h3.pls; rw [h1] at this; exact this, hk⟩

set_option maxRecDepth 20000 in
set_option maxHeartbeats 4000000 in
theorem mends_walk (w : World) (v0 : Value) (s0 : List Int) (h0 : Ints w v0 s0) (up : Nat) (hup : up < 4294967296) (copies : Int) (_lo : -9223372036854775808 ≤ copies) (_hi : copies ≤ 9223372036854775807) (v3 : Value) (raw : List Pl) (h3 : SliceOf w 2 (PlR w) v3 raw) :
    Calls Try.prog 5 #[v0, .int .u32 (up : Int), .int .i64 copies, v3] w fun e w' => e = .returned (.bool true) ∧ Keep (fun _ => False) w w' := by
  have hs : IntsV w v0 s0 := IntsV.of_ints h0
  have hp : PlsV w v3 raw := PlsV.of_pls h3
  have HRi := hid (right_any w v0 v3 s0 raw hs hp)
  have HKn := hid known_any
  obtain ⟨aS, cS, rfl, -⟩ := hs
  obtain ⟨aP, cP, rfl, -⟩ := hp
  clear h0 h3
  go_enter Try.func5, Try.ntmps5
  go_wp2_with (at_builtin; refine stopAt ?_; intro q hq)
  refine HRi.out.mono ?_
  rintro e w1 ⟨vs, s, vl, xs, rfl, hN, hso, hrp, hxl, hos, hop, hk1⟩
  obtain ⟨ps, hps⟩ : ∃ ps, ps = xs.map (·.1) := ⟨_, rfl⟩
  have hsy : Sound s ps := by rw [hps]; exact right_sys hN hso hrp hxl
  have hsv : IntsV w1 vs s := hos.ints
  have hpv : PlsV w1 vl ps := by rw [hps]; exact hop.pls
  have hm40 : ps.length ≤ 40 := by rw [hps, List.length_map]; exact hxl
  obtain ⟨aos, cs, rfl, -⟩ := id hsv
  obtain ⟨al, cl, rfl, -⟩ := id hpv
  obtain ⟨N, hNN⟩ : ∃ N, N = s.length := ⟨_, rfl⟩
  obtain ⟨m, hm⟩ : ∃ m, m = ps.length := ⟨_, rfl⟩
  rw [← hNN] at hsv hN ⊢
  rw [← hm] at hpv hm40 ⊢
  have HS := hid hsv
  have HP := hid hpv
  have HSy := hid hsy
  have HNm := hid (And.intro hNN hm)
  have HK1 := hid hk1
  have hmod := umod_int copies 12 (by decide) (by decide)
  obtain ⟨q, hq⟩ : ∃ q, q = copies % 18446744073709551616 % 12 := ⟨_, rfl⟩
  rw [← hq] at hmod
  obtain ⟨cn, hcn⟩ : ∃ c : Nat, (c : Int) = 1 + q := ⟨(1 + q).toNat, by omega⟩
  have hc12 : 1 ≤ cn ∧ cn ≤ 12 := by omega
  have e1 : 1 + q = (cn : Int) := hcn.symm
  have e2 : IntKind.i64.wrap (cn : Int) = (cn : Int) := by simp [IntKind.wrap, IntKind.signed, IntKind.bits]; omega
  have HPl := hid (mends_plan w1 _ _ s ps up cn hsv hpv hsy hup hc12)
  clear hps hsy hsv hpv hop hos hrp hso hxl hNN hm hk1 hq hcn
  go_wp2_with (at_builtin; refine stopAt ?_; intro q hq)
  refine HPl.out.mono ?_
  rintro e w2 ⟨mv, rfl, hmv, hmr, hk2⟩
  obtain ⟨M, hM⟩ : ∃ M, M = (plan s up cn ps).1.length := ⟨_, rfl⟩
  obtain ⟨now, hnow⟩ : ∃ now, now = (plan s up cn ps).2 := ⟨_, rfl⟩
  have hto : PlanTo s up cn 0 ps.length ps (plan s up cn ps).1 now := by rw [hnow]; exact HSy.out.planTo up cn
  have hap : apply ps (plan s up cn ps).1 = some now := by rw [hnow]; exact HSy.out.apply up cn
  have hsn : Sound s now := by rw [hnow]; exact HSy.out.after up cn
  have hag : (plan s up cn now).1 = [] := by rw [hnow]; exact HSy.out.again up cn
  have hM480 : M ≤ 480 := by have := psteps_few hto HSy.out.n12; have := HNm.out.2; omega
  have HAp := hid (mends_apply w2 _ _ s ps now _ (HP.out.keep hk2) hmv HSy.out hap hsn (by omega))
  obtain ⟨am, cm, rfl, -⟩ := id hmv
  rw [← hM] at HAp ⊢
  have HT := hid (And.intro hto (And.intro hsn (And.intro hag hM)))
  have HK2 := hid hk2
  clear hmv hmr hM hnow hto hap hsn hag hk2 HPl
  go_wp2_with (at_builtin; refine stopAt ?_; intro q hq)
  refine HAp.out.mono ?_
  rintro e w3 ⟨vn, rfl, hpn, hk3⟩
  have hnl : now.length = m := by have := HT.out.1.len; have := HNm.out.2; omega
  obtain ⟨an, cnn, rfl, -⟩ := id hpn
  rw [hnl] at hpn ⊢
  have HPn := hid hpn
  have HK3 := hid hk3
  have HU := hid (fun wq (n : Int) h0 h1 => up_any wq up n hup h0 h1)
  clear hpn hnl hk3 HAp
  go_wp2_with (at_builtin; refine stopAt ?_; intro q hq)
  go_loopw [16, 17] (fun av iv wr => ∃ (i a : Nat), i ≤ N ∧ iv = .int .i64 i ∧ av = .int .i64 a ∧ a ≤ i ∧ Hid (Keep (fun _ => False) w3 wr ∧ a = (live up (nums i)).length)) (fun _ iv _ => N - (intOf iv).toNat)
  case atStart => exact ⟨0, 0, Nat.zero_le _, rfl, rfl, Nat.le_refl _, hid ⟨Keep.refl _ _, rfl⟩⟩
  case round =>
    obtain ⟨i, a, hi', rfl, rfl, hai, HK⟩ := hrel
    by_cases hin : i < N
    · have h4 : (i : Int) < N := by omega
      obtain ⟨B, hB⟩ : ∃ B, B = isUp up (i : Int) := ⟨_, rfl⟩
      have hst : (live up (nums (i + 1))).length = a + if B then 1 else 0 := by
        rw [nums_snoc, HK.out.2]
        unfold live
        rw [List.filter_append, List.length_append, List.filter_cons, ← hB]
        cases B <;> rfl
      have HS2 := hid (And.intro hst hB)
      clear hst hB
      go_wp2_with (at_builtin; refine stopAt ?_; intro q hq)
      refine (HU.out wr (i : Int) (by omega) (by omega)).mono ?_
      rintro e w4 ⟨rfl, rfl⟩
      rw [← HS2.out.2]
      cases B with
      | false =>
        go_wp2_with (at_builtin; refine stopAt ?_; intro q hq)
        exact ⟨⟨i + 1, a, by omega, by go_num, rfl, by omega, hid ⟨HK.out.1, by rw [HS2.out.1]; rfl⟩⟩, by simp [intOf]; omega⟩
      | true =>
        go_wp2_with (at_builtin; refine stopAt ?_; intro q hq)
        exact ⟨⟨i + 1, a + 1, by omega, by go_num, by go_num, by omega, hid ⟨HK.out.1, by rw [HS2.out.1]; rfl⟩⟩, by simp [intOf]; omega⟩
    · have h4 : decide ((i : Int) < N) = false := by simp; omega
      have ha : a = all s up := by
        rw [HK.out.2]
        unfold all
        rw [← HNm.out.1, show i = N by omega]
      have HA := hid ha
      have HKa := hid HK.out.1
      have ha12 : a ≤ 12 := by omega
      clear ha HK hai
      go_wp2_with (at_builtin; refine stopAt ?_; intro q hq)
      go_loopw [18, 19] (fun mv iv wz => ∃ (j t : Nat), j ≤ m ∧ iv = .int .i64 j ∧ mv = .int .i64 t ∧ t ≤ 12 * j ∧ Hid (Keep (fun _ => False) w3 wz ∧ t = ((List.range' 0 j).map fun j => want s up cn (nodesAt ps j) - (live up (nodesAt ps j)).length).sum)) (fun _ iv _ => m - (intOf iv).toNat)
      case atStart => exact ⟨0, 0, Nat.zero_le _, rfl, rfl, Nat.le_refl _, hid ⟨HKa.out, rfl⟩⟩
      case round =>
        obtain ⟨j, t, hj, rfl, rfl, htj, HZ⟩ := hrel
        by_cases hjm : j < m
        · have h5 : (j : Int) < m := by omega
          have hkz := (HK2.out.next HK3.out (fun _ _ x => x) (fun _ _ x => x)).next HZ.out.1 (fun _ _ x => x) (fun _ _ x => x)
          have hjl : j < ps.length := by have := HNm.out.2; omega
          have hjn : j < now.length := by have := HT.out.1.len; omega
          obtain ⟨ad, na, nc, rfl, -, p1, hi1, -⟩ := (HP.out.keep hkz).at j hjl
          obtain ⟨bd, nb, nd, rfl, -, p2, hi2, -⟩ := (HPn.out.keep HZ.out.1).at j hjn
          have hr1 := HSy.out.wf.at j
          have hr2 := HT.out.2.1.wf.at j
          have hw := HT.out.1.count j (by omega) (by omega)
          have hwle := live_le hr2 up
          have hL1 := hid (fun wq hk => live_any wq up _ (nodesAt ps j) hup (hi1.keep (w' := wq) hk) (fun x hx => by have := hr1.2 x hx; have := HSy.out.n12; omega))
          have hL2 := hid (fun wq hk => live_any wq up _ (nodesAt now j) hup (hi2.keep (w' := wq) hk) (fun x hx => by have := hr2.2 x hx; have := HSy.out.n12; omega))
          obtain ⟨wo, hwo⟩ : ∃ x, x = (live up (nodesAt ps j)).length := ⟨_, rfl⟩
          obtain ⟨ww, hww⟩ : ∃ x, x = want s up cn (nodesAt ps j) := ⟨_, rfl⟩
          rw [hw, ← hww] at hL2
          rw [← hwo] at hL1
          have hdef : ww = if wo = 0 then 0 else max wo (min cn a) := by rw [hww, hwo, HA.out]; rfl
          have hwo12 : wo ≤ 12 := by
            have h1 := List.length_filter_le (isUp up) (nodesAt ps j)
            have h2 := rise_len hr1
            have := HSy.out.n12
            rw [hwo]
            unfold live
            omega
          have hww12 : ww ≤ 12 := by rw [hdef]; split <;> omega
          have hwoww : wo ≤ ww := by rw [hwo, hww]; exact want_ge s up cn
          have hst : ((List.range' 0 (j + 1)).map fun j => want s up cn (nodesAt ps j) - (live up (nodesAt ps j)).length).sum = t + (ww - wo) := by
            rw [List.range'_concat, List.map_append, List.sum_append, ← HZ.out.2]
            simp [← hww, ← hwo]
          have hm12 : t ≤ 12 * m := by omega
          obtain ⟨s1, hs1⟩ : ∃ x, x = t + ww := ⟨_, rfl⟩
          obtain ⟨s2, hs2⟩ : ∃ x, x = t + (ww - wo) := ⟨_, rfl⟩
          have f1 : (t : Int) + (ww : Int) = (s1 : Int) := by omega
          have f2 : (s1 : Int) - (wo : Int) = (s2 : Int) := by omega
          have f3 : IntKind.i64.wrap (s1 : Int) = (s1 : Int) := by simp [IntKind.wrap, IntKind.signed, IntKind.bits]; omega
          have f4 : IntKind.i64.wrap (s2 : Int) = (s2 : Int) := by simp [IntKind.wrap, IntKind.signed, IntKind.bits]; omega
          have HS2 := hid (show s2 = ((List.range' 0 (j + 1)).map fun j => want s up cn (nodesAt ps j) - (live up (nodesAt ps j)).length).sum by rw [hst, hs2])
          have hs212 : s2 ≤ 12 * (j + 1) := by omega
          have HDef := hid hdef
          have hmin := fun w : World => min_any w cn a (a : Int) rfl
          have hmax := fun w : World => maxn_any w wo (min cn a)
          obtain ⟨mx, hmx⟩ : ∃ x, x = max wo (min cn a) := ⟨_, rfl⟩
          rw [← hmx] at hmax hdef
          obtain ⟨mn, hmn⟩ : ∃ x, x = min cn a := ⟨_, rfl⟩
          rw [← hmn] at hmax hmin
          clear hkz hi1 hi2 hr1 hr2 hw hwle hwo hww hst hs1 hs2 hwoww hmx hmn
          go_wp2_with (at_builtin; refine stopAt ?_; intro q hq)
          refine (hL1.out wr (Keep.refl _ _)).mono ?_
          rintro e w4 ⟨rfl, hk4⟩
          have HK4 := hid hk4
          have p2 := cell_old hk4 _ _ p2
          clear hk4
          go_wp2_with (at_builtin; refine stopAt ?_; intro q hq)
          refine (hL2.out w4 HK4.out).mono ?_
          rintro e w5 ⟨rfl, hk5⟩
          have HK5 := hid (HK4.out.next hk5 (fun _ _ x => x) (fun _ _ x => x))
          clear hk5 p1 p2
          have HZ5 := hid (HZ.out.1.next HK5.out (fun _ _ x => x) (fun _ _ x => x))
          by_cases h0 : wo = 0
          · have t1 : decide ((wo : Int) = 0) = true := by simpa using h0
            have t2 : ((wo : Int) == 0) = true := by simpa using h0
            rw [if_pos h0] at hdef
            have t3 : ((ww : Int) != 0) = false := by simp; omega
            have t4 : decide ((ww : Int) = 0) = true := by simp; omega
            have f1' : (t : Int) + 0 = (s1 : Int) := by omega
            clear h0 hdef
            go_wp2_with (at_builtin; refine stopAt ?_; intro q hq)
            exact ⟨⟨j + 1, s2, by omega, by go_num, rfl, hs212, hid ⟨HZ5.out, HS2.out⟩⟩, by simp [intOf]; omega⟩
          · have t1 : decide ((wo : Int) = 0) = false := by simpa using h0
            have t2 : ((wo : Int) == 0) = false := by simpa using h0
            rw [if_neg h0] at hdef
            have t3 : ((ww : Int) != (mx : Int)) = false := by simp; omega
            have t4 : decide ((ww : Int) = (mx : Int)) = true := by simp; omega
            have f1' : (t : Int) + (mx : Int) = (s1 : Int) := by omega
            clear h0 hdef
            go_wp2_with (at_builtin; refine stopAt ?_; intro q hq)
            exact ⟨⟨j + 1, s2, by omega, by go_num, rfl, hs212, hid ⟨HZ5.out, HS2.out⟩⟩, by simp [intOf]; omega⟩
        · have h5 : decide ((j : Int) < m) = false := by simp; omega
          have htM : t = M := by
            rw [HZ.out.2, HT.out.2.2.2, HT.out.1.moves]
            rw [show j = ps.length by have := HNm.out.2; omega]
          have HtM := hid htM
          have hkz := (HK2.out.next HK3.out (fun _ _ x => x) (fun _ _ x => x)).next HZ.out.1 (fun _ _ x => x) (fun _ _ x => x)
          have hpl2 := mends_plan wr _ _ s now up cn (HS.out.keep hkz) (HPn.out.keep HZ.out.1) HT.out.2.1 hup hc12
          rw [HT.out.2.2.1] at hpl2
          have HPl2 := hid hpl2
          have HKz := hid (HK1.out.next hkz (fun _ _ x => x) (fun _ _ x => x))
          clear htM hkz hpl2
          subst HtM
          go_wp2_with (at_builtin; refine stopAt ?_; intro q hq)
          refine HPl2.out.mono ?_
          rintro e w6 ⟨mv2, rfl, -, hmr2, hk6⟩
          obtain ⟨am2, cm2, rfl, -⟩ := hmr2.form
          have HK6 := hid (HKz.out.next hk6 (fun _ _ x => x) (fun _ _ x => x))
          clear hmr2 hk6
          go_wp2_with (at_builtin; refine stopAt ?_; intro q hq)
          refine (HKn.out w6).mono ?_
          rintro e w7 ⟨rfl, hk7⟩
          have HK7 := hid (HK6.out.next hk7 (fun _ _ x => x) (fun _ _ x => x))
          clear hk7
          go_wp2_with (at_builtin; refine stopAt ?_; intro q hq)
          go_ret
          exact ⟨rfl, HK7.out⟩
end Go.Proofs.Ytmdonjadhkffiaa
/- Heal: HealDrops' walk. Conditions: as each law names them. -/
namespace Go.Proofs.Ytmdonjadhkffiaa
open Go.RowKit
open HE

set_option maxRecDepth 20000 in
set_option maxHeartbeats 1000000 in
theorem spread_any (w : World) (vs v : Value) (s l : List Int) (up : Nat) (hs : IntsV w vs s) (h : IntsV w v l) (hup : up < 4294967296) (hs12 : s.length ≤ 12) (hr : ∀ x ∈ l, 0 ≤ x ∧ x < s.length) :
    Calls Try.prog 29 #[vs, .int .u32 (up : Int), v] w fun e w' => e = .returned (.int .i64 (spread s up l : Nat)) ∧ Keep (fun _ => False) w w' := by
  obtain ⟨P, hP⟩ : ∃ P : Int → Bool, P = fun c => decide (c ∈ (live up l).map (site s)) := ⟨_, rfl⟩
  obtain ⟨E, hE⟩ : ∃ E, E = spread s up l := ⟨_, rfl⟩
  rw [← hE]
  have HE := hid (show E = ((nums 12).filter P).length by rw [hE, hP]; rfl)
  have HPt := hid (show ∀ j (hj : j < l.length), isUp up l[j] = true → P (site s l[j]) = true from fun j hj hu => by
    rw [hP]
    simp only [decide_eq_true_eq]
    exact List.mem_map_of_mem (List.mem_filter.2 ⟨List.getElem_mem hj, hu⟩))
  have HPf := hid (show ∀ c, (∀ j (hj : j < l.length), ¬ (isUp up l[j] = true ∧ site s l[j] = c)) → P c = false from fun c hc => by
    rw [hP]
    simp only [decide_eq_false_iff_not]
    intro hm
    obtain ⟨y, hy, e⟩ := List.mem_map.1 hm
    obtain ⟨h1, h2⟩ := List.mem_filter.1 hy
    obtain ⟨j, hj, rfl⟩ := List.getElem_of_mem h1
    exact hc j hj ⟨h2, e⟩)
  have HU := hid (fun wq (n : Int) h0 h1 => up_any wq up n hup h0 h1)
  obtain ⟨ao, c, rfl, hm, -, hc⟩ := h
  obtain ⟨aS, cS, rfl, hms, -, hcs⟩ := hs
  obtain ⟨m, hmm⟩ : ∃ m, m = l.length := ⟨_, rfl⟩
  obtain ⟨N, hN⟩ : ∃ N, N = s.length := ⟨_, rfl⟩
  rw [← hmm] at hm ⊢
  rw [← hN] at hms hs12 ⊢
  have hm63 : (m : Int) ≤ 9223372036854775807 := by unfold maxLen at hm; omega
  have HM := hid (And.intro hmm hN)
  have HC := hid hc
  have HCs := hid hcs
  have HR := hid hr
  clear hP hE hc hcs hmm hN hr hms
  go_enter Try.func29, Try.ntmps29
  go_wp2_with (at_builtin; refine stopAt ?_; intro q hq)
  go_loopw [7, 8] (fun kv cv wr => ∃ (c k : Nat), c ≤ 12 ∧ k ≤ c ∧ cv = .int .i64 c ∧ kv = .int .i64 k ∧ Hid (Keep (fun _ => False) w wr ∧ k = ((nums c).filter P).length)) (fun _ cv _ => 12 - (intOf cv).toNat)
  case atStart => exact ⟨0, 0, Nat.zero_le _, Nat.le_refl _, rfl, rfl, hid ⟨Keep.refl _ _, rfl⟩⟩
  case round =>
    obtain ⟨c, k, hc, hkc, rfl, rfl, HK⟩ := hrel
    by_cases hcn : c < 12
    · have h4 : (c : Int) < 12 := by omega
      have hst : ((nums (c + 1)).filter P).length = k + if P (c : Int) then 1 else 0 := by
        rw [nums_snoc, List.filter_append, List.length_append, HK.out.2, List.filter_cons]
        cases P (c : Int) <;> rfl
      have HS := hid hst
      have HK0 := hid HK.out.1
      clear hst HK
      go_upto_block 1 with fail
      go_cut [7] (fun kv wx => kv = .int .i64 (k + (if P (c : Int) then 1 else 0) : Nat) ∧ Hid (Keep (fun _ => False) w wx))
      case first =>
        go_wp2_with (at_builtin; refine stopAt ?_; intro q hq)
        go_loopw [7, 9] (fun kv iv wy => ∃ i : Nat, i ≤ m ∧ iv = .int .i64 i ∧ kv = .int .i64 k ∧ Hid (Keep (fun _ => False) w wy ∧ ∀ j (hj : j < l.length), j < i → ¬ (isUp up l[j] = true ∧ site s l[j] = (c : Int)))) (fun _ iv _ => m - (intOf iv).toNat)
        case atStart => exact ⟨0, Nat.zero_le _, rfl, rfl, hid ⟨HK0.out, fun j _ h => by omega⟩⟩
        case round =>
          obtain ⟨i, hi, rfl, rfl, HI⟩ := hrel
          by_cases hin : i < m
          · have h5 : (i : Int) < m := by omega
            have hil : i < l.length := by rw [← HM.out.1]; exact hin
            obtain ⟨ad, rfl, hcell⟩ := HC.out (by omega)
            have hxr := HR.out l[i] (List.getElem_mem hil)
            obtain ⟨ads, rfl, hcells⟩ := HCs.out (by omega)
            have a0 := cell_old HI.out.1 _ _ (hcell i hil)
            have b0 := site_cell HI.out.1 hcells l[i] hxr.1 hxr.2
            obtain ⟨xn, hxn⟩ : ∃ x : Nat, (x : Int) = l[i] := ⟨l[i].toNat, by omega⟩
            have hPt := HPt.out i hil
            have hnew : ¬ (isUp up l[i] = true ∧ site s l[i] = (c : Int)) → ∀ j (hj : j < l.length), j < i + 1 → ¬ (isUp up l[j] = true ∧ site s l[j] = (c : Int)) := fun h j hj hji => by
              by_cases e : j = i
              · subst e; exact h
              · exact HI.out.2 j hj (by omega)
            rw [← hxn] at a0 b0 hPt hxr hnew
            rw [Int.toNat_natCast] at b0
            obtain ⟨sx, hsx⟩ : ∃ z, z = site s (xn : Int) := ⟨_, rfl⟩
            rw [← hsx] at b0 hPt hnew
            have hxN : (xn : Int) < N := by have := HM.out.2; omega
            have hx12 : (xn : Int) < 12 := by omega
            have HNew := hid (And.intro hPt hnew)
            clear hcell hcells hxr hxn hPt hnew hsx
            go_wp2_with (at_builtin; refine stopAt ?_; intro q hq)
            refine (HU.out wr (xn : Int) (by omega) hx12).mono ?_
            rintro e w3 ⟨rfl, rfl⟩
            obtain ⟨B, hB⟩ : ∃ B, B = isUp up (xn : Int) := ⟨_, rfl⟩
            rw [← hB]
            have HB := hid hB
            clear hB
            cases B with
            | false =>
              go_wp2_with (at_builtin; refine stopAt ?_; intro q hq)
              exact ⟨⟨i + 1, by omega, by go_num, rfl, hid ⟨HI.out.1, HNew.out.2 (by rw [← HB.out]; simp)⟩⟩, by simp [intOf]; omega⟩
            | true =>
              by_cases hss : sx = (c : Int)
              · have t1 : decide (sx = (c : Int)) = true := by simpa using hss
                have t2 : (sx == (c : Int)) = true := by simpa using hss
                have hPc : P (c : Int) = true := by rw [← hss]; exact HNew.out.1 HB.out.symm
                have HPc := hid hPc
                clear hss hPc
                go_wp2_with (at_builtin; refine stopAt ?_; intro q hq)
                go_meet
                exact ⟨by rw [HPc.out]; go_num, hid HI.out.1⟩
              · have t1 : decide (sx = (c : Int)) = false := by simpa using hss
                have t2 : (sx == (c : Int)) = false := by simpa using hss
                have HSs := hid hss
                clear hss
                go_wp2_with (at_builtin; refine stopAt ?_; intro q hq)
                exact ⟨⟨i + 1, by omega, by go_num, rfl, hid ⟨HI.out.1, HNew.out.2 (fun h => HSs.out h.2)⟩⟩, by simp [intOf]; omega⟩
          · have h5 : decide ((i : Int) < m) = false := by simp; omega
            have hPc : P (c : Int) = false := HPf.out _ (fun j hj => HI.out.2 j hj (by have := HM.out.1; omega))
            have HPc := hid hPc
            clear hPc
            go_wp2_with (at_builtin; refine stopAt ?_; intro q hq)
            go_meet
            exact ⟨by rw [HPc.out]; rfl, hid HI.out.1⟩
      case rest =>
        obtain ⟨rfl, HKx⟩ := hcut
        obtain ⟨k2, hk2⟩ : ∃ k2, k2 = k + (if P (c : Int) then 1 else 0) := ⟨_, rfl⟩
        rw [← hk2]
        have HS2 := hid (show k2 = ((nums (c + 1)).filter P).length by rw [hk2, HS.out])
        have hk2c : k2 ≤ c + 1 := by rw [hk2]; split <;> omega
        clear hk2
        go_wp2_with (at_builtin; refine stopAt ?_; intro q hq)
        exact ⟨⟨c + 1, k2, by omega, hk2c, by go_num, rfl, hid ⟨HKx.out, HS2.out⟩⟩, by simp [intOf]; omega⟩
    · have h4 : decide ((c : Int) < 12) = false := by simp; omega
      go_wp2_with (at_builtin; refine stopAt ?_; intro q hq)
      go_ret
      refine ⟨?_, HK.out.1⟩
      rw [show E = k by rw [HE.out, HK.out.2, show c = 12 by omega]]
      rfl

/-- A drop has few moves. -/
theorem dropAt_few (s : List Int) (up copies i : Nat) : ∀ (f : Nat) (ps : List Pl), (dropAt s up copies i f ps).1.length ≤ f
  | 0, ps => Nat.zero_le _
  | f + 1, ps => by
    unfold dropAt
    split
    · cases worst s up ps (nodesAt ps i) with
      | none => simp
      | some t => simp only [List.length_cons]; have := dropAt_few s up copies i f (setNodes ps i (without (nodesAt ps i) t)); omega
    · simp
theorem dropFrom_few {s : List Int} (hs : sitesOk s = true) (hn : s.length ≤ 12) (up copies : Nat) : ∀ (n i : Nat) (ps : List Pl), Wf s ps → i + n ≤ ps.length → (dropFrom s up copies i n ps).1.length ≤ 12 * n
  | 0, i, ps, _, _ => by simp [dropFrom]
  | n + 1, i, ps, hw, hi => by
    have h1 := dropAt_few s up copies i (nodesAt ps i).length ps
    have h2 := rise_len (hw.at i)
    have h3 := dropAt_done hs up copies i (nodesAt ps i).length ps hw (by omega) (by have := List.length_filter_le (isUp up) (nodesAt ps i); unfold live; omega)
    have h4 := dropFrom_few hs hn up copies n (i + 1) _ h3.wf (by rw [h3.len]; omega)
    show ((dropAt s up copies i (nodesAt ps i).length ps).1 ++ (dropFrom s up copies (i + 1) n (dropAt s up copies i (nodesAt ps i).length ps).2).1).length ≤ _
    rw [List.length_append]
    omega
theorem drop_few {s : List Int} {ps : List Pl} (h : Sound s ps) (up copies : Nat) : (drop s up copies ps).1.length ≤ 12 * ps.length := dropFrom_few h.sitesOk h.n12 up copies ps.length 0 ps h.wf (by omega)

set_option maxRecDepth 20000 in
set_option maxHeartbeats 4000000 in
theorem drops_walk (w : World) (v0 : Value) (s0 : List Int) (h0 : Ints w v0 s0) (up : Nat) (hup : up < 4294967296) (copies : Int) (_lo : -9223372036854775808 ≤ copies) (_hi : copies ≤ 9223372036854775807) (v3 : Value) (raw : List Pl) (h3 : SliceOf w 2 (PlR w) v3 raw) :
    Calls Try.prog 7 #[v0, .int .u32 (up : Int), .int .i64 copies, v3] w fun e w' => e = .returned (.bool true) ∧ Keep (fun _ => False) w w' := by
  have hs : IntsV w v0 s0 := IntsV.of_ints h0
  have hp : PlsV w v3 raw := PlsV.of_pls h3
  have HRi := hid (right_any w v0 v3 s0 raw hs hp)
  have HKn := hid known_any
  obtain ⟨aS, cS, rfl, -⟩ := hs
  obtain ⟨aP, cP, rfl, -⟩ := hp
  clear h0 h3
  go_enter Try.func7, Try.ntmps7
  go_wp2_with (at_builtin; refine stopAt ?_; intro q hq)
  refine HRi.out.mono ?_
  rintro e w1 ⟨vs, s, vl, xs, rfl, hN, hso, hrp, hxl, hos, hop, hk1⟩
  obtain ⟨ps, hps⟩ : ∃ ps, ps = xs.map (·.1) := ⟨_, rfl⟩
  have hsy : Sound s ps := by rw [hps]; exact right_sys hN hso hrp hxl
  have hsv : IntsV w1 vs s := hos.ints
  have hpv : PlsV w1 vl ps := by rw [hps]; exact hop.pls
  have hm40 : ps.length ≤ 40 := by rw [hps, List.length_map]; exact hxl
  obtain ⟨aos, cs, rfl, -⟩ := id hsv
  obtain ⟨al, cl, rfl, -⟩ := id hpv
  obtain ⟨N, hNN⟩ : ∃ N, N = s.length := ⟨_, rfl⟩
  obtain ⟨m, hm⟩ : ∃ m, m = ps.length := ⟨_, rfl⟩
  rw [← hNN] at hsv hN ⊢
  rw [← hm] at hpv hm40 ⊢
  have HS := hid hsv
  have HP := hid hpv
  have HSy := hid hsy
  have HNm := hid (And.intro hNN hm)
  have HK1 := hid hk1
  have hmod := umod_int copies 12 (by decide) (by decide)
  obtain ⟨q, hq⟩ : ∃ q, q = copies % 18446744073709551616 % 12 := ⟨_, rfl⟩
  rw [← hq] at hmod
  obtain ⟨cn, hcn⟩ : ∃ c : Nat, (c : Int) = 1 + q := ⟨(1 + q).toNat, by omega⟩
  have hc12 : 1 ≤ cn ∧ cn ≤ 12 := by omega
  have e1 : 1 + q = (cn : Int) := hcn.symm
  have e2 : IntKind.i64.wrap (cn : Int) = (cn : Int) := by simp [IntKind.wrap, IntKind.signed, IntKind.bits]; omega
  have HPl := hid (mends_drop w1 _ _ s ps up cn hsv hpv hsy hup hc12)
  clear hps hsy hsv hpv hop hos hrp hso hxl hNN hm hk1 hq hcn
  go_wp2_with (at_builtin; refine stopAt ?_; intro q hq)
  refine HPl.out.mono ?_
  rintro e w2 ⟨mv, rfl, hmv, hmr, hk2⟩
  obtain ⟨M, hM⟩ : ∃ M, M = (drop s up cn ps).1.length := ⟨_, rfl⟩
  obtain ⟨now, hnow⟩ : ∃ now, now = (drop s up cn ps).2 := ⟨_, rfl⟩
  have hto : DropTo s up cn 0 ps.length ps now := by rw [hnow]; exact HSy.out.dropTo up cn
  have hap : apply ps (drop s up cn ps).1 = some now := by rw [hnow]; exact HSy.out.applyD up cn
  have hsn : Sound s now := by exact HSy.out.same hto.len hto.wf hto.chunks
  have hM480 : M ≤ 480 := by have := drop_few HSy.out up cn; have := HNm.out.2; omega
  have HAp := hid (mends_apply w2 _ _ s ps now _ (HP.out.keep hk2) hmv HSy.out hap hsn (by omega))
  obtain ⟨am, cm, rfl, -⟩ := id hmv
  rw [← hM] at HAp ⊢
  have HT := hid (And.intro hto (And.intro hsn hM))
  have HK2 := hid hk2
  clear hmv hmr hM hnow hto hap hsn hk2 HPl
  go_wp2_with (at_builtin; refine stopAt ?_; intro q hq)
  refine HAp.out.mono ?_
  rintro e w3 ⟨vn, rfl, hpn, hk3⟩
  have hnl : now.length = m := by have := HT.out.1.len; have := HNm.out.2; omega
  obtain ⟨an, cnn, rfl, -⟩ := id hpn
  rw [hnl] at hpn ⊢
  have HPn := hid hpn
  have HK3 := hid hk3
  have HU := hid (fun wq (n : Int) h0 h1 => up_any wq up n hup h0 h1)
  clear hpn hnl hk3 HAp
  go_wp2_with (at_builtin; refine stopAt ?_; intro q hq)
  go_loopw [16] (fun iv wz => ∃ j : Nat, j ≤ m ∧ iv = .int .i64 j ∧ Hid (Keep (fun _ => False) w3 wz)) (fun iv _ => m - (intOf iv).toNat)
  case atStart => exact ⟨0, Nat.zero_le _, rfl, hid (Keep.refl _ _)⟩
  case round =>
    obtain ⟨j, hj, rfl, HZ⟩ := hrel
    by_cases hjm : j < m
    · have h5 : (j : Int) < m := by omega
      have hkz := (HK2.out.next HK3.out (fun _ _ x => x) (fun _ _ x => x)).next HZ.out (fun _ _ x => x) (fun _ _ x => x)
      have hjl : j < ps.length := by have := HNm.out.2; omega
      have hjn : j < now.length := by have := HT.out.1.len; omega
      obtain ⟨ad, na, nc, rfl, -, p1, hi1, -⟩ := (HP.out.keep hkz).at j hjl
      obtain ⟨bd, nb, nd, rfl, -, p2, hi2, -⟩ := (HPn.out.keep HZ.out).at j hjn
      have hr1 := HSy.out.wf.at j
      have hr2 := HT.out.2.1.wf.at j
      have hw := HT.out.1.count j (by omega) (by omega)
      have hsp := HT.out.1.spread j (by omega) (by omega)
      have hL1 := hid (fun wq hk => live_any wq up _ (nodesAt ps j) hup (hi1.keep (w' := wq) hk) (fun x hx => by have := hr1.2 x hx; have := HSy.out.n12; omega))
      have hL2 := hid (fun wq hk => live_any wq up _ (nodesAt now j) hup (hi2.keep (w' := wq) hk) (fun x hx => by have := hr2.2 x hx; have := HSy.out.n12; omega))
      have hsr := HS.out.keep hkz
      have HSp1 := hid (fun wq (hk : Keep (fun _ => False) wr wq) => spread_any wq _ _ s (nodesAt ps j) up (hsr.keep hk) (hi1.keep hk) hup HSy.out.n12 (fun x hx => hr1.2 x hx))
      have HSp2 := hid (fun wq (hk : Keep (fun _ => False) wr wq) => spread_any wq _ _ s (nodesAt now j) up (hsr.keep hk) (hi2.keep hk) hup HSy.out.n12 (fun x hx => hr2.2 x hx))
      rw [hw] at hL2 hsp
      obtain ⟨wo, hwo⟩ : ∃ x, x = (live up (nodesAt ps j)).length := ⟨_, rfl⟩
      rw [← hwo] at hL1 hL2 hsp
      obtain ⟨sp1, hsp1⟩ : ∃ x, x = spread s up (nodesAt ps j) := ⟨_, rfl⟩
      obtain ⟨sp2, hsp2⟩ : ∃ x, x = spread s up (nodesAt now j) := ⟨_, rfl⟩
      rw [← hsp1] at HSp1
      rw [← hsp2] at HSp2
      rw [← hsp1, ← hsp2] at hsp
      have hmin1 := fun w : World => min_any w wo cn (cn : Int) rfl
      obtain ⟨mn, hmn⟩ : ∃ x, x = min wo cn := ⟨_, rfl⟩
      rw [← hmn] at hmin1 hL2 hsp
      have hmin2 := fun w : World => min_any w sp1 mn (mn : Int) rfl
      rw [← hsp] at hmin2
      obtain ⟨n1, hn1⟩ : ∃ x, x = (nodesAt ps j).length := ⟨_, rfl⟩
      obtain ⟨n2, hn2⟩ : ∃ x, x = (nodesAt now j).length := ⟨_, rfl⟩
      rw [← hn1] at hL1 HSp1 p1
      rw [← hn2] at hL2 HSp2 p2
      clear hkz hi1 hi2 hr1 hr2 hw hwo hsp1 hsp2 hmn hsp hsr hn1 hn2
      go_wp2_with (at_builtin; refine stopAt ?_; intro q hq)
      refine (hL1.out wr (Keep.refl _ _)).mono ?_
      rintro e w4 ⟨rfl, hk4⟩
      have HK4 := hid hk4
      have p1 := cell_old hk4 _ _ p1
      have p2 := cell_old hk4 _ _ p2
      clear hk4
      go_wp2_with (at_builtin; refine stopAt ?_; intro q hq)
      refine (hL2.out w4 HK4.out).mono ?_
      rintro e w5 ⟨rfl, hk5⟩
      have HK5 := hid (HK4.out.next hk5 (fun _ _ x => x) (fun _ _ x => x))
      have p1 := cell_old hk5 _ _ p1
      have p2 := cell_old hk5 _ _ p2
      have j1 := fun x : Later w5 => x.cell p1
      have j2 := fun x : Later w5 => x.cell p2
      have HSq1 := hid (fun x : Later w5 => HSp1.out x.val (HK5.out.next x.keep (fun _ _ x => x) (fun _ _ x => x)))
      have HSq2 := hid (fun x : Later w5 => HSp2.out x.val (HK5.out.next x.keep (fun _ _ x => x) (fun _ _ x => x)))
      have t1 : ((mn : Int) != (mn : Int)) = false := by simp
      have t2 : ((sp2 : Int) != (sp2 : Int)) = false := by simp
      clear hk5
      go_upto_region 14 with fail
      refine wp_region_later (by kernel_rfl) (by kernel_rfl) ?_
      (repeat (go_big_quiet_step (fail)))
      go_big_quiet_step ((go_at_call 29; exact Later.call (HSq2.out _)))
      (repeat (go_big_quiet_step (fail)))
      go_big_quiet_step ((go_at_call 29; exact Later.call (HSq1.out _)))
      (repeat (go_big_quiet_step (fail)))
      refine wpQuiet_nil ?_
      rintro _ ⟨sq, rfl⟩
      have HZ6 := hid ((HZ.out.next HK5.out (fun _ _ x => x) (fun _ _ x => x)).next sq.keep (fun _ _ x => x) (fun _ _ x => x))
      clear hmin1 hmin2
      go_wp2_with (at_builtin; refine stopAt ?_; intro q hq)
      exact ⟨⟨j + 1, by omega, by go_num, HZ6⟩, by simp [intOf]; omega⟩
    · have h5 : decide ((j : Int) < m) = false := by simp; omega
      have HKz := hid ((HK1.out.next (HK2.out.next HK3.out (fun _ _ x => x) (fun _ _ x => x)) (fun _ _ x => x) (fun _ _ x => x)).next HZ.out (fun _ _ x => x) (fun _ _ x => x))
      go_wp2_with (at_builtin; refine stopAt ?_; intro q hq)
      refine (HKn.out wr).mono ?_
      rintro e w7 ⟨rfl, hk7⟩
      have HK7 := hid (HKz.out.next hk7 (fun _ _ x => x) (fun _ _ x => x))
      clear hk7
      go_wp2_with (at_builtin; refine stopAt ?_; intro q hq)
      go_ret
      exact ⟨rfl, HK7.out⟩
end Go.Proofs.Ytmdonjadhkffiaa
/- Heal: HealSpreads' walk. Conditions: as each law names them. -/
namespace Go.Proofs.Ytmdonjadhkffiaa
open Go.RowKit
open HE

theorem psteps_cons {s : List Int} {up c : Nat} {qs now : List Pl} {m : Mv} {ms : List Mv} (h : PSteps s up c qs (m :: ms) now) :
    ∃ i t, i < qs.length ∧ 0 < (live up (nodesAt qs i)).length ∧ (live up (nodesAt qs i)).length < c ∧ target s up qs (nodesAt qs i) = some t ∧ m = ⟨chunkAt qs i, source s (live up (nodesAt qs i)) t, t⟩ ∧ PSteps s up c (setNodes qs i (withN (nodesAt qs i) t)) ms now := by
  cases h with
  | cons hi h0 h1 ht h => exact ⟨_, _, hi, h0, h1, ht, rfl, h⟩
theorem MvsV.one {w : World} {ao : Option Addr} {n c : Nat} {ms : List Mv} (h : MvsV w (.slice ao n c) ms) (k : Nat) (hk : k < ms.length) (hc : ms.length ≤ c) : MvsV w (.slice (tailAt ao c k 3) 1 (c - k)) [ms[k]] := by
  obtain ⟨ao', c', hv, hm, hz, hcs⟩ := h
  cases hv
  refine ⟨_, _, rfl, by unfold maxLen; simp, fun m hm => by rw [List.mem_singleton] at hm; rw [hm]; exact hz _ (List.getElem_mem hk), ?_⟩
  have h1 := (hcs.tail k (by omega) hc (by decide)).take 1 (by omega)
  have e : ((mvsV ms).drop (k * 3)).take (1 * 3) = mvsV [ms[k]] := by
    obtain ⟨g1, g2, g3⟩ := mvsV_get ms k hk
    have hl := mvsV_length ms
    apply List.ext_getElem?
    intro j
    rw [List.getElem?_take]
    by_cases hj : j < 1 * 3
    · rw [if_pos hj, List.getElem?_drop]
      have : j = 0 ∨ j = 1 ∨ j = 2 := by omega
      rcases this with rfl | rfl | rfl
      · rw [Nat.add_zero, g1]; rfl
      · rw [g2]; rfl
      · rw [g3]; rfl
    · rw [if_neg hj]
      exact (List.getElem?_eq_none (by rw [mvsV_length]; simp; omega)).symm
  rw [e] at h1
  exact h1

set_option maxRecDepth 20000 in
set_option maxHeartbeats 1000000 in
theorem place_any (w : World) (v : Value) (ps : List Pl) (c : Int) (h : PlsV w v ps) :
    Calls Try.prog 26 #[v, .int .i64 c] w fun e w' => e = .returned (.int .i64 (natV (find ps c))) ∧ Keep (fun _ => False) w w' := by
  have HP := hid h
  obtain ⟨ao, cp, rfl, hm, -⟩ := h
  obtain ⟨m, hmm⟩ : ∃ m, m = ps.length := ⟨_, rfl⟩
  rw [← hmm] at hm HP ⊢
  have hm63 : (m : Int) ≤ 9223372036854775807 := by unfold maxLen at hm; omega
  have HM := hid hmm
  obtain ⟨E, hE⟩ : ∃ E, E = natV (find ps c) := ⟨_, rfl⟩
  rw [← hE]
  have HE := hid hE
  clear hmm hE
  go_enter Try.func26, Try.ntmps26
  go_wp2_with (at_builtin; refine stopAt ?_; intro q hq)
  go_loopw [5] (fun iv wr => ∃ i : Nat, i ≤ m ∧ iv = .int .i64 i ∧ Hid (Keep (fun _ => False) w wr ∧ ∀ j, j < i → chunkAt ps j ≠ c)) (fun iv _ => m - (intOf iv).toNat)
  case atStart => exact ⟨0, Nat.zero_le _, rfl, hid ⟨Keep.refl _ _, fun j h => by omega⟩⟩
  case round =>
    obtain ⟨i, hi, rfl, HK⟩ := hrel
    by_cases hin : i < m
    · have h4 : (i : Int) < m := by omega
      have hil : i < ps.length := by rw [← HM.out]; exact hin
      obtain ⟨ad, an, cn, rfl, p0, -, -, -⟩ := (HP.out.keep HK.out.1).at i hil
      obtain ⟨ch, hch⟩ : ∃ ch, ch = chunkAt ps i := ⟨_, rfl⟩
      rw [← hch] at p0
      have HCh := hid hch
      clear hch
      by_cases hc : ch = c
      · have t1 : decide (ch = c) = true := by simpa using hc
        have t2 : (ch == c) = true := by simpa using hc
        have HC := hid hc
        clear hc
        go_wp2_with (at_builtin; refine stopAt ?_; intro q hq)
        go_ret
        refine ⟨?_, HK.out.1⟩
        rw [show E = (i : Int) by
          rw [HE.out, find_range, List.find?_range_eq_some.2 ⟨by rw [← HCh.out, HC.out]; simp, List.mem_range.2 hil, fun j hj => by simpa using HK.out.2 j hj⟩]
          rfl]
        rfl
      · have t1 : decide (ch = c) = false := by simpa using hc
        have t2 : (ch == c) = false := by simpa using hc
        have HC := hid hc
        clear hc
        go_wp2_with (at_builtin; refine stopAt ?_; intro q hq)
        exact ⟨⟨i + 1, by omega, by go_num, hid ⟨HK.out.1, fun j hj => by
          by_cases e : j = i
          · rw [e, ← HCh.out]; exact HC.out
          · exact HK.out.2 j (by omega)⟩⟩, by simp [intOf]; omega⟩
    · have h4 : decide ((i : Int) < m) = false := by simp; omega
      go_wp2_with (at_builtin; refine stopAt ?_; intro q hq)
      go_ret
      refine ⟨?_, HK.out.1⟩
      rw [show E = -1 by
        rw [HE.out, find_range, List.find?_eq_none.2 fun j hj => by
          have := List.mem_range.1 hj
          simpa using HK.out.2 j (by have := HM.out; omega)]
        rfl]
      rfl

set_option maxRecDepth 20000 in
set_option maxHeartbeats 4000000 in
theorem spreads_walk (w : World) (v0 : Value) (s0 : List Int) (h0 : Ints w v0 s0) (up : Nat) (hup : up < 4294967296) (copies : Int) (_lo : -9223372036854775808 ≤ copies) (_hi : copies ≤ 9223372036854775807) (v3 : Value) (raw : List Pl) (h3 : SliceOf w 2 (PlR w) v3 raw) :
    Calls Try.prog 6 #[v0, .int .u32 (up : Int), .int .i64 copies, v3] w fun e w' => e = .returned (.bool true) ∧ Keep (fun _ => False) w w' := by
  have hs : IntsV w v0 s0 := IntsV.of_ints h0
  have hp : PlsV w v3 raw := PlsV.of_pls h3
  have HRi := hid (right_any w v0 v3 s0 raw hs hp)
  have HKn := hid known_any
  obtain ⟨aS, cS, rfl, -⟩ := hs
  obtain ⟨aP, cP, rfl, -⟩ := hp
  clear h0 h3
  go_enter Try.func6, Try.ntmps6
  go_wp2_with (at_builtin; refine stopAt ?_; intro q hq)
  refine HRi.out.mono ?_
  rintro e w1 ⟨vs, s, vl, xs, rfl, hN, hso, hrp, hxl, hos, hop, hk1⟩
  obtain ⟨ps, hps⟩ : ∃ ps, ps = xs.map (·.1) := ⟨_, rfl⟩
  have hsy : Sound s ps := by rw [hps]; exact right_sys hN hso hrp hxl
  have hsv : IntsV w1 vs s := hos.ints
  have hpv : PlsV w1 vl ps := by rw [hps]; exact hop.pls
  have hm40 : ps.length ≤ 40 := by rw [hps, List.length_map]; exact hxl
  obtain ⟨aos, cs, rfl, -⟩ := id hsv
  obtain ⟨al, cl, rfl, -⟩ := id hpv
  obtain ⟨N, hNN⟩ : ∃ N, N = s.length := ⟨_, rfl⟩
  obtain ⟨m, hm⟩ : ∃ m, m = ps.length := ⟨_, rfl⟩
  rw [← hNN] at hsv hN ⊢
  rw [← hm] at hpv hm40 ⊢
  have HS := hid hsv
  have HP := hid hpv
  have HSy := hid hsy
  have HNm := hid (And.intro hNN hm)
  have HK1 := hid hk1
  have hmod := umod_int copies 12 (by decide) (by decide)
  obtain ⟨q, hq⟩ : ∃ q, q = copies % 18446744073709551616 % 12 := ⟨_, rfl⟩
  rw [← hq] at hmod
  obtain ⟨cn, hcn⟩ : ∃ c : Nat, (c : Int) = 1 + q := ⟨(1 + q).toNat, by omega⟩
  have hc12 : 1 ≤ cn ∧ cn ≤ 12 := by omega
  have e1 : 1 + q = (cn : Int) := hcn.symm
  have e2 : IntKind.i64.wrap (cn : Int) = (cn : Int) := by simp [IntKind.wrap, IntKind.signed, IntKind.bits]; omega
  have HPl := hid (mends_plan w1 _ _ s ps up cn hsv hpv hsy hup hc12)
  clear hps hsy hsv hpv hop hos hrp hso hxl hNN hm hk1 hq hcn
  have HU := hid (fun wq (n : Int) h0 h1 => up_any wq up n hup h0 h1)
  go_wp2_with (at_builtin; refine stopAt ?_; intro q hq)
  refine HPl.out.mono ?_
  rintro e w2 ⟨mv, rfl, hmv, hmr, hk2⟩
  obtain ⟨ms, hms⟩ : ∃ ms, ms = (plan s up cn ps).1 := ⟨_, rfl⟩
  obtain ⟨now, hnow⟩ : ∃ now, now = (plan s up cn ps).2 := ⟨_, rfl⟩
  have hst0 : PSteps s up cn ps ms now := by rw [hms, hnow]; exact HSy.out.psteps up cn
  have hM480 : ms.length ≤ 480 := by rw [hms]; have := psteps_few (HSy.out.planTo up cn) HSy.out.n12; have := HNm.out.2; omega
  rw [← hms] at hmv hmr
  obtain ⟨am, cm, rfl, hmc, -⟩ := hmr.form
  obtain ⟨M, hM⟩ : ∃ M, M = ms.length := ⟨_, rfl⟩
  rw [← hM] at hmv hmc hM480 ⊢
  have HMv := hid (And.intro hmv (And.intro hmc hM))
  have hvl : PlsV w2 (.slice al m cl) ps := HP.out.keep hk2
  have HK2 := hid hk2
  have HQ0 := hid (And.intro hvl (And.intro HSy.out (And.intro (show PSteps s up cn ps (ms.drop 0) now from hst0) HNm.out.2.symm)))
  clear hms hnow hst0 hmv hmr hmc hM hvl hk2 HPl
  go_wp2_with (at_builtin; refine stopAt ?_; intro q hq)
  go_loopw [13, 14] (fun nv iv wr => ∃ (k : Nat) (qs : List Pl) (vv : Value), k ≤ M ∧ iv = .int .i64 k ∧ vv = nv ∧ Hid (Keep (fun _ => False) w2 wr ∧ PlsV wr vv qs ∧ Sound s qs ∧ PSteps s up cn qs (ms.drop k) now ∧ qs.length = m)) (fun _ iv _ => M - (intOf iv).toNat)
  case atStart => exact ⟨0, ps, _, Nat.zero_le _, rfl, rfl, hid ⟨Keep.refl _ _, HQ0.out⟩⟩
  case round =>
    obtain ⟨k, qs, vv, hk, rfl, rfl, HR⟩ := hrel
    obtain ⟨av, cv, hvv, -⟩ := id HR.out.2.1
    rw [HR.out.2.2.2.2] at hvv
    subst hvv
    by_cases hkM : k < M
    · have h4 : (k : Int) < M := by omega
      have hkl : k < ms.length := by have := HMv.out.2.2; omega
      have hstep := HR.out.2.2.2.1
      rw [List.drop_eq_getElem_cons hkl] at hstep
      obtain ⟨i, t, hi, hl0, hl1, htg, hmk, hst⟩ := psteps_cons hstep
      rcases target_spec s up qs (nodesAt qs i) with ⟨htn, -⟩ | ⟨t', ht', htr, htu, htn, htmin⟩
      · rw [htn] at htg; cases htg
      rw [ht'] at htg
      obtain rfl : t' = t := Option.some.inj htg
      have hwf := HR.out.2.2.1.wf.at i
      have hsm := source_mem (s := s) hl0 t'
      have hsmem := List.mem_filter.1 hsm
      have hsr := hwf.2 _ hsmem.1
      have hfind := find_at HR.out.2.2.1.ch hi
      have hdrop : ms.drop k = ms[k] :: ms.drop (k + 1) := List.drop_eq_getElem_cons hkl
      have happ : apply qs [ms[k]] = some (setNodes qs i (withN (nodesAt qs i) t')) := by
        unfold HE.apply
        rw [if_pos (HR.out.2.2.1.formed _ (by have := HR.out.2.2.1.n12; omega)), hmk]
        exact PSteps.apply (PSteps.cons hi hl0 hl1 ht' (PSteps.nil _)) HR.out.2.2.1.n12 HR.out.2.2.1.wf HR.out.2.2.1.ch
      have hsound : Sound s (setNodes qs i (withN (nodesAt qs i) t')) := HR.out.2.2.1.same (set_len _ _ _) (HR.out.2.2.1.wf.set i (withN_rise hwf htr.1 htr.2)) (set_chunks _ _ _)
      obtain ⟨ad, rfl, g0, g1, g2⟩ := (HMv.out.1.keep HR.out.1).at k hkl
      have hmk0 := congrArg Mv.chunk hmk
      have hmk1 := congrArg Mv.src hmk
      have hmk2 := congrArg Mv.dst hmk
      simp only at hmk0 hmk1 hmk2
      have hone := (HMv.out.1.keep HR.out.1).one k hkl (by have := HMv.out.2.2; have := HMv.out.2.1; omega)
      obtain ⟨qs', hqs'⟩ : ∃ x, x = setNodes qs i (withN (nodesAt qs i) t') := ⟨_, rfl⟩
      rw [← hqs'] at hst happ hsound
      have hql' : qs'.length = m := by rw [hqs', set_len]; exact HR.out.2.2.2.2
      obtain ⟨mc, hmc⟩ : ∃ x, x = chunkAt qs i := ⟨_, rfl⟩
      obtain ⟨mf, hmf⟩ : ∃ x, x = source s (live up (nodesAt qs i)) t' := ⟨_, rfl⟩
      rw [hmk0, ← hmc] at g0
      rw [hmk1, ← hmf] at g1
      rw [hmk2] at g2
      rw [← hmc] at hfind
      rw [← hmf] at hsmem hsr
      obtain ⟨avd, nv, nc, rfl, -, p1, hints, -⟩ := HR.out.2.1.at i hi
      obtain ⟨nl, hnl⟩ : ∃ nl, nl = nodesAt qs i := ⟨_, rfl⟩
      rw [← hnl] at p1 hints hsmem htn htmin hwf
      have him : i < m := by have := HR.out.2.2.2.2; omega
      have himI : (i : Int) < m := by omega
      have hvp := HR.out.2.1
      have HF := hid (And.intro hfind (And.intro hst (And.intro happ (And.intro hsound (And.intro hql' (And.intro hone hvp))))))
      have HN := hid (And.intro hints (And.intro hwf (And.intro hsmem (And.intro htn (And.intro htu htmin)))))
      have u0 : decide (mf < 0) = false := by simp; omega
      have hNs : s.length = N := HNm.out.1.symm
      have u1 : decide ((N : Int) ≤ mf) = false := by simp; omega
      have u2 : decide (t' < 0) = false := by simp; omega
      have u3 : decide ((N : Int) ≤ t') = false := by simp; omega
      have u4 : decide ((i : Int) < 0) = false := by simp
      have htr' : 0 ≤ t' ∧ t' < N := by omega
      have hsr' : 0 ≤ mf ∧ mf < N := by omega
      clear hstep hl0 hl1 ht' htg hmk hst htr htu htn htmin hwf hsm hsmem hsr hfind hdrop happ hsound hmk0 hmk1 hmk2 hone hqs' hql' hmc hmf hints hnl hvp hNs
      have hk2 : Keep (fun _ => False) wr (wr.alloc (.cells #[.int .i64 mc, .int .i64 mf, .int .i64 t'] 52)) := (Keep.refl _ _).alloc _
      have hn2 := heap_alloc_new wr (.cells #[.int .i64 mc, .int .i64 mf, .int .i64 t'] 52)
      go_upto_region 10 with fail
      obtain ⟨c3, hc3⟩ : ∃ c3, c3 = wr.heap.size := ⟨_, rfl⟩
      obtain ⟨w3, hw3⟩ : ∃ w3, w3 = wr.alloc (.cells #[.int .i64 mc, .int .i64 mf, .int .i64 t'] 52) := ⟨_, rfl⟩
      rw [← hw3] at hk2
      rw [← hw3, ← hc3] at hn2
      rw [← hw3, ← hc3]
      have H3 := hid (And.intro hk2 hn2)
      have p1 := cell_old hk2 _ _ p1
      obtain ⟨k0, k1, k2, kf, kb⟩ := cells3i hn2
      clear hw3 hc3 hk2 hn2 g0 g1 g2
      go_wp2_with (at_builtin; refine stopAt ?_; intro q hq)
      refine (place_any w3 _ qs mc (HF.out.2.2.2.2.2.2.keep H3.out.1)).mono ?_
      rintro e w4 ⟨rfl, hk4⟩
      rw [HF.out.1, show natV (some i) = (i : Int) from rfl]
      have p1 := cell_old hk4 _ _ p1
      have k0 := cell_old hk4 _ _ k0
      have k1 := cell_old hk4 _ _ k1
      have k2 := cell_old hk4 _ _ k2
      have H4 := hid (H3.out.1.next hk4 (fun _ _ x => x) (fun _ _ x => x))
      clear hk4 kf kb
      have HH := hid (fun wq (hk : Keep (fun _ => False) wr wq) (x : Int) => has_any wq _ nl x (HN.out.1.keep hk))
      go_wp2_with (at_builtin; refine stopAt ?_; intro q hq)
      refine (HH.out w4 H4.out mf).mono ?_
      rintro e w5 ⟨rfl, hk5⟩
      rw [show decide (mf ∈ nl) = true by simpa using HN.out.2.2.1.1]
      have k1 := cell_old hk5 _ _ k1
      have k2 := cell_old hk5 _ _ k2
      have H5 := hid (H4.out.next hk5 (fun _ _ x => x) (fun _ _ x => x))
      clear hk5 k0 p1
      go_wp2_with (at_builtin; refine stopAt ?_; intro q hq)
      refine (HU.out w5 mf hsr'.1 (by omega)).mono ?_
      rintro e w6 ⟨rfl, rfl⟩
      rw [HN.out.2.2.1.2]
      go_wp2_with (at_builtin; refine stopAt ?_; intro q hq)
      refine (HH.out w5 H5.out t').mono ?_
      rintro e w6 ⟨rfl, hk6⟩
      rw [show decide (t' ∈ nl) = false by simpa using HN.out.2.2.2.1]
      have k2 := cell_old hk6 _ _ k2
      have H6 := hid (H5.out.next hk6 (fun _ _ x => x) (fun _ _ x => x))
      clear hk6 k1
      go_wp2_with (at_builtin; refine stopAt ?_; intro q hq)
      refine (HU.out w6 t' htr'.1 (by omega)).mono ?_
      rintro e w7 ⟨rfl, rfl⟩
      rw [HN.out.2.2.2.2.1]
      have K2 := hid k2
      clear k2 u0 u1 u2 u3 u4
      go_wp2_with (at_builtin; refine stopAt ?_; intro q hq)
      go_loopw [18] (fun nv wy => ∃ n : Nat, n ≤ N ∧ nv = .int .i64 n ∧ Hid (Keep (fun _ => False) w6 wy)) (fun nv _ => N - (intOf nv).toNat)
      case atStart => exact ⟨0, Nat.zero_le _, rfl, hid (Keep.refl _ _)⟩
      case round =>
        obtain ⟨n, hn, rfl, HK⟩ := hrel
        by_cases hnN : n < N
        · have h5 : (n : Int) < N := by omega
          obtain ⟨B, hB⟩ : ∃ B, B = isUp up (n : Int) := ⟨_, rfl⟩
          obtain ⟨C, hC⟩ : ∃ C, C = decide ((n : Int) ∈ nl) := ⟨_, rfl⟩
          have HBC := hid (And.intro hB hC)
          clear hB hC
          go_wp2_with (at_builtin; refine stopAt ?_; intro q hq)
          refine (HU.out wr (n : Int) (by omega) (by omega)).mono ?_
          rintro e w7 ⟨rfl, rfl⟩
          rw [← HBC.out.1]
          cases B with
          | false =>
            go_wp2_with (at_builtin; refine stopAt ?_; intro q hq)
            (refine wp_region_later (by kernel_rfl) (by kernel_rfl) ?_; (repeat (go_big_quiet_step ((fail)))); refine wpQuiet_nil ?_; rintro _ ⟨sq, rfl⟩)
            go_wp2_with (at_builtin; refine stopAt ?_; intro q hq)
            exact ⟨⟨n + 1, by omega, by go_num, hid (HK.out.next sq.keep (fun _ _ x => x) (fun _ _ x => x))⟩, by simp [intOf]; omega⟩
          | true =>
            go_wp2_with (at_builtin; refine stopAt ?_; intro q hq)
            refine (HH.out wr (H6.out.next HK.out (fun _ _ x => x) (fun _ _ x => x)) (n : Int)).mono ?_
            rintro e w8 ⟨rfl, hk8⟩
            rw [← HBC.out.2]
            have HK8 := hid (HK.out.next hk8 (fun _ _ x => x) (fun _ _ x => x))
            clear hk8
            cases C with
            | true =>
              go_wp2_with (at_builtin; refine stopAt ?_; intro q hq)
              (refine wp_region_later (by kernel_rfl) (by kernel_rfl) ?_; (repeat (go_big_quiet_step ((fail)))); refine wpQuiet_nil ?_; rintro _ ⟨sq, rfl⟩)
              go_wp2_with (at_builtin; refine stopAt ?_; intro q hq)
              exact ⟨⟨n + 1, by omega, by go_num, hid (HK8.out.next sq.keep (fun _ _ x => x) (fun _ _ x => x))⟩, by simp [intOf]; omega⟩
            | false =>
              have hfr : (n : Int) ∈ free s up nl := mem_free.2 ⟨⟨by omega, by have := HNm.out.1; omega⟩, HBC.out.1.symm, by simpa using HBC.out.2.symm⟩
              obtain ⟨oa, hoa⟩ : ∃ x, x = on s (live up nl) (n : Int) := ⟨_, rfl⟩
              obtain ⟨ob, hob⟩ : ∃ x, x = on s (live up nl) t' := ⟨_, rfl⟩
              have hle : ob ≤ oa := by
                by_cases e : (n : Int) = t'
                · rw [hoa, hob, e]; exact Nat.le_refl _
                · have := better_iff.1 (HN.out.2.2.2.2.2 _ hfr e)
                  omega
              have t1 : decide ((oa : Int) < (ob : Int)) = false := by simp; omega
              have t2 : decide (oa < ob) = false := by simp; omega
              have hsw := HS.out.keep (HK2.out.next (HR.out.1.next (H6.out.next HK8.out (fun _ _ x => x) (fun _ _ x => x)) (fun _ _ x => x) (fun _ _ x => x)) (fun _ _ x => x) (fun _ _ x => x))
              have hin8 := HN.out.1.keep (H6.out.next HK8.out (fun _ _ x => x) (fun _ _ x => x))
              have HOa := hid (fun x : Later w8 => on_any x.val up _ _ s nl (n : Int) hup (hsw.keep x.keep) (hin8.keep x.keep) HSy.out.n12 (fun z hz => HN.out.2.1.2 z hz) ⟨by omega, by have := HNm.out.1; omega⟩)
              have HOb := hid (fun x : Later w8 => on_any x.val up _ _ s nl t' hup (hsw.keep x.keep) (hin8.keep x.keep) HSy.out.n12 (fun z hz => HN.out.2.1.2 z hz) ⟨htr'.1, by have := HNm.out.1; omega⟩)
              rw [← hoa] at HOa
              rw [← hob] at HOb
              have k2 := cell_old HK8.out _ _ K2.out
              have j2 := fun x : Later w8 => x.cell k2
              clear hfr hoa hob hle hsw hin8 k2
              go_wp2_with (at_builtin; refine stopAt ?_; intro q hq)
              refine wp_region_later (by kernel_rfl) (by kernel_rfl) ?_
              (repeat (go_big_quiet_step (fail)))
              go_big_quiet_step ((go_at_call 28; exact Later.call (HOa.out _)))
              (repeat (go_big_quiet_step (fail)))
              go_big_quiet_step ((go_at_call 28; exact Later.call (HOb.out _)))
              (repeat (go_big_quiet_step (fail)))
              refine wpQuiet_nil ?_
              rintro _ ⟨sq, rfl⟩
              go_wp2_with (at_builtin; refine stopAt ?_; intro q hq)
              exact ⟨⟨n + 1, by omega, by go_num, hid (HK8.out.next sq.keep (fun _ _ x => x) (fun _ _ x => x))⟩, by simp [intOf]; omega⟩
        · have h5 : decide ((n : Int) < N) = false := by simp; omega
          have hkx := H6.out.next HK.out (fun _ _ x => x) (fun _ _ x => x)
          have HAp := hid (mends_apply wr _ _ s qs _ [ms[k]] (HF.out.2.2.2.2.2.2.keep hkx) (HF.out.2.2.2.2.2.1.keep hkx) HR.out.2.2.1 HF.out.2.2.1 HF.out.2.2.2.1 (by simp))
          have HKx := hid hkx
          have hsl : ∀ w, (Instr.sliceAt 30 (.slice (some ad) M cm) (some (.int .i64 (k : Int))) (some (.int .i64 ((k : Int) + 1))) none).run Try.prog w = .ok (.slice (tailAt (some ad) cm k 3) 1 (cm - k)) w := fun w => by
            have := run_sliceAt_lh (P := Try.prog) ty_moves (some ad) M cm .i64 .i64 k (k + 1) (by omega) (by have := HMv.out.2.1; omega) w
            rw [show k + 1 - k = 1 by omega] at this
            exact this
          clear hkx
          go_wp2_with (at_builtin; refine stopAt ?_; intro q hq)
          refine HAp.out.mono ?_
          rintro e w9 ⟨vn, rfl, hpn, hk9⟩
          obtain ⟨avn, cvn, hvn, -⟩ := id hpn
          rw [HF.out.2.2.2.2.1] at hvn
          subst hvn
          have HFin := hid (And.intro ((HR.out.1.next HKx.out (fun _ _ x => x) (fun _ _ x => x)).next hk9 (fun _ _ x => x) (fun _ _ x => x)) (And.intro hpn (And.intro HF.out.2.2.2.1 (And.intro HF.out.2.1 HF.out.2.2.2.2.1))))
          clear hpn hk9 hsl
          go_wp2_with (at_builtin; refine stopAt ?_; intro q hq)
          exact ⟨⟨k + 1, _, _, by omega, by go_num, rfl, HFin⟩, by simp [intOf]; omega⟩
    · have h4 : decide ((k : Int) < M) = false := by simp; omega
      have HKz := hid ((HK1.out.next HK2.out (fun _ _ x => x) (fun _ _ x => x)).next HR.out.1 (fun _ _ x => x) (fun _ _ x => x))
      go_wp2_with (at_builtin; refine stopAt ?_; intro q hq)
      refine (HKn.out wr).mono ?_
      rintro e w7 ⟨rfl, hk7⟩
      have HK7 := hid (HKz.out.next hk7 (fun _ _ x => x) (fun _ _ x => x))
      clear hk7
      go_wp2_with (at_builtin; refine stopAt ?_; intro q hq)
      go_ret
      exact ⟨rfl, HK7.out⟩
end Go.Proofs.Ytmdonjadhkffiaa
/- Heal: HealGone: plain law and walk. Conditions: as each law names them. -/
namespace Go.Proofs.Ytmdonjadhkffiaa
open Go.RowKit
open HE

theorem isUp_bit (up : Nat) (x : Int) : isUp up x = up.testBit x.toNat := by
  unfold isUp
  rw [Nat.testBit_eq_decide_div_mod_eq]
  cases h : decide (up / 2 ^ x.toNat % 2 = 1)
  · simpa using h
  · simpa using h
/-- One node gone. -/
def downV (up g : Nat) : Nat := up &&& (4294967295 - 2 ^ g)
theorem downV_lt {up g : Nat} (h : up < 4294967296) : downV up g < 4294967296 := Nat.lt_of_le_of_lt Nat.and_le_left h
theorem isUp_down {up g : Nat} (hg : g < 12) {x : Int} (h0 : 0 ≤ x) (h1 : x < 12) : isUp (downV up g) x = (isUp up x && decide (x ≠ (g : Int))) := by
  rw [isUp_bit, isUp_bit]
  unfold downV
  have hp : 2 ^ g < 2 ^ 32 := Nat.pow_lt_pow_right (by decide) (by omega)
  rw [Nat.testBit_and, show 4294967295 - 2 ^ g = 2 ^ 32 - (2 ^ g + 1) by omega, Nat.testBit_two_pow_sub_succ hp, Nat.testBit_two_pow]
  have : decide (x.toNat < 32) = true := by simp; omega
  rw [this]
  congr 1
  by_cases e : x = (g : Int)
  · have : g = x.toNat := by omega
    simp [e]
  · have : ¬ g = x.toNat := by omega
    simp [e, this]
theorem gone_safe {s : List Int} {ps : List Pl} (h : Sound s ps) {up up' g : Nat} (hx : ∀ x : Int, 0 ≤ x → x < s.length → isUp up' x = (isUp up x && decide (x ≠ (g : Int)))) {k : Nat} (hk : k < ps.length)
    (had : 0 < (live up (nodesAt ps k)).length) (left : 0 < (live up' (nums s.length)).length) : 0 < (live up' (nodesAt (plan s up 2 ps).2 k)).length := by
  have hc := (h.planTo up 2).count k (by omega) (by omega)
  have hr := (h.planTo up 2).wf.at k
  obtain ⟨L, hL⟩ : ∃ L, L = nodesAt (plan s up 2 ps).2 k := ⟨_, rfl⟩
  rw [← hL] at hc hr ⊢
  obtain ⟨y, hy⟩ := List.length_pos_iff_exists_mem.1 left
  obtain ⟨hy1, hy2⟩ := List.mem_filter.1 hy
  have hy1 := mem_nums.1 hy1
  rw [hx y hy1.1 hy1.2] at hy2
  have hyu : isUp up y = true ∧ y ≠ (g : Int) := by simpa using hy2
  have hin : ∀ x, x ∈ live up L → x ≠ (g : Int) → 0 < (live up' L).length := fun x hx' hne => by
    obtain ⟨h1, h2⟩ := List.mem_filter.1 hx'
    have hb := hr.2 x h1
    refine List.length_pos_iff_exists_mem.2 ⟨x, List.mem_filter.2 ⟨h1, ?_⟩⟩
    rw [hx x hb.1 hb.2, h2]
    simpa using hne
  have hnd : (live up L).Nodup := hr.nodup.filter _
  by_cases h2 : 2 ≤ (live up L).length
  · match hl : live up L, h2 with
    | a :: b :: l, _ =>
      rw [hl] at hnd hin
      have hab : a ≠ b := fun e => by rw [e] at hnd; simp at hnd
      by_cases hag : a = (g : Int)
      · exact hin b (by simp) (fun e => hab (by rw [hag, e]))
      · exact hin a (by simp) hag
  · have hw : want s up 2 (nodesAt ps k) ≤ 1 := by omega
    have hall : all s up ≤ 1 := by
      unfold want at hw
      rw [if_neg (by omega)] at hw
      omega
    have h1 : (live up L).length = 1 := by
      have : 1 ≤ want s up 2 (nodesAt ps k) := Nat.le_trans had (want_ge s up 2)
      omega
    obtain ⟨x, hx1⟩ := List.length_pos_iff_exists_mem.1 (show 0 < (live up L).length by omega)
    obtain ⟨h3, h4⟩ := List.mem_filter.1 hx1
    have hxy : x = y := by
      unfold all live at hall
      have hmx : x ∈ (nums s.length).filter (isUp up) := List.mem_filter.2 ⟨mem_nums.2 (hr.2 x h3), h4⟩
      have hmy : y ∈ (nums s.length).filter (isUp up) := List.mem_filter.2 ⟨mem_nums.2 hy1, hyu.1⟩
      match hl : (nums s.length).filter (isUp up), hall with
      | [], _ => rw [hl] at hmx; cases hmx
      | [z], _ =>
        rw [hl, List.mem_singleton] at hmx hmy
        rw [hmx, hmy]
    exact hin x hx1 (by rw [hxy]; exact hyu.2)

set_option maxRecDepth 20000 in
set_option maxHeartbeats 1000000 in
theorem all_any (w : World) (n : Nat) (hn : n ≤ 12) : Calls Try.prog 31 #[.int .i64 (n : Int)] w (NumsPost w (nums n)) := by
  obtain ⟨Post, hPost⟩ : ∃ Post, Post = NumsPost w (nums n) := ⟨_, rfl⟩
  rw [← hPost]
  have HPost := hid hPost
  have hn63 : (n : Int) ≤ 9223372036854775807 := by omega
  have H0 := hid (Gather.nil w w (Keep.refl _ _))
  clear hPost
  go_enter Try.func31, Try.ntmps31
  go_wp2_with (at_builtin; refine stopAt ?_; intro q hq)
  go_loopw [3, 4] (fun ov iv wr => ∃ (i : Nat) (ow : Value), i ≤ n ∧ iv = .int .i64 i ∧ ow = ov ∧ Hid (Gather w (nums i) ow wr)) (fun _ iv _ => n - (intOf iv).toNat)
  case atStart => exact ⟨0, _, Nat.zero_le _, rfl, rfl, H0⟩
  case round =>
    obtain ⟨i, ov, hi, rfl, rfl, HG⟩ := hrel
    by_cases hin : i < n
    · have h4 : (i : Int) < n := by omega
      have hl := nums_length i
      go_wp2_with (at_builtin; refine stopAt ?_; intro q hq)
      (refine hq.out ?_; clear hq q)
      have hn7 := heap_alloc_new wr (.cells #[.int .i64 (i : Int)] 3)
      have hk7 : Keep (fun _ => False) wr (wr.alloc (.cells #[.int .i64 (i : Int)] 3)) := (Keep.refl _ _).alloc _
      obtain ⟨w7, hw7⟩ : ∃ w7, w7 = wr.alloc (.cells #[.int .i64 (i : Int)] 3) := ⟨_, rfl⟩
      rw [← hw7] at hn7 hk7 ⊢
      clear hw7
      have hF7 := HG.out.later hk7
      refine wpList_plain rfl (fun K hK => ?_)
      refine wp_append ty_nums (.tmp 10) (.tmp 12) rfl rfl hF7.own.1 (some ⟨wr.heap.size, 0, none⟩) 1 1 [.int .i64 (i : Int)] (by rfl)
        ⟨rfl, fun _ => ⟨_, rfl, fun t u hu => by rw [addr_add, Nat.zero_add, cell_of_row _ _ _ _ _ _ hn7]; simpa using hu⟩⟩ (numsV_one [(i : Int)]) (by unfold maxLen; omega) (by omega) ?_
      intro v8 w8 hr8 hk8 hv8
      refine hK _ _ ?_
      clear hK K
      have HG8 := hid (hF7.push (by unfold I64; omega) hr8 hk8 hv8)
      rw [← nums_snoc] at HG8
      clear hr8 hk8 hv8 hF7 hk7 hn7 hl
      go_wp2_with (at_builtin; refine stopAt ?_; intro q hq)
      exact ⟨⟨i + 1, v8, by omega, by go_num, rfl, HG8⟩, by simp [intOf]; omega⟩
    · have h4 : decide ((i : Int) < n) = false := by simp; omega
      have hin : i = n := by omega
      subst hin
      go_wp2_with (at_builtin; refine stopAt ?_; intro q hq)
      rw [HPost.out]
      exact ⟨ov, rfl, HG.out.own, HG.out.keep⟩

set_option maxRecDepth 20000 in
set_option maxHeartbeats 4000000 in
theorem gone_walk (w : World) (v0 : Value) (s0 : List Int) (h0 : Ints w v0 s0) (v3 : Value) (raw : List Pl) (h3 : SliceOf w 2 (PlR w) v3 raw) (v4 : Value) (order : List Int) (h4 : Ints w v4 order) :
    Calls Try.prog 9 #[v0, v3, v4] w fun e w' => e = .returned (.bool true) ∧ Keep (fun _ => False) w w' := by
  have hs : IntsV w v0 s0 := IntsV.of_ints h0
  have hp : PlsV w v3 raw := PlsV.of_pls h3
  have HRi := hid (right_any w v0 v3 s0 raw hs hp)
  have HKn := hid known_any
  have ho : IntsV w v4 order := IntsV.of_ints h4
  obtain ⟨aO, cO, rfl, hmO, -, hcO⟩ := ho
  obtain ⟨R, hR⟩ : ∃ R, R = order.length := ⟨_, rfl⟩
  rw [← hR] at hmO ⊢
  have hR63 : (R : Int) ≤ 9223372036854775807 := by unfold maxLen at hmO; omega
  have HO := hid (And.intro hcO hR)
  obtain ⟨aS, cS, rfl, -⟩ := hs
  obtain ⟨aP, cP, rfl, -⟩ := hp
  clear h0 h3 h4 hmO hcO hR
  go_enter Try.func9, Try.ntmps9
  go_wp2_with (at_builtin; refine stopAt ?_; intro q hq)
  refine HRi.out.mono ?_
  rintro e w1 ⟨vs, s, vl, xs, rfl, hN, hso, hrp, hxl, hos, hop, hk1⟩
  obtain ⟨ps, hps⟩ : ∃ ps, ps = xs.map (·.1) := ⟨_, rfl⟩
  have hsy : Sound s ps := by rw [hps]; exact right_sys hN hso hrp hxl
  have hsv : IntsV w1 vs s := hos.ints
  have hpv : PlsV w1 vl ps := by rw [hps]; exact hop.pls
  have hm40 : ps.length ≤ 40 := by rw [hps, List.length_map]; exact hxl
  obtain ⟨aos, cs, rfl, -⟩ := id hsv
  obtain ⟨al, cl, rfl, -⟩ := id hpv
  obtain ⟨N, hNN⟩ : ∃ N, N = s.length := ⟨_, rfl⟩
  obtain ⟨m, hm⟩ : ∃ m, m = ps.length := ⟨_, rfl⟩
  rw [← hNN] at hsv hN ⊢
  rw [← hm] at hpv hm40 ⊢
  have HS := hid hsv
  have HP := hid hpv
  have HSy := hid hsy
  have HNm := hid (And.intro hNN hm)
  have HK1 := hid hk1
  have wN : IntKind.u64.wrap (N : Int) = (N : Int) := by simp [IntKind.wrap, IntKind.signed, IntKind.bits]; omega
  have hpow : 2 ^ N ≤ 4096 ∧ 1 ≤ 2 ^ N := ⟨Nat.pow_le_pow_right (by decide) (show N ≤ 12 by omega), Nat.one_le_two_pow⟩
  clear hps hsy hsv hpv hop hos hrp hso hxl hNN hm hk1
  go_upto_region 3 with fail
  obtain ⟨up0, hu0, hu1⟩ : ∃ up0 : Nat, (((2 : Int) ^ N % 4294967296 - 1) % 4294967296) = (up0 : Int) ∧ up0 < 4294967296 := by
    refine ⟨2 ^ N - 1, ?_, by omega⟩
    have e : ((2 : Int) ^ N) = ((2 ^ N : Nat) : Int) := by simp
    rw [e]
    omega
  rw [hu0]
  clear hu0 hpow
  have HQ0 := hid (And.intro hu1 (And.intro HP.out (And.intro HSy.out HNm.out.2.symm)))
  clear hu1
  go_wp2_with (at_builtin; refine stopAt ?_; intro q hq)
  go_loopw [9, 10, 11] (fun uv nv iv wr => ∃ (i up : Nat) (qs : List Pl) (vv : Value), i ≤ R ∧ i ≤ N ∧ iv = .int .i64 i ∧ uv = .int .u32 up ∧ vv = nv ∧ Hid (up < 4294967296 ∧ PlsV wr vv qs ∧ Sound s qs ∧ qs.length = m ∧ Keep (fun _ => False) w1 wr)) (fun _ _ iv _ => R - (intOf iv).toNat)
  case atStart => exact ⟨0, up0, ps, _, Nat.zero_le _, Nat.zero_le _, rfl, rfl, rfl, hid ⟨HQ0.out.1, HQ0.out.2.1, HQ0.out.2.2.1, HQ0.out.2.2.2, Keep.refl _ _⟩⟩
  case round =>
    obtain ⟨i, up, qs, vv, hiR, hiN, rfl, rfl, rfl, HR⟩ := hrel
    obtain ⟨av, cv, hvv, -⟩ := id HR.out.2.1
    rw [HR.out.2.2.2.1] at hvv
    subst hvv
    have HKz := hid (HK1.out.next HR.out.2.2.2.2 (fun _ _ x => x) (fun _ _ x => x))
    by_cases hin : i < R
    · have h4 : (i : Int) < R := by omega
      by_cases hin2 : i < N
      · have h5 : (i : Int) < N := by omega
        have hpl := mends_plan wr _ _ s qs up 2 (HS.out.keep HR.out.2.2.2.2) HR.out.2.1 HR.out.2.2.1 HR.out.1 (by decide)
        rw [show ((2 : Nat) : Int) = 2 from rfl] at hpl
        have HPl := hid hpl
        clear hpl
        go_wp2_with (at_builtin; refine stopAt ?_; intro q hq)
        refine HPl.out.mono ?_
        rintro e w2 ⟨mv, rfl, hmv, hmr, hk2⟩
        obtain ⟨M, hM⟩ : ∃ M, M = (plan s up 2 qs).1.length := ⟨_, rfl⟩
        obtain ⟨nx, hnx⟩ : ∃ nx, nx = (plan s up 2 qs).2 := ⟨_, rfl⟩
        have hto : PlanTo s up 2 0 qs.length qs (plan s up 2 qs).1 nx := by rw [hnx]; exact HR.out.2.2.1.planTo up 2
        have hap : apply qs (plan s up 2 qs).1 = some nx := by rw [hnx]; exact HR.out.2.2.1.apply up 2
        have hsn : Sound s nx := by rw [hnx]; exact HR.out.2.2.1.after up 2
        have hM480 : (plan s up 2 qs).1.length ≤ 480 := by have := psteps_few hto HSy.out.n12; have := HR.out.2.2.2.1; omega
        have HAp := hid (mends_apply w2 _ _ s qs nx _ (HR.out.2.1.keep hk2) hmv HR.out.2.2.1 hap hsn (by omega))
        obtain ⟨am, cm, rfl, -⟩ := id hmv
        rw [← hM] at HAp ⊢
        have HT := hid (And.intro hto (And.intro hsn hnx))
        have HK2 := hid hk2
        clear hmv hmr hM hnx hto hap hsn hk2 HPl hM480
        go_wp2_with (at_builtin; refine stopAt ?_; intro q hq)
        refine HAp.out.mono ?_
        rintro e w3 ⟨vn, rfl, hpn, hk3⟩
        have hnl : nx.length = m := by have := HT.out.1.len; have := HR.out.2.2.2.1; omega
        obtain ⟨an, cnn, rfl, -⟩ := id hpn
        rw [hnl] at hpn ⊢
        have HPn := hid (And.intro hpn hnl)
        have HK3 := hid (HK2.out.next hk3 (fun _ _ x => x) (fun _ _ x => x))
        have hil : i < order.length := by have := HO.out.2; omega
        obtain ⟨adO, rfl, hce⟩ := HO.out.1 (by omega)
        have a0 := cell_old ((HK1.out.next HR.out.2.2.2.2 (fun _ _ x => x) (fun _ _ x => x)).next HK3.out (fun _ _ x => x) (fun _ _ x => x)) _ _ (hce i hil)
        obtain ⟨x, hx⟩ : ∃ x, x = order[i] := ⟨_, rfl⟩
        rw [← hx] at a0
        have hmod := umod_int x N (by omega) (by omega)
        obtain ⟨gn, hgn⟩ : ∃ g : Nat, (g : Int) = x % 18446744073709551616 % (N : Int) := ⟨(x % 18446744073709551616 % (N : Int)).toNat, by
          have h1 := Int.emod_nonneg (x % 18446744073709551616) (show (N : Int) ≠ 0 by omega)
          omega⟩
        rw [← hgn] at hmod
        have hgN : gn < N := by
          have h2 := Int.emod_lt_of_pos (x % 18446744073709551616) (show (0 : Int) < N by omega)
          omega
        have hN0' : ¬ (N : Int) = 0 := by omega
        have wg : IntKind.u64.wrap (gn : Int) = (gn : Int) := by simp [IntKind.wrap, IntKind.signed, IntKind.bits]; omega
        clear hpn hnl hk3 HAp hce hx hgn
        go_upto_region 14 with fail
        have hbits : bits BinOp.andNot IntKind.u32 (up : Int) ((2 : Int) ^ gn % 4294967296) = ((downV up gn : Nat) : Int) := by
          have hp : 2 ^ gn ≤ 2 ^ 12 := Nat.pow_le_pow_right (by decide) (by omega)
          have e : ((2 : Int) ^ gn % 4294967296) = ((2 ^ gn : Nat) : Int) := by
            have e1 : ((2 : Int) ^ gn) = ((2 ^ gn : Nat) : Int) := by simp
            rw [e1]
            clear e1
            generalize 2 ^ gn = P at hp ⊢
            omega
          rw [e]
          exact u32_andNot_nat up (2 ^ gn) HR.out.1 (by omega)
        rw [hbits]
        clear hbits hmod wg a0 hN0'
        have hu' := downV_lt (g := gn) HR.out.1
        have hx' : ∀ x : Int, 0 ≤ x → x < s.length → isUp (downV up gn) x = (isUp up x && decide (x ≠ (gn : Int))) := fun x h0 h1 => isUp_down (by omega) h0 (by have := HSy.out.n12; omega)
        obtain ⟨up', hup'⟩ : ∃ x, x = downV up gn := ⟨_, rfl⟩
        rw [← hup'] at hu' hx' ⊢
        have HX := hid hx'
        clear hup' hx'
        go_wp2_with (at_builtin; refine stopAt ?_; intro q hq)
        refine (all_any w3 N (by omega)).mono ?_
        rintro e w4 ⟨va, rfl, hoa, hk4⟩
        have HLa := hid (live_any w4 up' _ (nums N) hu' hoa.ints (fun x hx => by have := mem_nums.1 hx; omega))
        obtain ⟨aA, cA, rfl, -⟩ := id hoa.ints
        have HK4 := hid (HK3.out.next hk4 (fun _ _ x => x) (fun _ _ x => x))
        have HK34 := hid hk4
        clear hoa hk4
        go_wp2_with (at_builtin; refine stopAt ?_; intro q hq)
        refine HLa.out.mono ?_
        rintro e w5 ⟨rfl, hk5⟩
        have HK35 := hid (HK34.out.next hk5 (fun _ _ x => x) (fun _ _ x => x))
        have HK5 := hid (HK4.out.next hk5 (fun _ _ x => x) (fun _ _ x => x))
        obtain ⟨lf, hlf⟩ : ∃ x, x = (live up' (nums N)).length := ⟨_, rfl⟩
        rw [← hlf]
        have HLf := hid hlf
        clear hlf hk5
        go_wp2_with (at_builtin; refine stopAt ?_; intro q hq)
        go_loopw [19] (fun kv wy => ∃ k : Nat, k ≤ m ∧ kv = .int .i64 k ∧ Hid (Keep (fun _ => False) w5 wy)) (fun kv _ => m - (intOf kv).toNat)
        case atStart => exact ⟨0, Nat.zero_le _, rfl, hid (Keep.refl _ _)⟩
        case round =>
          obtain ⟨k, hk, rfl, HZ⟩ := hrel
          by_cases hkm : k < m
          · have h6 : (k : Int) < m := by omega
            have hkq : k < qs.length := by have := HR.out.2.2.2.1; omega
            have hkn : k < nx.length := by have := HPn.out.2; omega
            obtain ⟨bd, nb, nd, rfl, -, p1, hi1, -⟩ := (HR.out.2.1.keep (HK5.out.next HZ.out (fun _ _ x => x) (fun _ _ x => x))).at k hkq
            obtain ⟨cd, ncv, ncd, rfl, -, p2, hi2, -⟩ := (HPn.out.1.keep (HK35.out.next HZ.out (fun _ _ x => x) (fun _ _ x => x))).at k hkn
            have hr1 := HR.out.2.2.1.wf.at k
            have hr2 := HT.out.2.1.wf.at k
            have hL1 := live_any wr up _ (nodesAt qs k) HR.out.1 hi1 (fun x hx => by have := hr1.2 x hx; have := HSy.out.n12; omega)
            have hL2 := hid (fun wq hk => live_any wq up' _ (nodesAt nx k) hu' (hi2.keep (w' := wq) hk) (fun x hx => by have := hr2.2 x hx; have := HSy.out.n12; omega))
            have hsafe := fun had left => gone_safe HR.out.2.2.1 HX.out hkq had left
            rw [← HT.out.2.2, ← HNm.out.1, ← HLf.out] at hsafe
            obtain ⟨l1, hl1⟩ : ∃ x, x = (live up (nodesAt qs k)).length := ⟨_, rfl⟩
            obtain ⟨l2, hl2⟩ : ∃ x, x = (live up' (nodesAt nx k)).length := ⟨_, rfl⟩
            rw [← hl1] at hL1 hsafe
            rw [← hl2] at hL2 hsafe
            have HL1 := hid hL1
            clear hi1 hi2 hr1 hr2 hL1 hl1 hl2
            go_wp2_with (at_builtin; refine stopAt ?_; intro q hq)
            refine HL1.out.mono ?_
            rintro e w6 ⟨rfl, hk6⟩
            have HK6 := hid hk6
            have p2 := cell_old hk6 _ _ p2
            clear hk6 p1
            by_cases hc1 : 0 < l1
            · have t1 : decide ((0 : Int) < (l1 : Int)) = true := by simp; omega
              by_cases hc2 : 0 < lf
              · have t2 : decide ((0 : Int) < (lf : Int)) = true := by simp; omega
                have hl2p := hsafe hc1 hc2
                have t3 : decide ((l2 : Int) = 0) = false := by simp; omega
                have t4 : ((l2 : Int) == 0) = false := by simp; omega
                have t5 : decide (l2 = 0) = false := by simp; omega
                clear hsafe hl2p
                go_wp2_with (at_builtin; refine stopAt ?_; intro q hq)
                refine (hL2.out w6 HK6.out).mono ?_
                rintro e w7 ⟨rfl, hk7⟩
                have HZ7 := hid ((HZ.out.next HK6.out (fun _ _ x => x) (fun _ _ x => x)).next hk7 (fun _ _ x => x) (fun _ _ x => x))
                clear hk7 p2
                go_wp2_with (at_builtin; refine stopAt ?_; intro q hq)
                exact ⟨⟨k + 1, by omega, by go_num, HZ7⟩, by simp [intOf]; omega⟩
              · have t2 : decide ((0 : Int) < (lf : Int)) = false := by simp; omega
                have HZ6 := hid (HZ.out.next HK6.out (fun _ _ x => x) (fun _ _ x => x))
                clear hsafe
                go_wp2_with (at_builtin; refine stopAt ?_; intro q hq)
                exact ⟨⟨k + 1, by omega, by go_num, HZ6⟩, by simp [intOf]; omega⟩
            · have t1 : decide ((0 : Int) < (l1 : Int)) = false := by simp; omega
              have HZ6 := hid (HZ.out.next HK6.out (fun _ _ x => x) (fun _ _ x => x))
              clear hsafe
              go_wp2_with (at_builtin; refine stopAt ?_; intro q hq)
              exact ⟨⟨k + 1, by omega, by go_num, HZ6⟩, by simp [intOf]; omega⟩
          · have h6 : decide ((k : Int) < m) = false := by simp; omega
            have hfin := HR.out.2.2.2.2.next (HK5.out.next HZ.out (fun _ _ x => x) (fun _ _ x => x)) (fun _ _ x => x) (fun _ _ x => x)
            have HFin := hid (And.intro hu' (And.intro (HPn.out.1.keep (HK35.out.next HZ.out (fun _ _ x => x) (fun _ _ x => x))) (And.intro HT.out.2.1 (And.intro HPn.out.2 hfin))))
            clear hfin
            go_wp2_with (at_builtin; refine stopAt ?_; intro q hq)
            exact ⟨⟨i + 1, up', nx, _, by omega, by omega, by go_num, rfl, rfl, HFin⟩, by simp [intOf]; omega⟩
      · have h5 : decide ((i : Int) < N) = false := by simp; omega
        go_wp2_with (at_builtin; refine stopAt ?_; intro q hq)
        refine (HKn.out wr).mono ?_
        rintro e w7 ⟨rfl, hk7⟩
        have HK7 := hid (HKz.out.next hk7 (fun _ _ x => x) (fun _ _ x => x))
        clear hk7
        go_wp2_with (at_builtin; refine stopAt ?_; intro q hq)
        go_ret
        exact ⟨rfl, HK7.out⟩
    · have h4 : decide ((i : Int) < R) = false := by simp; omega
      go_wp2_with (at_builtin; refine stopAt ?_; intro q hq)
      refine (HKn.out wr).mono ?_
      rintro e w7 ⟨rfl, hk7⟩
      have HK7 := hid (HKz.out.next hk7 (fun _ _ x => x) (fun _ _ x => x))
      clear hk7
      go_wp2_with (at_builtin; refine stopAt ?_; intro q hq)
      go_ret
      exact ⟨rfl, HK7.out⟩
end Go.Proofs.Ytmdonjadhkffiaa
/- Heal: HealEven: plain law and walk. Conditions: as each law names them. -/
namespace Go.Proofs.Ytmdonjadhkffiaa
open Go.RowKit
open HE

/-- No two nodes but the first that are up are apart by more than one. -/
def Even (N up : Nat) (ps : List Pl) : Prop := ∀ a b : Int, 1 ≤ a → a < N → 1 ≤ b → b < N → isUp up a = true → isUp up b = true → loadOf ps a ≤ loadOf ps b + 1
def Alike (s : List Int) : Prop := ∀ x ∈ s, x = 4
theorem site_alike {s : List Int} (h : Alike s) {x : Int} (h0 : 0 ≤ x) (h1 : x < s.length) : site s x = 4 := by
  unfold site
  rw [List.getD_eq_getElem?_getD, List.getElem?_eq_getElem (show x.toNat < s.length by omega)]
  exact h _ (List.getElem_mem _)
theorem on_alike {s : List Int} (h : Alike s) {lv : List Int} (hr : ∀ x ∈ lv, 0 ≤ x ∧ x < s.length) {n : Int} (h0 : 0 ≤ n) (h1 : n < s.length) : on s lv n = lv.length := by
  unfold on
  rw [List.countP_eq_length]
  intro x hx
  have := hr x hx
  rw [site_alike h this.1 this.2, site_alike h h0 h1]
  simp
theorem load_with {ps : List Pl} {i : Nat} {t : Int} (hi : i < ps.length) (hn : t ∉ nodesAt ps i) (n : Int) : loadOf (setNodes ps i (withN (nodesAt ps i) t)) n = loadOf ps n + if n = t then 1 else 0 := by
  have hmem : n ∈ withN (nodesAt ps i) t ↔ n = t ∨ n ∈ nodesAt ps i := by
    rw [(withN_perm hn).mem_iff, List.mem_cons]
  unfold loadOf setNodes
  rw [List.countP_set hi]
  have hnode : nodesAt ps i = ps[i].nodes := by unfold nodesAt; simp [hi]
  have hge : decide (n ∈ ps[i].nodes) = true → 1 ≤ ps.countP fun p => decide (n ∈ p.nodes) := fun h => by
    have : 0 < ps.countP fun p => decide (n ∈ p.nodes) := List.countP_pos_iff.2 ⟨ps[i], List.getElem_mem hi, h⟩
    omega
  have hd : decide (n ∈ withN (nodesAt ps i) t) = (decide (n = t) || decide (n ∈ ps[i].nodes)) := by
    rw [decide_eq_decide.2 hmem, Bool.decide_or, hnode]
  simp only [hd]
  by_cases hnt : n = t
  · have hnp : decide (n ∈ ps[i].nodes) = false := by rw [← hnode, hnt]; simpa using hn
    simp [hnt] at hnp ⊢
    simp [hnp]
  · by_cases hp : n ∈ ps[i].nodes
    · have := hge (by simpa using hp)
      simp [hnt, hp]; omega
    · simp [hnt, hp]
theorem even_steps {s : List Int} {up : Nat} {ps ps' : List Pl} {ms : List Mv} (h : PSteps s up 2 ps ms ps') (ha : Alike s) (hu : isUp up 0 = true) : Wf s ps → (∀ j, j < ps.length → (0 : Int) ∈ nodesAt ps j) → Even s.length up ps → Even s.length up ps' := by
  induction h with
  | nil => exact fun _ _ h => h
  | @cons ps ps' ms i t hi h0 h1 ht _ ih =>
    intro hw hz he
    rcases target_spec s up ps (nodesAt ps i) with ⟨hn, _⟩ | ⟨t', ht', hr, htu, hn, hmin⟩
    · rw [hn] at ht; cases ht
    · rw [ht'] at ht
      cases ht
      refine ih (hw.set i (withN_rise (hw.at i) hr.1 hr.2)) (fun j hj => ?_) ?_
      · rw [set_len] at hj
        by_cases hji : j = i
        · rw [hji, nodesAt_set hi, (withN_perm hn).mem_iff]
          exact List.mem_cons_of_mem _ (hz i hi)
        · rw [nodesAt_other hji]; exact hz j hj
      · have hlv : live up (nodesAt ps i) = [0] := by
          have hm0 : (0 : Int) ∈ live up (nodesAt ps i) := List.mem_filter.2 ⟨hz i hi, hu⟩
          match hl : live up (nodesAt ps i), h0, h1 with
          | [z], _, _ =>
            rw [hl, List.mem_singleton] at hm0
            rw [← hm0]
        have hleast : ∀ n : Int, 1 ≤ n → n < s.length → isUp up n = true → loadOf ps t ≤ loadOf ps n := fun n hn1 hn2 hnu => by
          by_cases e : n = t
          · rw [e]; exact Nat.le_refl _
          · have hnot : n ∉ nodesAt ps i := fun hm => by
              have : n ∈ live up (nodesAt ps i) := List.mem_filter.2 ⟨hm, hnu⟩
              rw [hlv, List.mem_singleton] at this
              omega
            have hb := better_iff.1 (hmin n (mem_free.2 ⟨⟨by omega, hn2⟩, hnu, hnot⟩) e)
            rw [hlv, on_alike ha (fun x hx => by rw [List.mem_singleton] at hx; omega) hr.1 hr.2, on_alike ha (fun x hx => by rw [List.mem_singleton] at hx; omega) (by omega) hn2] at hb
            omega
        intro a b ha1 ha2 hb1 hb2 hau hbu
        rw [load_with hi hn, load_with hi hn]
        have h1 := he a b ha1 ha2 hb1 hb2 hau hbu
        by_cases ea : a = t
        · rw [if_pos ea, ea]
          have := hleast b hb1 hb2 hbu
          split <;> omega
        · rw [if_neg ea]
          split <;> omega

/-- A fresh slice of one. -/
theorem row_made1 (w : World) (z : Int) : Row (w.alloc (.cells #[.int .i64 z] 3)) 3 1 (.slice (some ⟨w.heap.size, 0, none⟩) 1 1) 1 [.int .i64 z] :=
  ⟨rfl, .inr ⟨w.heap.size, 1, #[.int .i64 z], (0, 0), rfl, heap_alloc_new w _, Free.zero _, Nat.le_refl _, by unfold maxLen; decide, rfl, rfl⟩⟩

/-- So far: nothing seen, or the least and the most of those seen. -/
def Seen (up i : Nat) (ps : List Pl) (lo hi : Nat) : Prop :=
  (lo = 1000 ∧ hi = 0) ∨ ∃ a b : Int, (1 ≤ a ∧ a < i ∧ isUp up a = true ∧ lo = loadOf ps a) ∧ (1 ≤ b ∧ b < i ∧ isUp up b = true ∧ hi = loadOf ps b)
theorem Seen.more {up i : Nat} {ps : List Pl} {lo hi : Nat} (h : Seen up i ps lo hi) (hl : ps.length ≤ 500) (h1 : 1 ≤ i) (hu : isUp up (i : Int) = true) : Seen up (i + 1) ps (min lo (loadOf ps (i : Int))) (max hi (loadOf ps (i : Int))) := by
  have hle := loadOf_le ps (i : Int)
  rcases h with ⟨rfl, rfl⟩ | ⟨a, b, ⟨a1, a2, a3, rfl⟩, b1, b2, b3, rfl⟩
  · exact .inr ⟨i, i, ⟨by omega, by omega, hu, by omega⟩, by omega, by omega, hu, by omega⟩
  · refine .inr ?_
    have hA : ∃ a' : Int, 1 ≤ a' ∧ a' < ((i + 1 : Nat) : Int) ∧ isUp up a' = true ∧ min (loadOf ps a) (loadOf ps (i : Int)) = loadOf ps a' := by
      by_cases hc : loadOf ps a ≤ loadOf ps (i : Int)
      · exact ⟨a, a1, by omega, a3, by omega⟩
      · exact ⟨i, by omega, by omega, hu, by omega⟩
    have hB : ∃ b' : Int, 1 ≤ b' ∧ b' < ((i + 1 : Nat) : Int) ∧ isUp up b' = true ∧ max (loadOf ps b) (loadOf ps (i : Int)) = loadOf ps b' := by
      by_cases hc : loadOf ps (i : Int) ≤ loadOf ps b
      · exact ⟨b, b1, by omega, b3, by omega⟩
      · exact ⟨i, by omega, by omega, hu, by omega⟩
    obtain ⟨a', ha'⟩ := hA
    obtain ⟨b', hb'⟩ := hB
    exact ⟨a', b', ha', hb'⟩
theorem Seen.skip {up i : Nat} {ps : List Pl} {lo hi : Nat} (h : Seen up i ps lo hi) : Seen up (i + 1) ps lo hi := by
  rcases h with h | ⟨a, b, ha, hb⟩
  · exact .inl h
  · exact .inr ⟨a, b, ⟨ha.1, by omega, ha.2.2⟩, hb.1, by omega, hb.2.2⟩
theorem Seen.few {up i : Nat} {ps : List Pl} {lo hi : Nat} (h : Seen up i ps lo hi) (hl : ps.length ≤ 500) : lo ≤ 1000 ∧ hi ≤ 500 := by
  rcases h with ⟨rfl, rfl⟩ | ⟨a, b, ⟨-, -, -, rfl⟩, -, -, -, rfl⟩
  · omega
  · have := loadOf_le ps a; have := loadOf_le ps b; omega
theorem Seen.done {up N : Nat} {ps : List Pl} {lo hi : Nat} (h : Seen up N ps lo hi) (he : Even N up ps) : lo = 1000 ∨ (hi : Int) - (lo : Int) ≤ 1 := by
  rcases h with h | ⟨a, b, ⟨a1, a2, a3, rfl⟩, b1, b2, b3, rfl⟩
  · exact .inl h.1
  · have := he b a b1 b2 a1 a2 b3 a3
    omega

def evPls (M : Nat) : List Pl := (List.range M).map fun j : Nat => ⟨(j : Int), [0]⟩
theorem evPls_succ (M : Nat) : evPls (M + 1) = evPls M ++ [⟨(M : Int), [0]⟩] := by unfold evPls; rw [List.range_succ, List.map_append]; rfl
theorem evPls_length (M : Nat) : (evPls M).length = M := by unfold evPls; simp
theorem evPls_nodes {M j : Nat} (h : j < M) : nodesAt (evPls M) j = [0] := by unfold nodesAt evPls; simp [h]
theorem ev_sound {N M : Nat} (hN : 3 ≤ N ∧ N ≤ 12) (hM : M ≤ 100) : Sound (List.replicate N 4) (evPls M) := by
  refine ⟨by simp; omega, by simp; omega, fun z hz => by have := List.eq_of_mem_replicate hz; omega, fun p hp => ?_, ?_, fun p hp => ?_, by rw [evPls_length]; omega⟩
  · unfold evPls at hp
    obtain ⟨j, -, rfl⟩ := List.mem_map.1 hp
    refine ⟨List.pairwise_singleton _ _, fun x hx => ?_⟩
    rw [List.mem_singleton] at hx
    rw [List.length_replicate]
    omega
  · unfold Chunks evPls
    rw [List.map_map, List.pairwise_map]
    exact List.pairwise_lt_range.imp fun {a b} h => by simp; omega
  · unfold evPls at hp
    obtain ⟨j, -, rfl⟩ := List.mem_map.1 hp
    simp
theorem ev_even (N up M : Nat) : Even N up (evPls M) := by
  intro a b ha1 ha2 _ _ _ _
  have : loadOf (evPls M) a = 0 := by
    unfold loadOf
    rw [List.countP_eq_zero]
    intro p hp
    unfold evPls at hp
    obtain ⟨j, -, rfl⟩ := List.mem_map.1 hp
    simp; omega
  omega
theorem ev_after {N M up : Nat} (hN : 3 ≤ N ∧ N ≤ 12) (hM : M ≤ 100) (hu : isUp up 0 = true) : Even N up (plan (List.replicate N 4) up 2 (evPls M)).2 := by
  have h := even_steps ((ev_sound hN hM).psteps up 2) (fun x hx => List.eq_of_mem_replicate hx) hu (ev_sound hN hM).wf (fun j hj => by
    rw [evPls_length] at hj
    rw [evPls_nodes hj]
    simp) (by rw [List.length_replicate]; exact ev_even N up M)
  rwa [List.length_replicate] at h

set_option maxRecDepth 20000 in
set_option maxHeartbeats 4000000 in
theorem even_walk (w : World) (nodes : Int) (_n1 : -9223372036854775808 ≤ nodes) (_n2 : nodes ≤ 9223372036854775807) (up0 : Nat) (hup0 : up0 < 4294967296) (chunks : Int) (_c1 : -9223372036854775808 ≤ chunks) (_c2 : chunks ≤ 9223372036854775807) :
    Calls Try.prog 8 #[.int .i64 nodes, .int .u32 (up0 : Int), .int .i64 chunks] w fun e w' => e = .returned (.bool true) ∧ Keep (fun _ => False) w w' := by
  have HKn := hid known_any
  have hmod := umod_int nodes 10 (by decide) (by decide)
  obtain ⟨q, hq⟩ : ∃ q, q = nodes % 18446744073709551616 % 10 := ⟨_, rfl⟩
  rw [← hq] at hmod
  obtain ⟨N, hN⟩ : ∃ N : Nat, (N : Int) = 3 + q := ⟨(3 + q).toNat, by omega⟩
  have hN12 : 3 ≤ N ∧ N ≤ 12 := by omega
  have e1 : 3 + q = (N : Int) := hN.symm
  have e2 : IntKind.i64.wrap (N : Int) = (N : Int) := by simp [IntKind.wrap, IntKind.signed, IntKind.bits]; omega
  have hmod2 := umod_int chunks 100 (by decide) (by decide)
  obtain ⟨q2, hq2⟩ : ∃ q2, q2 = chunks % 18446744073709551616 % 100 := ⟨_, rfl⟩
  rw [← hq2] at hmod2
  obtain ⟨M, hM⟩ : ∃ M : Nat, (M : Int) = 1 + q2 := ⟨(1 + q2).toNat, by omega⟩
  have hM100 : 1 ≤ M ∧ M ≤ 100 := by omega
  have e3 : 1 + q2 = (M : Int) := hM.symm
  have e4 : IntKind.i64.wrap (M : Int) = (M : Int) := by simp [IntKind.wrap, IntKind.signed, IntKind.bits]; omega
  have hor := u32_or_nat up0 1 hup0 (by decide)
  obtain ⟨up, hup⟩ : ∃ up, up = up0 ||| 1 := ⟨_, rfl⟩
  have hor : bits .or .u32 (up0 : Int) 1 = (up : Int) := by rw [hup]; exact hor
  have hu0 : isUp up 0 = true := by
    rw [isUp_bit, hup]
    simp
  have hup32 : up < 4294967296 := by rw [hup]; exact Nat.or_lt_two_pow (n := 32) hup0 (by decide)
  have hN63 : (N : Int) ≤ 9223372036854775807 := by omega
  have hM63 : (M : Int) ≤ 9223372036854775807 := by omega
  have HU0 := hid hu0
  clear hq hN hq2 hM hup hu0
  go_enter Try.func8, Try.ntmps8
  go_wp2_with (at_builtin; refine stopAt ?_; intro q hq)
  clear e1 e2 hmod hor
  go_loopw [8, 9] (fun sv iv wr => ∃ (i : Nat) (sw : Value), i ≤ N ∧ iv = .int .i64 i ∧ sw = sv ∧ Hid (Gather w (List.replicate i 4) sw wr)) (fun _ iv _ => N - (intOf iv).toNat)
  case atStart => exact ⟨0, _, Nat.zero_le _, rfl, rfl, hid (Gather.nil w w (Keep.refl _ _))⟩
  case round =>
    obtain ⟨i, sv, hi, rfl, rfl, HG⟩ := hrel
    by_cases hin : i < N
    · have h4 : (i : Int) < N := by omega
      have hl : (List.replicate i (4 : Int)).length = i := by simp
      go_wp2_with (at_builtin; refine stopAt ?_; intro q hq)
      (refine hq.out ?_; clear hq q)
      have hn7 := heap_alloc_new wr (.cells #[.int .i64 4] 3)
      have hk7 : Keep (fun _ => False) wr (wr.alloc (.cells #[.int .i64 4] 3)) := (Keep.refl _ _).alloc _
      obtain ⟨w7, hw7⟩ : ∃ w7, w7 = wr.alloc (.cells #[.int .i64 4] 3) := ⟨_, rfl⟩
      rw [← hw7] at hn7 hk7 ⊢
      clear hw7
      have hF7 := HG.out.later hk7
      refine wpList_plain rfl (fun K hK => ?_)
      refine wp_append ty_nums (.tmp 32) (.tmp 33) rfl rfl hF7.own.1 (some ⟨wr.heap.size, 0, none⟩) 1 1 [.int .i64 4] (by rfl)
        ⟨rfl, fun _ => ⟨_, rfl, fun t u hu => by rw [addr_add, Nat.zero_add, cell_of_row _ _ _ _ _ _ hn7]; simpa using hu⟩⟩ (numsV_one [4]) (by unfold maxLen; omega) (by omega) ?_
      intro v8 w8 hr8 hk8 hv8
      refine hK _ _ ?_
      clear hK K
      have HG8 := hid (hF7.push (by unfold I64; omega) hr8 hk8 hv8)
      rw [← List.replicate_succ'] at HG8
      clear hr8 hk8 hv8 hF7 hk7 hn7 hl
      go_wp2_with (at_builtin; refine stopAt ?_; intro q hq)
      exact ⟨⟨i + 1, v8, by omega, by go_num, rfl, HG8⟩, by simp [intOf]; omega⟩
    · have h4 : decide ((i : Int) < N) = false := by simp; omega
      have hin : i = N := by omega
      subst hin
      obtain ⟨s, hs⟩ : ∃ s : List Int, s = List.replicate i 4 := ⟨_, rfl⟩
      rw [← hs] at HG
      obtain ⟨aos, cs, hsv, -⟩ := HG.out.own.1.form
      rw [show s.length = i by rw [hs]; simp] at hsv
      subst hsv
      have HSs := hid hs
      clear hs
      obtain ⟨wS, rfl⟩ : ∃ wS, wS = wr := ⟨_, rfl⟩
      go_wp2_with (at_builtin; refine stopAt ?_; intro q hq)
      go_loopw [10, 11] (fun ov jv wy => ∃ (j : Nat) (xs : List (Pl × Value)) (ow : Value), j ≤ M ∧ jv = .int .i64 j ∧ ow = ov ∧ Hid (PlsO wS.heap.size wy ow xs ∧ xs.map (·.1) = evPls j ∧ Keep (fun _ => False) wS wy)) (fun _ jv _ => M - (intOf jv).toNat)
      case atStart => exact ⟨0, [], _, Nat.zero_le _, rfl, rfl, hid ⟨PlsO.nil _ _, rfl, Keep.refl _ _⟩⟩
      case round =>
        obtain ⟨j, xs, ov, hj, rfl, rfl, HR⟩ := hrel
        by_cases hjm : j < M
        · have h5 : (j : Int) < M := by omega
          have hxl : xs.length = j := by have := congrArg List.length HR.out.2.1; rw [List.length_map, evPls_length] at this; exact this
          go_wp2_with (at_builtin; refine stopAt ?_; intro q hq)
          (refine hq.out ?_; clear hq q)
          have hk4 : Keep (fun _ => False) wr (wr.alloc (.cells #[.int .i64 0] 3)) := (Keep.refl _ _).alloc _
          have hr4 := row_made1 wr 0
          have hsz : (wr.alloc (.cells #[.int .i64 0] 3)).heap.size = wr.heap.size + 1 := by simp
          obtain ⟨w4, hw4⟩ : ∃ w4, w4 = wr.alloc (.cells #[.int .i64 0] 3) := ⟨_, rfl⟩
          obtain ⟨g4, hg4⟩ : ∃ g4, g4 = wr.heap.size := ⟨_, rfl⟩
          rw [← hw4, ← hg4] at hr4 hsz
          rw [← hw4] at hk4
          rw [← hw4, ← hg4]
          have hk5 : Keep (fun _ => False) w4 (w4.alloc (.cells #[.int .i64 (j : Int), .slice (some ⟨g4, 0, none⟩) 1 1] 44)) := (Keep.refl _ _).alloc _
          have hn5 := heap_alloc_new w4 (.cells #[.int .i64 (j : Int), .slice (some ⟨g4, 0, none⟩) 1 1] 44)
          rw [hsz] at hn5
          obtain ⟨w5, hw5⟩ : ∃ w5, w5 = w4.alloc (.cells #[.int .i64 (j : Int), .slice (some ⟨g4, 0, none⟩) 1 1] 44) := ⟨_, rfl⟩
          rw [← hw5] at hk5 hn5 ⊢
          have hk45 := hk4.next hk5 (fun _ _ x => x) (fun _ _ x => x)
          have ho5 := HR.out.1.later hk45
          refine wpList_plain rfl (fun K hK => ?_)
          refine wp_append ty_places (.tmp 44) (.tmp 48) rfl rfl ho5.row (some ⟨g4 + 1, 0, none⟩) 1 1 (plV (⟨(j : Int), [0]⟩, .slice (some ⟨g4, 0, none⟩) 1 1)) rfl
            ⟨rfl, fun _ => ⟨_, rfl, fun t u hu => by rw [addr_add, Nat.zero_add, cell_of_row _ _ _ _ _ _ hn5]; simpa [plV] using hu⟩⟩ (plV_one rfl) (by unfold maxLen; omega) (by omega) ?_
          intro v6 w6 hr6 hk6 hv6
          refine hK _ _ ?_
          clear hK K
          have hsz0 := HR.out.2.2.size
          have hsz5 := hk45.size
          have hown : PlsO wS.heap.size w6 v6 (xs ++ [(⟨(j : Int), [0]⟩, .slice (some ⟨g4, 0, none⟩) 1 1)]) := ho5.push (by omega) hr6 hk6 hv6 (hr4.keep hk5 (fun _ _ x => x)) (fun q e => by
            have hq : g4 = q := by simpa [Value.ownBlock] using e
            subst hq
            exact ⟨by omega, fun e' => by have := HR.out.1.row.lt e'; omega, fun y hy e' => by have := (HR.out.1.each y hy).lt e'; omega⟩) ⟨by unfold I64; simp only; omega, by unfold I64; simp⟩
          have hkeep : Keep (fun _ => False) wS w6 := (HR.out.2.2.next hk45 (fun _ _ x => x) (fun _ _ x => x)).next hk6 (fun _ _ x => x) (fun q hq x => by have := HR.out.1.own q x; omega)
          have HO := hid (And.intro hown (And.intro (show (xs ++ [((⟨(j : Int), [0]⟩ : Pl), Value.slice (some ⟨g4, 0, none⟩) 1 1)]).map (·.1) = evPls (j + 1) by rw [List.map_append, HR.out.2.1, evPls_succ]; rfl) hkeep))
          clear hr6 hk6 hv6 hown hkeep hsz0 hsz5 ho5 hk45 hk5 hn5 hw5 hw4 hg4 hk4 hr4 hsz hxl
          go_wp2_with (at_builtin; refine stopAt ?_; intro q hq)
          exact ⟨⟨j + 1, _, _, by omega, by go_num, rfl, HO⟩, by simp [intOf]; omega⟩
        · have h5 : decide ((j : Int) < M) = false := by simp; omega
          have hjM : j = M := by omega
          subst hjM
          have hsy : Sound s (evPls j) := by rw [HSs.out]; exact ev_sound hN12 hM100.2
          have hpv : PlsV wr ov (evPls j) := by have := HR.out.1.pls; rw [HR.out.2.1] at this; exact this
          have hsv : IntsV wr (.slice aos i cs) s := HG.out.own.ints.keep HR.out.2.2
          have hee : Even i up (plan s up 2 (evPls j)).2 := by rw [HSs.out]; exact ev_after hN12 hM100.2 HU0.out
          obtain ⟨ps, hps⟩ : ∃ ps, ps = evPls j := ⟨_, rfl⟩
          have hpl100 : ps.length ≤ 100 := by rw [hps, evPls_length]; exact hM100.2
          rw [← hps] at hsy hpv hee
          obtain ⟨al, cl, rfl, -⟩ := id hpv
          obtain ⟨m, hm⟩ : ∃ m, m = ps.length := ⟨_, rfl⟩
          rw [← hm] at hpv ⊢
          have hpl := mends_plan wr _ _ s ps up 2 hsv hpv hsy hup32 (by decide)
          rw [show ((2 : Nat) : Int) = 2 from rfl] at hpl
          have HPl := hid hpl
          have HP := hid (And.intro hpv (And.intro hsy (And.intro hee (And.intro hpl100 hm))))
          have HK := hid (HG.out.keep.next HR.out.2.2 (fun _ _ x => x) (fun _ _ x => x))
          clear hpl hsy hpv hsv hee hps hm hpl100 HR
          go_wp2_with (at_builtin; refine stopAt ?_; intro q hq)
          refine HPl.out.mono ?_
          rintro e w2 ⟨mv, rfl, hmv, -, hk2⟩
          obtain ⟨nx, hnx⟩ : ∃ nx, nx = (plan s up 2 ps).2 := ⟨_, rfl⟩
          have hto : PlanTo s up 2 0 ps.length ps (plan s up 2 ps).1 nx := by rw [hnx]; exact HP.out.2.1.planTo up 2
          have hap : apply ps (plan s up 2 ps).1 = some nx := by rw [hnx]; exact HP.out.2.1.apply up 2
          have hsn : Sound s nx := by rw [hnx]; exact HP.out.2.1.after up 2
          have hM1 : (plan s up 2 ps).1.length ≤ 1200 := by have := psteps_few hto HP.out.2.1.n12; have := HP.out.2.2.2.1; omega
          have HAp := hid (mends_apply w2 _ _ s ps nx _ (HP.out.1.keep hk2) hmv HP.out.2.1 hap hsn (by omega))
          obtain ⟨am, cm, rfl, -⟩ := id hmv
          obtain ⟨M2, hM2⟩ : ∃ M2, M2 = (plan s up 2 ps).1.length := ⟨_, rfl⟩
          rw [← hM2] at HAp ⊢
          have HT := hid (And.intro (show Even i up nx by rw [hnx]; exact HP.out.2.2.1) (show nx.length ≤ 500 by have := hto.len; have := HP.out.2.2.2.1; omega))
          have HK2 := hid (HK.out.next hk2 (fun _ _ x => x) (fun _ _ x => x))
          clear hmv hM2 hnx hto hap hsn hk2 HPl hM1
          go_wp2_with (at_builtin; refine stopAt ?_; intro q hq)
          refine HAp.out.mono ?_
          rintro e w3 ⟨vn, rfl, hpn, hk3⟩
          have HPn := hid hpn
          obtain ⟨an, cnn, rfl, -⟩ := id hpn
          have HK3 := hid (HK2.out.next hk3 (fun _ _ x => x) (fun _ _ x => x))
          have HU := hid (fun wq (n : Int) h0 h1 => up_any wq up n hup32 h0 h1)
          clear hpn hk3 HAp
          go_wp2_with (at_builtin; refine stopAt ?_; intro q hq)
          go_loopw [16, 17, 18] (fun lv hv kv wz => ∃ (k lo hi : Nat), 1 ≤ k ∧ k ≤ i ∧ kv = .int .i64 k ∧ lv = .int .i64 lo ∧ hv = .int .i64 hi ∧ Hid (Keep (fun _ => False) w3 wz ∧ Seen up k nx lo hi)) (fun _ _ kv _ => i - (intOf kv).toNat)
          case atStart => exact ⟨1, 1000, 0, Nat.le_refl _, by omega, rfl, rfl, rfl, hid ⟨Keep.refl _ _, .inl ⟨rfl, rfl⟩⟩⟩
          case round =>
            obtain ⟨k, lo, hi, hk1, hki, rfl, rfl, rfl, HZ⟩ := hrel
            by_cases hkn : k < i
            · have h6 : (k : Int) < i := by omega
              obtain ⟨B, hB⟩ : ∃ B, B = isUp up (k : Int) := ⟨_, rfl⟩
              have HB := hid hB
              clear hB
              go_wp2_with (at_builtin; refine stopAt ?_; intro q hq)
              refine (HU.out wr (k : Int) (by omega) (by omega)).mono ?_
              rintro e w4 ⟨rfl, rfl⟩
              rw [← HB.out]
              cases B with
              | false =>
                go_wp2_with (at_builtin; refine stopAt ?_; intro q hq)
                exact ⟨⟨k + 1, lo, hi, by omega, by omega, by go_num, rfl, rfl, hid ⟨HZ.out.1, HZ.out.2.skip⟩⟩, by simp [intOf]; omega⟩
              | true =>
                obtain ⟨ld, hld⟩ : ∃ x, x = loadOf nx (k : Int) := ⟨_, rfl⟩
                have hmore := HZ.out.2.more HT.out.2 hk1 HB.out.symm
                rw [← hld] at hmore
                have hLo := load_any wr _ nx (k : Int) (HPn.out.keep HZ.out.1)
                rw [← hld] at hLo
                have HLo := hid hLo
                have HMo := hid hmore
                have hmin := fun w : World => min_any w lo ld (ld : Int) rfl
                have hmax := fun w : World => maxn_any w hi ld
                obtain ⟨lo2, hlo2⟩ : ∃ x, x = min lo ld := ⟨_, rfl⟩
                obtain ⟨hi2, hhi2⟩ : ∃ x, x = max hi ld := ⟨_, rfl⟩
                rw [← hlo2] at hmin HMo
                rw [← hhi2] at hmax HMo
                clear hld hLo hmore hlo2 hhi2
                go_wp2_with (at_builtin; refine stopAt ?_; intro q hq)
                refine HLo.out.mono ?_
                rintro e w5 ⟨rfl, hk5⟩
                have HZ5 := hid (HZ.out.1.next hk5 (fun _ _ x => x) (fun _ _ x => x))
                clear hk5
                go_wp2_with (at_builtin; refine stopAt ?_; intro q hq)
                exact ⟨⟨k + 1, lo2, hi2, by omega, by omega, by go_num, rfl, rfl, hid ⟨HZ5.out, HMo.out⟩⟩, by simp [intOf]; omega⟩
            · have h6 : decide ((k : Int) < i) = false := by simp; omega
              have hdone : lo = 1000 ∨ (hi : Int) - (lo : Int) ≤ 1 := by
                have h := HZ.out.2
                rw [show k = i by omega] at h
                exact h.done HT.out.1
              have hfew := HZ.out.2.few HT.out.2
              have HK4 := hid (HK3.out.next HZ.out.1 (fun _ _ x => x) (fun _ _ x => x))
              have wd : IntKind.i64.wrap ((hi : Int) - (lo : Int)) = (hi : Int) - (lo : Int) := by simp [IntKind.wrap, IntKind.signed, IntKind.bits]; omega
              by_cases hlo : lo = 1000
              · have t1 : ((lo : Int) == 1000) = true := by simp; omega
                have t2 : decide ((lo : Int) = 1000) = true := by simp; omega
                clear hlo hdone hfew wd
                go_wp2_with (at_builtin; refine stopAt ?_; intro q hq)
                refine (HKn.out wr).mono ?_
                rintro e w5 ⟨rfl, hk5⟩
                have HK5 := hid (HK4.out.next hk5 (fun _ _ x => x) (fun _ _ x => x))
                clear hk5
                go_wp2_with (at_builtin; refine stopAt ?_; intro q hq)
                go_ret
                exact ⟨rfl, HK5.out⟩
              · have t1 : ((lo : Int) == 1000) = false := by simp; omega
                have t2 : decide ((lo : Int) = 1000) = false := by simp; omega
                have t3 : decide ((hi : Int) - (lo : Int) ≤ 1) = true := by simp; omega
                clear hlo hdone hfew
                go_wp2_with (at_builtin; refine stopAt ?_; intro q hq)
                refine (HKn.out wr).mono ?_
                rintro e w5 ⟨rfl, hk5⟩
                have HK5 := hid (HK4.out.next hk5 (fun _ _ x => x) (fun _ _ x => x))
                clear hk5
                go_wp2_with (at_builtin; refine stopAt ?_; intro q hq)
                go_ret
                exact ⟨rfl, HK5.out⟩
end Go.Proofs.Ytmdonjadhkffiaa
