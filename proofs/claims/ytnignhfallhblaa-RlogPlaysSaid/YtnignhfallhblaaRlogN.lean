/- rlog: a contract for Learn. Conditions: as the contract names them. -/
import Derived.Test.YtnignhfallhblaaRlogL
namespace Go.Proofs.Ytnignhfallhblaa
open Go.RowKit
open RM

set_option maxRecDepth 20000 in
set_option maxHeartbeats 1000000 in
theorem learn_any (w : World) (b : Nat) (F : Nat → Prop) (g : Lg) (s : Nat) (ao : Option Addr) (n c : Nat) (bs : List UInt8) (hL : LogAt w b F g) (hb : Cells w ao n 1 (bytesV bs)) (hs : s < 18446744073709551616) (hn : n ≤ 9223372036854775807) :
    Calls Try.prog 12 #[.pointer (some ⟨b, 0, none⟩), .int .u64 s, .slice ao n c] w fun e w' => e = .returned (.int .i64 ((RM.learn g s bs).1 : Nat)) ∧ LogTo b F w (RM.learn g s bs).2 w' := by
  have hbl : bs.length = n := by have := hb.1; rw [bytesV_length] at this; omega
  have hfin := fun t => find_any w b F g t hL
  obtain ⟨v, us, hI⟩ := hL
  have hok := hI.ok.learn s bs hs
  unfold RM.learn at hok ⊢
  by_cases h1 : s = 0 ∨ s = 18446744073709551615
  · rw [if_pos h1]
    have HI := hid hI
    clear hI hok hfin hb
    rcases h1 with rfl | rfl
    · go_enter Try.func12, Try.ntmps12
      go_wp2_with (at_builtin; refine stopAt ?_; intro q hq)
      go_ret
      exact ⟨by rfl, HI.out.to (Keep.refl _ _)⟩
    · go_enter Try.func12, Try.ntmps12
      go_wp2_with (at_builtin; refine stopAt ?_; intro q hq)
      go_ret
      exact ⟨by rfl, HI.out.to (Keep.refl _ _)⟩
  rw [if_neg h1] at hok ⊢
  have q1 : ((s : Int) == 0) = false := by simp; omega
  have q2 : ((s : Int) == 18446744073709551615) = false := by simp; omega
  clear h1
  by_cases h2 : 100 < bs.length
  · rw [if_pos h2]
    have HI := hid hI
    have q3 : decide (100 < n) = true := by simp; omega
    have q3' : decide ((100 : Int) < (n : Int)) = true := by simp; omega
    clear hI hok hfin hb
    go_enter Try.func12, Try.ntmps12
    go_wp2_with (at_builtin; refine stopAt ?_; intro q hq)
    go_ret
    exact ⟨by rfl, HI.out.to (Keep.refl _ _)⟩
  rw [if_neg h2] at hok ⊢
  have q3 : decide (100 < n) = false := by simp; omega
  have q3' : decide ((100 : Int) < (n : Int)) = false := by simp; omega
  clear h2
  have hf := hfin s
  clear hfin
  obtain ⟨i, hi⟩ : ∃ i, i = below g.l s := ⟨_, rfl⟩
  rw [← hi] at hf
  have Hi := hid hi
  cases hk : kept g.l s with
  | some u =>
    rw [hk] at hf hok
    have hka := kept_at hI.ok.rising s
    rw [hk, ← hi] at hka
    have Hf := hid hf
    obtain ⟨en, hen, hu⟩ : ∃ en, g.l[i]? = some en ∧ en = (s, u) := by
      cases hq : g.l[i]? with
      | none => rw [hq] at hka; cases hka
      | some e =>
        rw [hq] at hka
        simp at hka
        exact ⟨e, rfl, by obtain ⟨h1, h2⟩ := hka; rw [h2, ← h1]⟩
    obtain ⟨hil, hgi⟩ := List.getElem?_eq_some_iff.1 hen
    rw [hu] at hgi
    obtain ⟨ao', c', x1, x2, x3⟩ := hI.each i hil
    rw [hgi] at x1 x2 x3
    clear hf hka hen hu hk hi
    have hui : i < us.length := by rw [hI.len]; exact hil
    have hus : us[i].2 = .slice ao' u.length c' := by rw [List.getElem?_eq_getElem hui] at x1; simpa using x1
    have HI := hid hI
    have HX := hid (And.intro x2 hus)
    clear hI x1 x2 x3 hus
    obtain ⟨n', hn'⟩ : ∃ z, z = u.length := ⟨_, rfl⟩
    have hif : (if u = bs then ((0 : Nat), g) else (120, g)) = ((if u = bs then 0 else 120), g) := by split <;> rfl
    simp only [hif]
    clear hif hok
    go_enter Try.func12, Try.ntmps12
    go_wp2_with (at_builtin; refine stopAt ?_; intro q hq)
    refine Hf.out.mono ?_
    rintro e w2 ⟨rfl, hk2⟩
    have hI2 := HI.out.keep hk2 (fun _ _ x => x)
    obtain ⟨a0, a1, af, -⟩ := cells2 hI2.head
    obtain ⟨gr, cap, hv, c0, c1⟩ := ent_at hI2.row i hui
    rw [HX.out.2] at c1
    subst hv
    have hil' : (i : Int) < (g.l.length : Int) := by omega
    obtain ⟨len, hlen⟩ : ∃ z, z = g.l.length := ⟨_, rfl⟩
    rw [← hlen] at a1 hil'
    rw [← hn'] at c1
    have hs1 : ∀ m, (convert 24 9 (.slice ao' n' c')).run Try.prog (w2.drewN m) = .ok (.string (str u)) (w2.drewN m) := fun m => by
      rw [hn']
      exact run_str Try.underlying24 Try.underlying5 Try.underlying9 ((HX.out.1.keep hk2 (fun _ _ x => x)).keep ((Keep.refl (fun _ => False) w2).drewN m) (fun _ _ x => x))
    have hs2 : ∀ m, (convert 24 9 (.slice ao n c)).run Try.prog (w2.drewN m) = .ok (.string (str bs)) (w2.drewN m) := fun m =>
      run_str Try.underlying24 Try.underlying5 Try.underlying9 ((hb.keep hk2 (fun _ _ x => x)).keep ((Keep.refl (fun _ => False) w2).drewN m) (fun _ _ x => x))
    have HK := hid hk2
    have HS1 := hid hs1
    have HS2 := hid hs2
    clear hI2 hk2 hlen hn' hb
    by_cases hub : u = bs
    · have Hub := hid hub
      subst hub
      clear hs1 hs2
      have hs1 := HS1.out
      have hs2 := HS2.out
      go_wp2_with (at_builtin; refine stopAt ?_; intro q hq)
      go_quiet (fail)
      go_wp2_with (at_builtin; refine stopAt ?_; intro q hq)
      go_ret
      exact ⟨by first | rfl | (rw [if_pos rfl]; rfl), HI.out.to (HK.out.drewN _)⟩
    · have t2 : ((str u).toList == (str bs).toList) = false := by rw [str_toList, str_toList]; simpa using hub
      have Hub := hid hub
      clear hub
      go_wp2_with (at_builtin; refine stopAt ?_; intro q hq)
      go_quiet (fail)
      go_wp2_with (at_builtin; refine stopAt ?_; intro q hq)
      go_ret
      exact ⟨by first | rfl | (rw [if_neg Hub.out]; rfl), HI.out.to (HK.out.drewN _)⟩
  | none =>
    rw [hk] at hf hok
    have Hf := hid hf
    have HI := hid hI
    have hbl2 : i ≤ g.l.length := by rw [hi]; exact below_le _ _
    clear hf hk hi
    by_cases h3 : s ≤ g.ap
    · simp only [if_pos h3]
      have t1 : decide (s ≤ g.ap) = true := by simpa using h3
      clear hI hok h3 hb
      go_enter Try.func12, Try.ntmps12
      go_wp2_with (at_builtin; refine stopAt ?_; intro q hq)
      refine Hf.out.mono ?_
      rintro e w2 ⟨rfl, hk2⟩
      have hI2 := HI.out.keep hk2 (fun _ _ x => x)
      obtain ⟨a0, a1, af, -⟩ := cells2 hI2.head
      have HK := hid hk2
      clear hI2 hk2
      go_wp2_with (at_builtin; refine stopAt ?_; intro q hq)
      go_quiet (fail)
      go_wp2_with (at_builtin; refine stopAt ?_; intro q hq)
      go_ret
      exact ⟨by rfl, HI.out.to (HK.out.drewN _)⟩
    · simp only [if_neg h3] at hok ⊢
      have t1 : decide (s ≤ g.ap) = false := by simpa using h3
      obtain ⟨ad, cap, rfl, -⟩ := hI.row.form
      obtain ⟨len, hlen⟩ : ∃ z, z = g.l.length := ⟨_, rfl⟩
      have Hlen := hid hlen
      by_cases h4 : 4096 ≤ g.l.length
      · simp only [if_pos h4]
        have t2 : decide ((4096 : Int) ≤ (len : Int)) = true := by simp; omega
        have t2b : (4096 : Int) ≤ (len : Int) := by omega
        clear hI hok h3 h4 hb hlen
        go_enter Try.func12, Try.ntmps12
        go_wp2_with (at_builtin; refine stopAt ?_; intro q hq)
        refine Hf.out.mono ?_
        rintro e w2 ⟨rfl, hk2⟩
        have hI2 := HI.out.keep hk2 (fun _ _ x => x)
        obtain ⟨a0, a1, af, -⟩ := cells2 hI2.head
        rw [← Hlen.out] at a1
        have HK := hid hk2
        clear hI2 hk2
        go_wp2_with (at_builtin; refine stopAt ?_; intro q hq)
        go_quiet (fail)
        go_wp2_with (at_builtin; refine stopAt ?_; intro q hq)
        go_ret
        exact ⟨by rfl, HI.out.to (HK.out.drewN _)⟩
      · simp only [if_neg h4] at hok ⊢
        have t2 : decide ((4096 : Int) ≤ (len : Int)) = false := by simp; omega
        have t2b : (len : Int) < 4096 := by omega
        clear hI h3 hlen
        go_enter Try.func12, Try.ntmps12
        go_wp2_with (at_builtin; refine stopAt ?_; intro q hq)
        refine Hf.out.mono ?_
        rintro e w2 ⟨rfl, hk2⟩
        have hI2 := HI.out.keep hk2 (fun _ _ x => x)
        obtain ⟨a0, a1, af, -⟩ := cells2 hI2.head
        rw [← Hlen.out] at a1
        have hb2 := hb.keep hk2 (fun _ _ x => x)
        have HK := hid hk2
        have HB := hid hb2
        clear hI2 hk2 hb hb2
        go_wp2_with (at_builtin; refine stopAt ?_; intro q hq)
        go_quiet (fail)
        go_wp2_with (at_builtin; refine stopAt ?_; intro q hq)
        refine wp_region_canon [71] (by kernel_rfl) (by kernel_rfl) ?_
        repeat (first | (apply wpC_pure (by rfl); (intro K w'; go_simp; exact id)) | (apply wpC_load (by rfl); (intro K; go_simp; exact id)))
        refine wpC_new (by rfl) (by rfl) (fun K hK => ?_)
        go_simp
        refine (own_ent _ s ao n c bs (HB.out.keep ((Keep.refl (fun _ => False) _).drewN _) (fun _ _ x => x)) (by have h100 := q3; simp at h100; omega)).mono ?_
        rintro e w3 ⟨ao', c', rfl, hr3, hf3, hk3⟩
        refine hK _ _ (Pre.of_keep hk3) ?_
        clear hK K
        have hk3' : Keep (fun _ => False) w w3 := HK.out.drewN _ |>.next hk3 (fun _ _ x => x) (fun _ _ x => x)
        have HR3 := hid (And.intro hr3 (And.intro hf3 hk3'))
        clear hr3 hf3 hk3 hk3' a0 a1 af
        (refine wpC_new (by rfl) (by rfl) (fun K hK => ?_); go_simp; refine hK _ _ (Pre.push _ rfl) ?_; clear hK K)
        have hG := heap_alloc_new w3 (.cells #[.int .u64 (s : Int), .slice ao' n c'] 32)
        have kG : Keep (fun _ => False) w3 (w3.alloc (.cells #[.int .u64 (s : Int), .slice ao' n c'] 32)) := (Keep.refl _ _).alloc _
        have zG : (w3.alloc (.cells #[.int .u64 (s : Int), .slice ao' n c'] 32)).heap.size = w3.heap.size + 1 := by simp
        obtain ⟨w4, hw4⟩ : ∃ w4, w4 = w3.alloc (.cells #[.int .u64 (s : Int), .slice ao' n c'] 32) := ⟨_, rfl⟩
        rw [← hw4] at hG kG zG ⊢
        clear hw4
        obtain ⟨hr3, hf3, hk3⟩ := HR3.out
        have hk4 : Keep (fun _ => False) w w4 := hk3.next kG (fun _ _ x => x) (fun _ _ x => x)
        have hI4 := HI.out.keep hk4 (fun _ _ x => x)
        have hsl := hI4.slices
        obtain rfl := Hlen.out
        refine wpC_act (by rfl) (by rfl) (fun K hK => ?_)
        go_simp
        refine (insert_any w4 (.slice ad g.l.length cap) g.l.length i w3.heap.size us (s, .slice ao' n c') hI4.row hI4.len (by omega) hbl2 hG (fun e => by have := HI.out.row.lt e; have := hk3.size; omega) rfl (fun x hx => by
          obtain ⟨e, he, hx⟩ := List.mem_flatMap.1 hx
          obtain ⟨_, _, _, h1⟩ := hsl e he
          unfold entV at hx
          rw [h1] at hx
          simp only [List.mem_cons, List.not_mem_nil, or_false] at hx
          rcases hx with rfl | rfl <;> rfl)).mono ?_
        rintro r w5 ⟨v', rfl, hr5, hk5, hv5⟩
        obtain ⟨ad5, cap5, rfl, -⟩ := hr5.form
        refine hK _ _ ?_
        clear hK K
        have hh5 := hk5.get hI4.head (fun e => (hI4.own b e).2 rfl)
        obtain ⟨a0, a1, af, -⟩ := cells2 hh5
        have HR5 := hid (And.intro hr5 (And.intro hk5 (And.intro hv5 (And.intro kG hk4))))
        clear hr5 hk5 hv5 hh5 hr3 hf3 hk3 hk4 hI4 hsl hG kG zG
        repeat (apply wpC_pure (by rfl); (intro K w'; go_simp; exact id))
        (refine wpC_act (by rfl) (by rfl) (fun K hK => ?_); go_simp; refine hK _ _ ?_; clear hK K)
        refine wpC_nil ?_
        go_wp2_with (at_builtin; refine stopAt ?_; intro q hq)
        go_ret
        obtain ⟨hr5, hk5, hv5, kG, hk4⟩ := HR5.out
        obtain ⟨hr3, hf3, hk3⟩ := HR3.out
        subst hbl
        refine ⟨by rfl, ?_⟩
        rw [Hi.out] at hr5
        exact LogIs.insert HI.out hk4 (hr3.keep kG (fun _ _ x => x)) (fun k e => Nat.le_trans (HK.out.drewN _).size (hf3 k e)) hr5 hk5 hv5 hok
end Go.Proofs.Ytnignhfallhblaa
