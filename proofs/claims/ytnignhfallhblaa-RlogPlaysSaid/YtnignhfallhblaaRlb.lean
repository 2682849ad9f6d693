/- The document's log: a contract for Learn. Conditions: as the contract names them. -/
import Derived.Test.YtnignhfallhblaaRla
namespace Go.Proofs.Ytnignhfallhblaa
open Go.RowKit
open RM

/-- One entry more, at the end: the log behind the store. -/
theorem RIs.push {w w1 w2 w3 : World} {b ap : Nat} {F : Nat → Prop} {rl : List Ent} {v v' : Value} {us : List (Nat × Value)} {s c' : Nat} {ao' : Option Addr} {bs : List UInt8} (h : RIs w b F ap rl v us) (hk1 : Keep (fun _ => False) w w1)
    (hu : Row w1 5 1 (.slice ao' bs.length c') bs.length (bytesV bs)) (hf : ∀ k, (Value.slice ao' bs.length c').ownBlock = some k → w.heap.size ≤ k) (hk12 : Keep (fun _ => False) w1 w2)
    (hr : Row w3 32 2 v' (rl.length + 1) (entsV us ++ entV (s, .slice ao' bs.length c'))) (hk2 : Keep (fun k => v.ownBlock = some k) w2 w3)
    (hv : ∀ k, v'.ownBlock = some k → v.ownBlock = some k ∨ w2.heap.size ≤ k) :
    ∃ F', RIs (w3.setCell ⟨b, 1, none⟩ v') b F' ap (rl ++ [(s, bs)]) v' (us ++ [(s, .slice ao' bs.length c')]) ∧ Keep F w (w3.setCell ⟨b, 1, none⟩ v') ∧ ∀ k, F' k → F k ∨ w.heap.size ≤ k := by
  have hsz1 := hk1.size
  have hsz12 := hk12.size
  have hsz2 := hk2.size
  have hk3 : Keep (fun k => k = b) w3 (w3.setCell ⟨b, 1, none⟩ v') := by refine Keep.setCell (Keep.refl _ _) (.inl ?_) _; rfl
  have hbl := heap_lt h.head
  have hvb : v.ownBlock ≠ some b := fun e => (h.own b e).2 rfl
  have hh2 := hk2.get (hk12.get (hk1.get h.head id) id) hvb
  have hh3 := heap_setCell_same w3 b 1 _ _ v' hh2
  have hsz3 : (w3.setCell ⟨b, 1, none⟩ v').heap.size = w3.heap.size := by simp [World.setCell]
  obtain ⟨w4, hw4⟩ : ∃ w4, w4 = w3.setCell ⟨b, 1, none⟩ v' := ⟨_, rfl⟩
  rw [← hw4] at hk3 hh3 hsz3 ⊢
  have hlen := h.len
  have hb2 : v'.ownBlock ≠ some b := fun e => by
    rcases hv b e with x | x
    · exact hvb x
    · omega
  have kF : Keep F w w4 := (((hk1.mono (fun _ _ x => x.elim : ∀ i, i < w.heap.size → False → F i)).next hk12 (fun _ _ x => x) (fun _ _ x => x.elim)).next hk2 (fun _ _ x => x) (fun i _ x => (h.own i x).1)).next hk3 (fun _ _ x => x) (fun i _ x => by rw [x]; exact h.self)
  refine ⟨fun k => F k ∨ (w.heap.size ≤ k ∧ k < w4.heap.size), ?_, kF, fun k x => x.imp id And.left⟩
  refine ⟨by rw [hh3]; rfl, ?_, by simp [h.keys], fun i hi => ?_, .inl h.self, fun k e => ⟨?_, fun x => hb2 (by rw [← x]; exact e)⟩, fun k x => ?_⟩
  · rw [entsV_append, entsV_one, List.length_append]
    exact hr.keep hk3 fun k e x => hb2 (by rw [← x]; exact e)
  · rw [List.length_append, List.length_singleton] at hi
    rcases Nat.lt_or_eq_of_le (Nat.le_of_lt_succ hi) with x | x
    · obtain ⟨ao, c, h1, h2, h3⟩ := h.each i x
      rw [List.getElem_append_left x, List.getElem?_append_left (by rw [hlen]; exact x)]
      refine ⟨ao, c, h1, (((h2.keep hk1 (fun _ _ x => x)).keep hk12 (fun _ _ x => x)).keep0 hk2 (fun hp x hx y => (h3 (by omega) x hx).2.2 y)).keep0 hk3 (fun hp x hx y => (h3 (by omega) x hx).2.1 y), fun hp x hx => ?_⟩
      obtain ⟨q1, q2, q3⟩ := h3 hp x hx
      refine ⟨.inl q1, q2, fun e => ?_⟩
      rcases hv _ e with y | y
      · exact q3 y
      · have := h.lt _ q1; omega
    · subst x
      have e : (rl ++ [(s, bs)])[rl.length]'(by simp) = (s, bs) := by simp
      rw [e]
      refine ⟨ao', c', by rw [← hlen]; simp, Cells.of_row (((hu.keep hk12 fun _ _ x => x).keep hk2 fun k e y => ?_).keep hk3 fun k e y => ?_), fun hp z hz => ?_⟩
      · have := hf k e; have := h.row.lt y; omega
      · have := hf k e; omega
      · subst hz
        obtain ⟨_, _, hfe, -, -, -, hform⟩ := hu.form
        cases hfe
        obtain ⟨_, ho⟩ := hform _ rfl
        have q1 := hf _ ho
        have q2 := hu.lt ho
        refine ⟨.inr ⟨q1, by omega⟩, by omega, fun e => ?_⟩
        rcases hv _ e with y | y
        · have := h.row.lt y; omega
        · omega
  · rcases hv k e with x | x
    · exact .inl (h.own k x).1
    · exact .inr ⟨by omega, by have := hr.lt e; omega⟩
  · rcases x with x | x
    · have := h.lt k x; omega
    · exact x.2

theorem RM.learn_kept {g : Lg} {s : Nat} {v u : List UInt8} (h1 : ¬ (s = 0 ∨ s = 18446744073709551615)) (h2 : ¬ 100 < v.length) (h3 : kept g.l s = some u) : RM.learn g s v = ((if u = v then 0 else 120), g) := by
  unfold RM.learn
  rw [if_neg h1, if_neg h2, h3]
  simp only
  split <;> rfl
theorem RM.learn_free {g : Lg} {s : Nat} {v : List UInt8} (h1 : ¬ (s = 0 ∨ s = 18446744073709551615)) (h2 : ¬ 100 < v.length) (h3 : kept g.l s = none) :
    RM.learn g s v = if s ≤ g.ap then (0, g) else if 4096 ≤ g.l.length then (5, g) else (0, { g with l := ins g.l s v }) := by
  unfold RM.learn
  rw [if_neg h1, if_neg h2, h3]

set_option maxRecDepth 20000 in
set_option maxHeartbeats 1000000 in
theorem rlearn_any (w : World) (b : Nat) (F : Nat → Prop) (g : Lg) (s : Nat) (ao : Option Addr) (n c : Nat) (bs : List UInt8) (hL : RefAt w b F g) (hb : Cells w ao n 1 (bytesV bs)) (hs : s < 18446744073709551616) (hn : n ≤ 9223372036854775807) :
    Calls Try.prog 36 #[.pointer (some ⟨b, 0, none⟩), .int .u64 s, .slice ao n c] w fun e w' => e = .returned (.int .i64 ((RM.learn g s bs).1 : Nat)) ∧ RefTo b F w (RM.learn g s bs).2 w' := by
  have hbl : bs.length = n := by have := hb.1; rw [bytesV_length] at this; omega
  obtain ⟨v, us, rl, hI, hp, hok⟩ := hL
  have hok2 := hok.learn s bs hs
  have Same := hid (show RefAt w b F g from ⟨v, us, rl, hI, hp, hok⟩)
  have hrl : rl.length = g.l.length := hp.length_eq
  by_cases h1 : s = 0 ∨ s = 18446744073709551615
  · have e : RM.learn g s bs = (2, g) := by unfold RM.learn; rw [if_pos h1]
    rw [e]
    clear hI hok hok2 hb hp e
    rcases h1 with rfl | rfl
    · go_enter Try.func36, Try.ntmps36
      go_wp2_with (at_builtin; refine stopAt ?_; intro q hq)
      go_ret
      exact ⟨by rfl, Same.out.to (Keep.refl _ _)⟩
    · go_enter Try.func36, Try.ntmps36
      go_wp2_with (at_builtin; refine stopAt ?_; intro q hq)
      go_ret
      exact ⟨by rfl, Same.out.to (Keep.refl _ _)⟩
  have q1 : ((s : Int) == 0) = false := by simp; omega
  have q2 : ((s : Int) == 18446744073709551615) = false := by simp; omega
  by_cases h2 : 100 < bs.length
  · have e : RM.learn g s bs = (3, g) := by unfold RM.learn; rw [if_neg h1, if_pos h2]
    rw [e]
    have q3 : decide (100 < n) = true := by simp; omega
    have q3' : decide ((100 : Int) < (n : Int)) = true := by simp; omega
    clear hI hok hok2 hb hp e h1
    go_enter Try.func36, Try.ntmps36
    go_wp2_with (at_builtin; refine stopAt ?_; intro q hq)
    go_ret
    exact ⟨by rfl, Same.out.to (Keep.refl _ _)⟩
  have q3 : decide (100 < n) = false := by simp; omega
  have q3' : decide ((100 : Int) < (n : Int)) = false := by simp; omega
  have hn100 : n ≤ 100 := by omega
  have hat := rat_any w b g.ap F rl v us s hI (by have := hok.few; omega)
  have Hat := hid hat
  clear hat
  cases hk : kept g.l s with
  | some u =>
    rw [RM.learn_kept h1 h2 hk]
    have HX := hid (And.intro hI (And.intro hp (And.intro hok (And.intro hb (kept_mem hk)))))
    clear hI hp hok hok2 hb hk h1 h2
    obtain ⟨r, hr⟩ : ∃ r : Nat, r = if u = bs then 0 else 120 := ⟨_, rfl⟩
    rw [← hr]
    have Hr := hid hr
    clear hr
    go_enter Try.func36, Try.ntmps36
    go_wp2_with (at_builtin; refine stopAt ?_; intro q hq)
    refine Hat.out.mono ?_
    rintro e w2 ⟨z, rfl, hz, hk2⟩
    obtain ⟨hI, hp, hok, hb, hmem⟩ := HX.out
    obtain ⟨k, hkl, rfl, hkt⟩ : ∃ k : Nat, ∃ hk : k < rl.length, z = (k : Int) ∧ rl[k].1 = s := by
      rcases hz with ⟨-, hz⟩ | h
      · exact absurd ⟨u, hp.mem_iff.2 hmem⟩ hz
      · exact h
    have hku : rl[k] = (s, u) := rising_inj hok.rising (hp.mem_iff.1 (List.getElem_mem hkl)) hmem hkt
    have hI2 := hI.keep hk2 (fun _ _ x => x)
    obtain ⟨a0, a1, af, -⟩ := cells2 hI2.head
    obtain ⟨gr, cap, ao', c', hv, c0, c1, c2, -⟩ := hI2.ent k hkl
    rw [hku] at c1 c2
    subst hv
    have hil' : (k : Int) < (rl.length : Int) := by omega
    obtain ⟨len, hlen⟩ : ∃ z, z = rl.length := ⟨_, rfl⟩
    rw [← hlen] at a1 hil'
    obtain ⟨n', hn'⟩ : ∃ z, z = u.length := ⟨_, rfl⟩
    dsimp only at c1 c2
    rw [← hn'] at c1 c2
    have hs1 : ∀ m, (convert 24 9 (.slice ao' n' c')).run Try.prog (w2.drewN m) = .ok (.string (str u)) (w2.drewN m) := fun m =>
      run_str Try.underlying24 Try.underlying5 Try.underlying9 (c2.keep ((Keep.refl (fun _ => False) w2).drewN m) (fun _ _ x => x))
    have hs2 : ∀ m, (convert 24 9 (.slice ao n c)).run Try.prog (w2.drewN m) = .ok (.string (str bs)) (w2.drewN m) := fun m =>
      run_str Try.underlying24 Try.underlying5 Try.underlying9 ((hb.keep hk2 (fun _ _ x => x)).keep ((Keep.refl (fun _ => False) w2).drewN m) (fun _ _ x => x))
    have HK := hid hk2
    have HS1 := hid hs1
    have HS2 := hid hs2
    clear hI hI2 hk2 hlen hn' hb hz hmem hku hkt hp hok c0 c2
    by_cases hub : u = bs
    · have Hub := hid hub
      subst hub
      clear hs1 hs2
      have hs1 := HS1.out
      have hs2 := HS2.out
      go_wp2_with (at_builtin; refine stopAt ?_; intro q hq)
      go_quiet (fail)
      go_wp2_with (at_builtin; refine stopAt ?_; intro q hq)
      go_ret
      have hr0 : r = 0 := by have := Hr.out; simpa using this
      exact ⟨by rw [hr0]; rfl, Same.out.to (HK.out.drewN _)⟩
    · have t2 : ((str u).toList == (str bs).toList) = false := by rw [str_toList, str_toList]; simpa using hub
      have Hub := hid hub
      clear hub
      go_wp2_with (at_builtin; refine stopAt ?_; intro q hq)
      go_quiet (fail)
      go_wp2_with (at_builtin; refine stopAt ?_; intro q hq)
      go_ret
      have hr0 : r = 120 := by have := Hr.out; simpa [Hub.out] using this
      exact ⟨by rw [hr0]; rfl, Same.out.to (HK.out.drewN _)⟩
  | none =>
    rw [RM.learn_free h1 h2 hk] at hok2 ⊢
    have HX := hid (And.intro hI (And.intro hp (And.intro hok (And.intro hb (kept_none.1 hk)))))
    have hfirst : ∀ z, RFind rl s z → z = -1 := fun z hz => by
      rcases hz with ⟨h, -⟩ | ⟨k, hkl, -, h⟩
      · exact h
      · exact absurd ⟨rl[k].2, by rw [← h]; exact hp.mem_iff.1 (List.getElem_mem hkl)⟩ (kept_none.1 hk)
    have Hfirst := hid hfirst
    obtain ⟨a0, a1, af, -⟩ := cells2 hI.head
    by_cases h3 : s ≤ g.ap
    · rw [if_pos h3]
      have t1 : decide (s ≤ g.ap) = true := by simpa using h3
      clear hI hp hok hok2 hb hk h1 h2 h3 hfirst a0 a1 af
      go_enter Try.func36, Try.ntmps36
      go_wp2_with (at_builtin; refine stopAt ?_; intro q hq)
      refine Hat.out.mono ?_
      rintro e w2 ⟨z, rfl, hz, hk2⟩
      obtain rfl := Hfirst.out z hz
      obtain ⟨a0, a1, af, -⟩ := cells2 (HX.out.1.keep hk2 fun _ _ x => x).head
      have HK := hid hk2
      clear hk2 hz
      go_wp2_with (at_builtin; refine stopAt ?_; intro q hq)
      go_ret
      exact ⟨by rfl, Same.out.to HK.out⟩
    · rw [if_neg h3] at hok2 ⊢
      have t1 : decide (s ≤ g.ap) = false := by simpa using h3
      by_cases h4 : 4096 ≤ g.l.length
      · rw [if_pos h4]
        have t2 : decide ((4096 : Int) ≤ (rl.length : Int)) = true := by simp; omega
        obtain ⟨len, hlen⟩ : ∃ z, z = rl.length := ⟨_, rfl⟩
        have Hlen := hid hlen
        rw [← hlen] at t2
        obtain ⟨ad, cap, hv, -⟩ := hI.row.form
        subst hv
        clear hI hp hok hok2 hb hk h1 h2 h3 hfirst a0 a1 af hlen
        go_enter Try.func36, Try.ntmps36
        go_wp2_with (at_builtin; refine stopAt ?_; intro q hq)
        refine Hat.out.mono ?_
        rintro e w2 ⟨z, rfl, hz, hk2⟩
        obtain rfl := Hfirst.out z hz
        obtain ⟨a0, a1, af, -⟩ := cells2 (HX.out.1.keep hk2 fun _ _ x => x).head
        rw [← Hlen.out] at a1
        have HK := hid hk2
        clear hk2 hz
        go_wp2_with (at_builtin; refine stopAt ?_; intro q hq)
        go_ret
        exact ⟨by rfl, Same.out.to HK.out⟩
      · rw [if_neg h4] at hok2 ⊢
        have t2 : decide ((4096 : Int) ≤ (rl.length : Int)) = false := by simp; omega
        have hlen5 : rl.length ≤ 4096 := by omega
        obtain ⟨len, hlen⟩ : ∃ z, z = rl.length := ⟨_, rfl⟩
        have Hlen := hid hlen
        rw [← hlen] at t2 hlen5
        obtain ⟨ad, cap, hv, -⟩ := hI.row.form
        subst hv
        have Hok2 := hid hok2
        have Hbl := hid hbl
        clear hI hp hok hok2 hb hk h1 h2 h3 h4 hfirst a0 a1 af hlen hbl
        go_enter Try.func36, Try.ntmps36
        go_wp2_with (at_builtin; refine stopAt ?_; intro q hq)
        refine Hat.out.mono ?_
        rintro e w2 ⟨z, rfl, hz, hk2⟩
        obtain rfl := Hfirst.out z hz
        have hI2 := HX.out.1.keep hk2 fun _ _ x => x
        obtain ⟨a0, a1, af, -⟩ := cells2 hI2.head
        rw [← Hlen.out] at a1
        have HI2 := hid hI2
        have HB := hid (HX.out.2.2.2.1.keep hk2 fun _ _ x => x)
        have HK := hid hk2
        clear hk2 hz hI2
        go_wp2_with (at_builtin; refine stopAt ?_; intro q hq)
        refine wp_region_canon [55] (by kernel_rfl) (by kernel_rfl) ?_
        repeat (first | (apply wpC_pure (by rfl); (intro K w'; go_simp; exact id)) | (apply wpC_load (by rfl); (intro K; go_simp; exact id)))
        refine wpC_new (by rfl) (by rfl) (fun K hK => ?_)
        go_simp
        have hdr : Keep (fun _ => False) w2 w2.drew := (Keep.refl _ _).drew
        refine (copy_any w2.drew ao n c bs (HB.out.keep hdr fun _ _ x => x) (by omega)).mono ?_
        rintro e w3 ⟨v3, rfl, hf3⟩
        refine hK _ _ (Pre.of_keep hf3.keep) ?_
        clear hK K
        obtain ⟨ao3, c3, hv3, -⟩ := hf3.row.form
        subst hv3
        have hr3 := hf3.row
        have hf4 := hf3.own
        have hk3 : Keep (fun _ => False) w w3 := (HK.out.next hdr (fun _ _ x => x) (fun _ _ x => x)).next hf3.keep (fun _ _ x => x) (fun _ _ x => x)
        have hk23 : Keep (fun _ => False) w2 w3 := hdr.next hf3.keep (fun _ _ x => x) (fun _ _ x => x)
        apply wpC_pure (by rfl)
        · intro K w' hK
          rw [if_pos (by rfl)]
          refine calm_build 32 #[(0, .tmp 53), (1, .tmp 55)] rfl [(0, .int .u64 (s : Nat)), (1, .slice ao3 bs.length c3)] rfl entZero _ #[(0, 1), (1, 1)] (entV (s, .slice ao3 bs.length c3)).toArray (by kernel_rfl) Try.underlying32 (fun _ => by kernel_rfl) ?_ ?_
          · rw [fill_cons _ _ 0 _ _ 0 1 rfl rfl (by decide), fill_cons _ _ 1 _ _ 1 1 rfl rfl (by simp [splice, Value.cells, entZero])]
            simp [Instr.fill, splice, Value.cells, entZero, entV]
          · revert hK
            go_simp
            exact id
        refine wpC_new (by rfl) (by rfl) (fun K hK => ?_)
        refine wp_buildSlice1 ty_ents (.tmp 56) rfl (.agg (entV (s, .slice ao3 bs.length c3)).toArray) rfl rfl (by decide) ?_
        go_simp
        refine hK _ _ (Pre.push _ rfl) ?_
        clear hK K
        have hk34 : Keep (fun _ => False) w3 (w3.alloc (Obj.cells (entV (s, .slice ao3 bs.length c3)).toArray 32)) := (Keep.refl _ _).alloc _
        have hnew := heap_alloc_new w3 (Obj.cells (entV (s, .slice ao3 bs.length c3)).toArray 32)
        obtain ⟨w4, hw4⟩ : ∃ w4, w4 = w3.alloc (Obj.cells (entV (s, .slice ao3 bs.length c3)).toArray 32) := ⟨_, rfl⟩
        rw [← hw4] at hk34 hnew ⊢
        clear hw4
        have hrw := ((HI2.out.row.keep hk23 fun _ _ x => x).keep hk34 fun _ _ x => x)
        rw [← Hlen.out] at hrw
        refine wpC_act (by rfl) (by rfl) (fun K hK => ?_)
        refine wp_append ty_ents (.tmp 52) (.tmp 57) rfl rfl hrw (some ⟨w3.heap.size, 0, none⟩) 1 1 (entV (s, .slice ao3 bs.length c3)) rfl
          ⟨rfl, fun _ => ⟨_, rfl, fun j u hu => by rw [addr_add, Nat.zero_add, cell_of_row _ _ _ _ _ _ hnew]; simpa using hu⟩⟩
          (one_ents (us := [(s, .slice ao3 bs.length c3)]) (fun e he => by rw [List.mem_singleton] at he; subst he; exact ⟨_, _, _, rfl⟩)) (by unfold maxLen; omega) (by omega) ?_
        intro v5 w5 hr5 hk5 hv5
        refine hK _ _ ?_
        clear hK K
        have hvb : (Value.slice ad len cap).ownBlock ≠ some b := fun e => by
          rw [Hlen.out] at e
          exact (HX.out.1.own b e).2 rfl
        have hh5 := hk5.get (hk34.get (hk23.get HI2.out.head id) id) hvb
        obtain ⟨ad5, cap5, rfl, -⟩ := hr5.form
        rw [Hlen.out] at hr5 hk5 hv5
        have hpush := RIs.push (s := s) HX.out.1 hk3 hr3 (fun k e => by
          have h1 := hf4 k e
          have h2 := (HK.out.next hdr (fun _ _ x => x) (fun _ _ x => x) : Keep (fun _ => False) w w2.drew).size
          omega) hk34 hr5 hk5 (fun k e => by
          rcases hv5 with ⟨h0, h1⟩ | ⟨k', h1, h2⟩
          · exact absurd h1 (by omega)
          · rw [e] at h1
            cases h1
            exact h2.imp id fun x => Nat.le_of_eq x.symm)
        clear a0 a1 af
        obtain ⟨a0, a1, af, -⟩ := cells2 hh5
        have HP := hid hpush
        rw [← Hlen.out] at HP
        clear hr5 hk5 hv5 hpush hh5 hvb hrw hnew hk34 hk23 hk3 hr3 hf4 hf3 hdr
        repeat (apply wpC_pure (by rfl); (intro K w'; go_simp; exact id))
        (refine wpC_act (by rfl) (by rfl) (fun K hK => ?_); go_simp; refine hK _ _ ?_; clear hK K)
        refine wpC_nil ?_
        go_wp2
        go_ret
        obtain ⟨F', h1, h2, h3⟩ := HP.out
        refine ⟨by rfl, F', ⟨_, _, _, h1, ?_, Hok2.out⟩, h2, h3⟩
        have hp := HX.out.2.1
        have hbb := below_le g.l s
        refine (List.perm_append_singleton _ _).trans ?_
        show ((s, bs) :: rl).Perm (g.l.take (below g.l s) ++ (s, bs) :: g.l.drop (below g.l s))
        refine (List.Perm.cons _ hp).trans ?_
        have e := List.take_append_drop (below g.l s) g.l
        conv => lhs; rw [← e]
        exact List.perm_middle.symm
end Go.Proofs.Ytnignhfallhblaa
