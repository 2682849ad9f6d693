/- seawalllaw12.RlogOwn's walk. Conditions: as the contract names them. -/
import Derived.Test.YtnignhfallhblaaRlogY
import Derived.Test.YtnignhfallhblaaRlogW
namespace Go.Proofs.Ytnignhfallhblaa
open Go.RowKit
open RM

def Apart (a b : Value) : Prop := ∀ k, a.ownBlock = some k → b.ownBlock ≠ some k
theorem Apart.symm {a b : Value} (h : Apart a b) : Apart b a := fun k x y => h k y x

structure ZRel (w : World) (a : Nat) (L : List (List UInt8)) (n : Nat) (wr : World) : Prop where
  ex : ∃ A g, One w a A g wr ∧ g.ap = 0 ∧ Tells L n g ∧ ∀ s, 0 < s → s ≤ n → Has g.l s

/-- Values that lie between two places of memory, no two of one block. -/
structure Vals (w : World) (u : List (Nat × Value)) (n lo hi : Nat) : Prop where
  len : u.length = n
  each : ∀ i (h : i < u.length), ∃ ao m c xs, u[i].2 = .slice ao m c ∧ m ≤ 100 ∧ Row w 5 1 (.slice ao m c) m xs ∧ ∀ b, (Value.slice ao m c).ownBlock = some b → lo ≤ b ∧ b < hi
  diff : ∀ i j (hi : i < u.length) (hj : j < u.length), i < j → Apart u[i].2 u[j].2
theorem EntsIs.vals {w w6 : World} {v : Value} {es : List Ent} {us : List (Nat × Value)} {lo : Nat} {F : Nat → Prop} (h : EntsIs w v es us (fun k => lo ≤ k)) (hv : ∀ e ∈ es, e.2.length ≤ 100) (hk : Keep F w w6) (hF : ∀ k, lo ≤ k → ¬ F k) : Vals w6 us es.length lo w.heap.size := by
  refine ⟨h.len, fun i hi => ?_, fun i j hi hj hij => List.pairwise_iff_getElem.1 h.diff i j hi hj hij⟩
  have hie : i < es.length := by rw [← h.len]; exact hi
  obtain ⟨ao, c, h1, h2, h3⟩ := h.each i hie
  rw [List.getElem?_eq_getElem hi, Option.map_some, Option.some.injEq] at h1
  exact ⟨ao, _, c, _, h1, hv _ (List.getElem_mem hie), h2.keep hk fun k e => hF k (h3 k e).1, fun b e => ⟨(h3 b e).1, h2.lt e⟩⟩
theorem Vals.own {w : World} {u : List (Nat × Value)} {n lo hi : Nat} (h : Vals w u n lo hi) {i : Nat} (hi' : i < u.length) {b : Nat} (e : u[i].2.ownBlock = some b) : lo ≤ b ∧ b < hi := by
  obtain ⟨ao, m, c, xs, h1, _, _, h4⟩ := h.each i hi'
  rw [h1] at e
  exact h4 b e
theorem Vals.apart {w : World} {u u' : List (Nat × Value)} {n n' lo hi lo' hi' : Nat} (h : Vals w u n lo hi) (h' : Vals w u' n' lo' hi') (hh : hi ≤ lo') {i j : Nat} (h1 : i < u.length) (h2 : j < u'.length) : Apart u[i].2 u'[j].2 := fun k x y => by
  have := h.own h1 x
  have := h'.own h2 y
  omega

/-- All values of three lists, one behind the other. -/
structure PileRel (w0 : World) (ux uy uz : List (Nat × Value)) (v : Value) (k : Nat) (wr : World) : Prop where
  ex : ∃ vs, Row wr 24 1 v (k * 3) vs ∧ vs.Pairwise Apart ∧ (∀ u ∈ vs, ∃ i e, i < k ∧ (ux[i]? = some e ∨ uy[i]? = some e ∨ uz[i]? = some e) ∧ u = e.2) ∧ ∀ b, v.ownBlock = some b → w0.heap.size ≤ b
  keep : Keep (fun _ => False) w0 wr

theorem PileRel.push {w0 wB w' : World} {ux uy uz : List (Nat × Value)} {v v' : Value} {k n l1 h1 l2 h2 l3 h3 : Nat} {vs : List Value} (hX : Vals w0 ux n l1 h1) (hY : Vals w0 uy n l2 h2) (hZ : Vals w0 uz n l3 h3) (hxy : h1 ≤ l2) (hyz : h2 ≤ l3) (hl1 : l1 ≤ h1) (hl2 : l2 ≤ h2)
    (hkn : k < n) (hkB : Keep (fun _ => False) w0 wB) (hd : vs.Pairwise Apart) (hm : ∀ u ∈ vs, ∃ i e, i < k ∧ (ux[i]? = some e ∨ uy[i]? = some e ∨ uz[i]? = some e) ∧ u = e.2) (ho : ∀ b, v.ownBlock = some b → w0.heap.size ≤ b)
    (hr : Row w' 24 1 v' (k * 3 + 3) (vs ++ [(ux[k]'(by rw [hX.len]; exact hkn)).2, (uy[k]'(by rw [hY.len]; exact hkn)).2, (uz[k]'(by rw [hZ.len]; exact hkn)).2])) (hk : Keep (fun b => v.ownBlock = some b) wB w')
    (hv : ∃ b, v'.ownBlock = some b ∧ (v.ownBlock = some b ∨ b = wB.heap.size)) : PileRel w0 ux uy uz v' (k + 1) w' := by
  have kx : k < ux.length := by rw [hX.len]; exact hkn
  have ky : k < uy.length := by rw [hY.len]; exact hkn
  have kz : k < uz.length := by rw [hZ.len]; exact hkn
  have key : ∀ a ∈ vs, Apart a ux[k].2 ∧ Apart a uy[k].2 ∧ Apart a uz[k].2 := fun a ha => by
    obtain ⟨i, e, hi, h, rfl⟩ := hm a ha
    rcases h with h | h | h
    all_goals
      obtain ⟨hil, rfl⟩ := List.getElem?_eq_some_iff.1 h
    · exact ⟨hX.diff i k hil kx hi, hX.apart hY hxy hil ky, hX.apart hZ (by omega) hil kz⟩
    · exact ⟨(hX.apart hY hxy kx hil).symm, hY.diff i k hil ky hi, hY.apart hZ hyz hil kz⟩
    · exact ⟨(hX.apart hZ (by omega) kx hil).symm, (hY.apart hZ hyz ky hil).symm, hZ.diff i k hil kz hi⟩
  refine ⟨⟨_, by rw [Nat.add_mul]; exact hr, ?_, fun u hu => ?_, fun b e => ?_⟩, hkB.next hk (fun _ _ x => x) fun b hb x => by have := ho b x; omega⟩
  · rw [List.pairwise_append]
    refine ⟨hd, ?_, fun a ha b hb => ?_⟩
    · simp only [List.pairwise_cons, List.mem_cons, List.not_mem_nil, or_false]
      refine ⟨fun b hb => ?_, fun b hb => ?_, fun b hb => hb.elim, List.Pairwise.nil⟩
      · rcases hb with rfl | rfl
        · exact hX.apart hY hxy kx ky
        · exact hX.apart hZ (by omega) kx kz
      · subst hb
        exact hY.apart hZ hyz ky kz
    · simp only [List.mem_cons, List.not_mem_nil, or_false] at hb
      obtain ⟨q1, q2, q3⟩ := key a ha
      rcases hb with rfl | rfl | rfl
      · exact q1
      · exact q2
      · exact q3
  · rcases List.mem_append.1 hu with hu | hu
    · obtain ⟨i, e, hi, h, he⟩ := hm u hu
      exact ⟨i, e, by omega, h, he⟩
    · simp only [List.mem_cons, List.not_mem_nil, or_false] at hu
      rcases hu with rfl | rfl | rfl
      · exact ⟨k, _, Nat.lt_succ_self _, .inl (List.getElem?_eq_getElem kx), rfl⟩
      · exact ⟨k, _, Nat.lt_succ_self _, .inr (.inl (List.getElem?_eq_getElem ky)), rfl⟩
      · exact ⟨k, _, Nat.lt_succ_self _, .inr (.inr (List.getElem?_eq_getElem kz)), rfl⟩
  · obtain ⟨b', hb1, hb2⟩ := hv
    rw [e] at hb1
    cases hb1
    rcases hb2 with x | x
    · exact ho b x
    · have := hkB.size; omega

theorem PileRel.lot {w0 wr : World} {ux uy uz : List (Nat × Value)} {v : Value} {k n l1 h1 l2 h2 l3 h3 : Nat} (h : PileRel w0 ux uy uz v k wr) (hX : Vals w0 ux n l1 h1) (hY : Vals w0 uy n l2 h2) (hZ : Vals w0 uz n l3 h3) (b1 : h1 ≤ w0.heap.size) (b2 : h2 ≤ w0.heap.size) (b3 : h3 ≤ w0.heap.size)
    (hl : l1 ≤ l2) (hl2 : l1 ≤ l3) : ∃ c vs ns, Lot c wr v vs (k * 3) ns (fun _ _ => True) ∧ (∀ j, ns j ≤ 100) ∧ ∀ u ∈ vs, ∀ b, u.ownBlock = some b → l1 ≤ b ∧ b < w0.heap.size := by
  obtain ⟨vs, hr, hd, hm, ho⟩ := h.ex
  have get : ∀ u ∈ vs, ∃ ao m c xs, u = .slice ao m c ∧ m ≤ 100 ∧ Row w0 5 1 (.slice ao m c) m xs ∧ ∀ b, (Value.slice ao m c).ownBlock = some b → l1 ≤ b ∧ b < w0.heap.size := fun u hu => by
    obtain ⟨i, e, hi, h, rfl⟩ := hm u hu
    rcases h with h | h | h
    all_goals
      obtain ⟨hil, rfl⟩ := List.getElem?_eq_some_iff.1 h
    · obtain ⟨ao, m, c, xs, q1, q2, q3, q4⟩ := hX.each i hil
      exact ⟨ao, m, c, xs, q1, q2, q3, fun b e => by have := q4 b e; omega⟩
    · obtain ⟨ao, m, c, xs, q1, q2, q3, q4⟩ := hY.each i hil
      exact ⟨ao, m, c, xs, q1, q2, q3, fun b e => by have := q4 b e; omega⟩
    · obtain ⟨ao, m, c, xs, q1, q2, q3, q4⟩ := hZ.each i hil
      exact ⟨ao, m, c, xs, q1, q2, q3, fun b e => by have := q4 b e; omega⟩
  have own : ∀ u ∈ vs, ∀ b, u.ownBlock = some b → l1 ≤ b ∧ b < w0.heap.size := fun u hu b e => by
    obtain ⟨ao, m, c, xs, rfl, _, _, q4⟩ := get u hu
    exact q4 b e
  obtain ⟨c, c1, c2⟩ := colours v vs hd fun u hu b e x => by have := own u hu b e; have := ho b x; omega
  refine ⟨c, vs, fun j => match vs[j]? with | some (.slice _ m _) => m | _ => 0, ⟨hr, fun j hj => ?_, c1, c2⟩, fun j => ?_, own⟩
  · have hjl : j < vs.length := by rw [hr.1]; omega
    obtain ⟨ao, m, cc, xs, q1, _, q3, _⟩ := get _ (List.getElem_mem hjl)
    rw [List.getElem?_eq_getElem hjl, q1]
    exact ⟨_, xs, rfl, q3.keep h.keep fun _ _ x => x, trivial⟩
  · dsimp only
    cases hq : vs[j]? with
    | none => exact Nat.zero_le _
    | some u =>
      obtain ⟨ao, m, cc, xs, rfl, q2, _, _⟩ := get u (List.mem_of_getElem? hq)
      exact q2

theorem One.beside {w wr w' : World} {a : Nat} {A F : Nat → Prop} {g : Lg} (h : One w a A g wr) (hk : Keep F wr w') (hF : ∀ k, F k → ¬ A k ∧ w.heap.size ≤ k) : One w a A g w' :=
  ⟨h.at_.keep hk fun k x y => (hF k y).1 x, h.new, h.keep.next hk (fun _ _ x => x) fun k hk x => by have := (hF k x).2; omega⟩

set_option maxRecDepth 20000 in
set_option maxHeartbeats 4000000 in
theorem own_walk (w : World) (v0 : Value) (L : List (List UInt8)) (h0 : Shelf w v0 L) :
    Calls Try.prog 9 #[v0] w fun e w' => e = .returned (.bool true) ∧ Keep (fun _ => False) w w' := by
  obtain ⟨ao0, c0, rfl, hc0, hm0⟩ := h0.form
  have H0 := hid h0
  clear h0
  obtain ⟨m, hm⟩ : ∃ m, m = L.length := ⟨_, rfl⟩
  rw [← hm] at H0 hc0 ⊢
  have Hm := hid hm
  have hmm : (m : Int) ≤ 9223372036854775807 := by unfold maxLen at hm0; omega
  clear hm hm0 hc0
  go_enter Try.func9, Try.ntmps9
  go_wp2_with (at_builtin; refine stopAt ?_; intro q hq)
  refine (new_any w).mono ?_
  rintro e w1 ⟨a, A, rfl, hLa, hka, hA⟩
  have HS := hid (show ZRel w a L 0 w1 from ⟨A, _, One.make (Keep.refl _ _) hLa hka hA, rfl, fun e he => by simp at he, fun s h1 h2 => by omega⟩)
  clear hLa hka hA
  go_upto_block 0 with fail
  go_cut [4, 5] (fun s4 s5 wx => ∃ n : Nat, n ≤ m ∧ n ≤ 30 ∧ s4 = .int .i64 n ∧ Hid (ZRel w a L n wx))
  case first =>
    go_wp2_with (at_builtin; refine stopAt ?_; intro q hq)
    go_loopw [4, 5] (fun nv iv wr => ∃ n : Nat, n ≤ m ∧ n ≤ 30 ∧ nv = .int .i64 n ∧ iv = .int .i64 n ∧ Hid (ZRel w a L n wr)) (fun _ iv _ => m - (intOf iv).toNat)
    case atStart => exact ⟨0, Nat.zero_le _, Nat.zero_le _, rfl, rfl, HS⟩
    case round =>
      clear HS
      obtain ⟨i, hi, hi2, rfl, rfl, HS⟩ := hrel
      by_cases h1 : i < m
      · have q1 : (i : Int) < m := by omega
        by_cases h2 : i < 30
        · have q2 : (i : Int) < 30 := by omega
          obtain ⟨A, g, hO, hap, ht, hh⟩ := HS.out.ex
          have hiL : i < L.length := by rw [← Hm.out]; exact h1
          obtain ⟨ad0, bo, d, rfl, e0, e1, -⟩ := H0.out.get hO.keep i hiL
          by_cases hl1 : L[i].length ≤ 100
          · obtain ⟨hl2, hl3⟩ := learn_tells (vs := L) (n := i + 1) hO.ok (fun e he => ⟨(ht e he).1, by have := (ht e he).2.1; omega, (ht e he).2.2⟩) (by omega) (Nat.lt_succ_self i) (List.getElem?_eq_getElem hiL) hl1
            have hlearn := learn_any wr a A g (i + 1) bo L[i].length d L[i] hO.at_ e1 (by omega) (by omega)
            have hl4 := learn_ok hl2 (by omega)
            rw [hl2, show (((i + 1 : Nat) : Nat) : Int) = (i : Int) + 1 by omega] at hlearn
            have hl5 : ∀ s, 0 < s → s ≤ i + 1 → Has (RM.learn g (i + 1) L[i]).2.l s := fun s x y => by
              rcases Nat.lt_or_eq_of_le y with y | y
              · exact learn_has _ _ _ (hh s x (by omega))
              · subst y; exact hl4
            have ha2 := (learn_ap g (i + 1) L[i]).trans hap
            obtain ⟨k, hk⟩ : ∃ k, k = L[i].length := ⟨_, rfl⟩
            rw [← hk] at e0 hlearn hl1
            have q5 : decide (100 < k) = false := by simp; omega
            have q6 : decide ((100 : Int) < (k : Int)) = false := by simp; omega
            have q7 : (i : Int) + 1 ≤ 18446744073709551615 := by omega
            have HLn := hid hlearn
            have HX := hid (And.intro hO (And.intro ha2 (And.intro hl3 hl5)))
            clear hlearn e1 hl2 hl3 hO hap ht hh hk hl4 hl5 ha2
            go_wp2_with (at_builtin; refine stopAt ?_; intro q hq)
            refine HLn.out.mono ?_
            rintro e w3 ⟨rfl, ht3⟩
            obtain ⟨hO, hX⟩ := HX.out
            obtain ⟨A3, hO3, -⟩ := hO.to ht3
            have HZ := hid (show ZRel w a L (i + 1) w3 from ⟨A3, _, hO3, hX⟩)
            clear hO ht3 hO3 hX e0
            go_wp2_with (at_builtin; refine stopAt ?_; intro q hq)
            exact ⟨⟨i + 1, by omega, by omega, by go_num, by go_num, HZ⟩, by simp [intOf]; omega⟩
          · obtain ⟨k, hk⟩ : ∃ k, k = L[i].length := ⟨_, rfl⟩
            rw [← hk] at e0 hl1
            have q5 : decide (100 < k) = true := by simp; omega
            have q6 : (100 : Int) < (k : Int) := by omega
            have HK1 := hid hO.keep
            clear e1 hO hap ht hh hk HS
            go_wp2_with (at_builtin; refine stopAt ?_; intro q hq)
            refine (known_any _).mono ?_
            rintro e w9 ⟨rfl, hk9⟩
            have HK := hid (HK1.out.next hk9 (fun _ _ x => x) (fun _ _ x => x))
            clear hk9 e0
            go_wp2_with (at_builtin; refine stopAt ?_; intro q hq)
            go_ret
            exact ⟨by first | rfl | trivial, HK.out⟩
        · have q2 : decide ((i : Int) < 30) = false := by simp; omega
          go_wp2_with (at_builtin; refine stopAt ?_; intro q hq)
          go_meet
          exact ⟨i, hi, hi2, rfl, HS⟩
      · have q1 : decide ((i : Int) < (m : Int)) = false := by simp; omega
        go_wp2_with (at_builtin; refine stopAt ?_; intro q hq)
        go_meet
        exact ⟨i, hi, hi2, rfl, HS⟩
  case rest =>
    clear HS
    obtain ⟨n, hnm, hn30, rfl, HS⟩ := hcut
    obtain ⟨A, g, hO, hap, ht, hh⟩ := HS.out.ex
    have hrs := hO.ok.rising
    obtain ⟨al1, al2⟩ := RM.all_there (most := 100) hrs ht hh (by omega) (by rw [← Hm.out]; exact hnm)
    have hnx : IsNext g (n + 1) := ⟨by omega, fun s h1 h2 => hh s (by omega) (by omega), fun ⟨v, h⟩ => by have := (ht _ h).2.1; simp only at this; omega⟩
    obtain ⟨r1, r2⟩ := rest_next 300 hrs hnx
    have r1' : (RM.rest 300 g).1.length = n := by rw [r1, hap]; omega
    have r2' : (RM.rest 300 g).2.l = g.l := by rw [r2]
    have hv1 : ∀ e ∈ RM.catch_ g 1 100, e.2.length ≤ 100 := fun e he => by
      obtain ⟨i, hi, rfl⟩ := List.getElem_of_mem he
      exact hO.ok.vals _ ((catch_spec g 1 100).2 i hi).1
    have hv2 : ∀ e ∈ (RM.rest 300 g).1, e.2.length ≤ 100 := fun e he => by
      obtain ⟨i, hi, rfl⟩ := List.getElem_of_mem he
      exact hO.ok.vals _ (RM.rest_mem 300 g i hi).1
    have hcc : RM.catch_ (RM.rest 300 g).2 1 100 = RM.catch_ g 1 100 := by unfold RM.catch_; rw [r2']
    obtain ⟨es, hes⟩ : ∃ es, es = RM.catch_ g 1 100 := ⟨_, rfl⟩
    have al2' : ∀ i (hi : i < es.length) (hl : i < L.length), es[i] = (i + 1, L[i]) := by rw [hes]; exact al2
    rw [← hes] at al1 hv1 hcc
    have hlt := hO.at_.lt
    have HF := hid (And.intro al1 (And.intro al2' (And.intro r1' (And.intro hv1 (And.intro hv2 (And.intro hcc (And.intro hes (And.intro hlt hO.keep.size))))))))
    have HO := hid hO
    clear al1 al2 al2' hnx r1 r2 r1' r2' hv1 hv2 hcc hO hap ht hh hrs HS hes hlt
    go_wp2_with (at_builtin; refine stopAt ?_; intro q hq)
    refine (catch_any wc a A g 1 100 HO.out.at_ (by decide) (by decide) (by decide)).mono ?_
    rintro e w3 ⟨vx, ux, rfl, hEx, hkx⟩
    rw [← HF.out.2.2.2.2.2.2.1] at hEx
    obtain ⟨aox, cx, rfl, -⟩ := hEx.row.form
    rw [HF.out.1] at hEx ⊢
    have HEx := hid (And.intro hEx hkx)
    have HO3 := hid (HO.out.read hkx)
    clear hEx hkx
    go_wp2_with (at_builtin; refine stopAt ?_; intro q hq)
    refine (catch_any w3 a A g 1 100 HO3.out.at_ (by decide) (by decide) (by decide)).mono ?_
    rintro e w4 ⟨vy, uy, rfl, hEy, hky⟩
    rw [← HF.out.2.2.2.2.2.2.1] at hEy
    obtain ⟨aoy, cy, rfl, -⟩ := hEy.row.form
    rw [HF.out.1] at hEy ⊢
    have HEy := hid (And.intro hEy hky)
    have HO4 := hid (HO3.out.read hky)
    clear hEy hky
    go_wp2_with (at_builtin; refine stopAt ?_; intro q hq)
    refine (rest_any w4 a A g HO4.out.at_).mono ?_
    rintro e w5 ⟨vz, uz, rfl, hEz, hLz, hkz⟩
    obtain ⟨aoz, cz, rfl, -⟩ := hEz.row.form
    rw [HF.out.2.2.1] at hEz ⊢
    have HO5 := hid (HO4.out.same hLz hkz)
    have hsx := HEx.out.2.size
    have hsy := HEy.out.2.size
    have hsz := hkz.size
    have hnA : ∀ k, wc.heap.size ≤ k → ¬ A k := fun k h x => by have := HF.out.2.2.2.2.2.2.2.1 k x; omega
    have HRow := hid (And.intro ((HEx.out.1.keep HEy.out.2 fun _ _ x => x).keep hkz fun k e x => hnA k e x).row (And.intro (HEy.out.1.keep hkz fun k e x => hnA k (by omega) x).row hEz.row))
    have HV := hid (show Vals w5 ux n wc.heap.size w3.heap.size ∧ Vals w5 uy n w3.heap.size w4.heap.size ∧ Vals w5 uz n w4.heap.size w5.heap.size from by
      have q1 := HEx.out.1.vals HF.out.2.2.2.1 (HEy.out.2.next hkz (H := A) (fun _ _ x => x.elim) (fun _ _ x => x)) (fun k h => hnA k h)
      have q2 := HEy.out.1.vals HF.out.2.2.2.1 hkz (fun k h => hnA k (by omega))
      have q3 := hEz.vals HF.out.2.2.2.2.1 (Keep.refl (fun _ => False) _) (fun _ _ x => x)
      rw [HF.out.1] at q1 q2
      rw [HF.out.2.2.1] at q3
      exact ⟨q1, q2, q3⟩)
    have HSz := hid (And.intro hsx (And.intro hsy (And.intro hsz hnA)))
    clear hEz hLz hkz hsx hsy hsz hnA HEx HEy HO3 HO4 HO
    go_wp2_with (at_builtin; refine stopAt ?_; intro q hq)
    go_loopw [9, 10] (fun av iv wr => ∃ k : Nat, k ≤ n ∧ iv = .int .i64 k ∧ Hid (PileRel w5 ux uy uz av k wr)) (fun _ iv _ => n - (intOf iv).toNat)
    case atStart => exact ⟨0, Nat.zero_le _, rfl, hid ⟨⟨[], Row.nil _ _ _, List.Pairwise.nil, fun u hu => by simp at hu, fun b e => by simp [Value.ownBlock] at e⟩, Keep.refl _ _⟩⟩
    case round =>
      obtain ⟨k, hk, rfl, HP⟩ := hrel
      by_cases hkn : k < n
      · have q1 : (k : Int) < n := by omega
        obtain ⟨hX, hY, hZ⟩ := HV.out
        have kx : k < ux.length := by rw [hX.len]; exact hkn
        have ky : k < uy.length := by rw [hY.len]; exact hkn
        have kz : k < uz.length := by rw [hZ.len]; exact hkn
        obtain ⟨g1, p1, e1, -, c1⟩ := ent_at (HRow.out.1.keep HP.out.keep fun _ _ x => x) k kx
        obtain ⟨g2, p2, e2, -, c2⟩ := ent_at (HRow.out.2.1.keep HP.out.keep fun _ _ x => x) k ky
        obtain ⟨g3, p3, e3, -, c3⟩ := ent_at (HRow.out.2.2.keep HP.out.keep fun _ _ x => x) k kz
        obtain ⟨rfl, -, rfl⟩ : aox = some ⟨g1, 0, none⟩ ∧ n = _ ∧ cx = p1 := by simpa using e1
        obtain ⟨rfl, -, rfl⟩ : aoy = some ⟨g2, 0, none⟩ ∧ n = _ ∧ cy = p2 := by simpa using e2
        obtain ⟨rfl, -, rfl⟩ : aoz = some ⟨g3, 0, none⟩ ∧ n = _ ∧ cz = p3 := by simpa using e3
        obtain ⟨a1, m1, d1, -, f1, -⟩ := hX.each k kx
        obtain ⟨a2, m2, d2, -, f2, -⟩ := hY.each k ky
        obtain ⟨a3, m3, d3, -, f3, -⟩ := hZ.each k kz
        rw [f1] at c1
        rw [f2] at c2
        rw [f3] at c3
        have HU := hid (And.intro f1 (And.intro f2 f3))
        clear hX hY hZ e1 e2 e3 f1 f2 f3
        go_wp2_with (at_builtin; refine stopAt ?_; intro q hq)
        refine wp_region_canon [] (by kernel_rfl) (by kernel_rfl) ?_
        repeat (first | (apply wpC_pure (by rfl); (intro K w'; go_simp; exact id)) | (apply wpC_load (by rfl); (intro K; go_simp; exact id)))
        (refine wpC_new (by rfl) (by rfl) (fun K hK => ?_); go_simp; refine hK _ _ (Pre.push _ rfl) ?_; clear hK K)
        clear c1 c2 c3
        obtain ⟨vs, hr, hd, hm, ho⟩ := HP.out.ex
        have hB : (wr.alloc (.cells #[.slice a1 m1 d1, .slice a2 m2 d2, .slice a3 m3 d3] 24)).drew.heap[wr.heap.size]? = _ := heap_alloc_new wr (.cells #[.slice a1 m1 d1, .slice a2 m2 d2, .slice a3 m3 d3] 24)
        have kB : Keep (fun _ => False) wr (wr.alloc (.cells #[.slice a1 m1 d1, .slice a2 m2 d2, .slice a3 m3 d3] 24)).drew := ((Keep.refl _ _).alloc _).drew
        obtain ⟨wB, hwB⟩ : ∃ wB, wB = (wr.alloc (.cells #[.slice a1 m1 d1, .slice a2 m2 d2, .slice a3 m3 d3] 24)).drew := ⟨_, rfl⟩
        rw [← hwB] at hB kB ⊢
        have hev : Cells wB (some ⟨wr.heap.size, 0, none⟩) 3 1 [.slice a1 m1 d1, .slice a2 m2 d2, .slice a3 m3 d3] := ⟨rfl, fun _ => ⟨_, rfl, fun j u hu => by rw [addr_add, Nat.zero_add, cell_of_row _ _ _ _ _ _ hB]; simpa using hu⟩⟩
        refine wpC_act (by rfl) (by rfl) (fun K hK => ?_)
        refine wp_append ty_lists (.tmp 60) (.tmp 76) rfl rfl (hr.keep kB fun _ _ x => x) (some ⟨wr.heap.size, 0, none⟩) 3 3 [.slice a1 m1 d1, .slice a2 m2 d2, .slice a3 m3 d3] rfl hev (by intro u hu; simp only [List.mem_cons, List.not_mem_nil, or_false] at hu; rcases hu with rfl | rfl | rfl <;> rfl) (by unfold maxLen; omega) (by omega) ?_
        intro v6 w6 hr6 hk6 hv6
        refine hK _ _ ?_
        clear hK K
        have HZ := hid (show PileRel w5 ux uy uz v6 (k + 1) w6 from by
          obtain ⟨hX, hY, hZ⟩ := HV.out
          obtain ⟨f1, f2, f3⟩ := HU.out
          rw [← f1, ← f2, ← f3] at hr6
          exact PileRel.push hX hY hZ (Nat.le_refl _) (Nat.le_refl _) HSz.out.1 HSz.out.2.1 hkn (HP.out.keep.next kB (fun _ _ x => x) (fun _ _ x => x)) hd hm ho hr6 hk6 (hv6.resolve_left fun h => by omega))
        obtain ⟨ao6, c6, rfl, -⟩ := hr6.form
        clear hr6 hk6 hv6 hev hB kB hwB hr hd hm ho
        repeat (apply wpC_pure (by rfl); (intro K w'; go_simp; exact id))
        refine wpC_nil ?_
        go_wp2_with (at_builtin; refine stopAt ?_; intro q hq)
        go_roundw
        case rel => exact ⟨k + 1, by omega, by go_num, HZ⟩
        case measure => simp [intOf]; omega
      · have q1 : decide ((k : Int) < (n : Int)) = false := by simp; omega
        obtain rfl : k = n := by omega
        have hlot := HP.out.lot HV.out.1 HV.out.2.1 HV.out.2.2 (by have := HSz.out; omega) (by have := HSz.out; omega) (Nat.le_refl _) (by have := HSz.out; omega) (by have := HSz.out; omega)
        obtain ⟨c, vs, ns, lot, hns, hbl⟩ := hlot
        have HL := hid (And.intro lot (And.intro hns hbl))
        clear lot hns hbl
        have hfr := HP.out.ex
        obtain ⟨_, hrow, -⟩ := hfr
        obtain ⟨aop, cp, rfl, -⟩ := hrow.form
        clear hrow
        go_wp2_with (at_builtin; refine stopAt ?_; intro q hq)
        refine (own_any wr c _ vs (k * 3) ns HL.out.1 (by omega) (fun j => Nat.le_trans (HL.out.2.1 j) (by decide))).mono ?_
        rintro e w7 ⟨rfl, hk7⟩
        have HO7 := hid ((HO5.out.read HP.out.keep).beside hk7 fun b ⟨u, hu, e⟩ => by
          have hb := (HL.out.2.2 u hu b e).1
          exact ⟨HSz.out.2.2.2 b hb, Nat.le_trans HF.out.2.2.2.2.2.2.2.2 hb⟩)
        clear hk7 HL
        go_wp2_with (at_builtin; refine stopAt ?_; intro q hq)
        refine (catch_any w7 a A _ 1 100 HO7.out.at_ (by decide) (by decide) (by decide)).mono ?_
        rintro e w8 ⟨vq, uq, rfl, hEq, hkq⟩
        rw [HF.out.2.2.2.2.2.1] at hEq
        obtain ⟨aoq, cq, rfl, -⟩ := hEq.row.form
        rw [HF.out.1] at hEq ⊢
        have HE := hid hEq
        have HO8 := hid (HO7.out.read hkq)
        clear hEq hkq
        go_wp2_with (at_builtin; refine stopAt ?_; intro q hq)
        go_loopw [12] (fun iv w' => ∃ i : Nat, i ≤ k ∧ iv = .int .i64 i ∧ Hid (Keep (fun _ => False) w8 w')) (fun iv _ => k - (intOf iv).toNat)
        case atStart => exact ⟨0, Nat.zero_le _, rfl, hid (Keep.refl _ _)⟩
        case round =>
          obtain ⟨r, hr, rfl, HK⟩ := hrel
          by_cases hrl : r < k
          · have q1 : (r : Int) < k := by omega
            have hrl' : r < es.length := by rw [HF.out.1]; exact hrl
            have hrL : r < L.length := by rw [← Hm.out]; omega
            obtain ⟨gr, cap', ao, c, hv, e0, e1, e2⟩ := (HE.out.keep HK.out (fun _ _ x => x)).ent r hrl'
            obtain ⟨rfl, -, rfl⟩ : aoq = some ⟨gr, 0, none⟩ ∧ k = _ ∧ cq = cap' := by simpa using hv
            rw [HF.out.2.1 r hrl' hrL] at e1 e2
            obtain ⟨ad0, bo, d, rfl, b0, b1, -⟩ := H0.out.get (HO8.out.keep.next HK.out (fun _ _ x => x) (fun _ _ x => x)) r hrL
            have hsame := fun s : Later wr => same_any s.val ao bo L[r].length L[r].length c d L[r] L[r] (e2.keep s.keep fun _ _ x => x) (b1.keep s.keep fun _ _ x => x)
            rw [decide_eq_true rfl] at hsame
            have q3 : (r : Int) < (m : Int) := by have := Hm.out; omega
            obtain ⟨k2, hk2⟩ : ∃ k, k = L[r].length := ⟨_, rfl⟩
            dsimp only at e1
            rw [← hk2] at b0 hsame e1
            have Hsame := hid (fun s : Later wr => (hsame s).mono fun e w' (h : e = .returned (.bool true) ∧ s.val = w') => (⟨h.1, h.2 ▸ Keep.refl _ _⟩ : e = .returned (.bool true) ∧ Keep (fun _ => False) s.val w'))
            have f1 := fun s : Later wr => s.cell e1
            have g0 := fun s : Later wr => s.cell b0
            clear e0 e1 e2 b0 b1 hsame hk2 hv
            go_wp2_with (at_builtin; refine stopAt ?_; intro q hq)
            (refine wp_region_later (by kernel_rfl) (by kernel_rfl) ?_; (repeat (go_big_quiet_step ((go_at_call 15; exact Later.call (Hsame.out _))))); refine wpQuiet_nil ?_; rintro _ ⟨sq, rfl⟩)
            go_wp2_with (at_builtin; refine stopAt ?_; intro q hq)
            exact ⟨⟨r + 1, by omega, by go_num, hid (HK.out.next sq.keep (fun _ _ x => x) (fun _ _ x => x))⟩, by simp [intOf]; omega⟩
          · have q1 : decide ((r : Int) < (k : Int)) = false := by simp; omega
            have HK1 := hid (HO8.out.keep.next HK.out (fun _ _ x => x) (fun _ _ x => x))
            clear HK
            go_wp2_with (at_builtin; refine stopAt ?_; intro q hq)
            refine (nil_apply _).mono ?_
            rintro e x1 ⟨rfl, hk9⟩
            have HK1 := hid (HK1.out.next hk9 (fun _ _ x => x) (fun _ _ x => x))
            clear hk9
            go_wp2_with (at_builtin; refine stopAt ?_; intro q hq)
            have HK1 := hid (HK1.out.alloc (.cells #[.int .u64 0, .slice none 0 0] 32))
            obtain ⟨x2, hx2⟩ : ∃ x, x = x1.alloc (.cells #[.int .u64 0, .slice none 0 0] 32) := ⟨_, rfl⟩
            rw [← hx2] at HK1 ⊢
            clear hx2
            refine (nil_learn _).mono ?_
            rintro e x3 ⟨rfl, hk9⟩
            have HK1 := hid (HK1.out.next hk9 (fun _ _ x => x) (fun _ _ x => x))
            clear hk9
            go_wp2_with (at_builtin; refine stopAt ?_; intro q hq)
            refine (nil_applied _).mono ?_
            rintro e x4 ⟨rfl, hk9⟩
            have HK1 := hid (HK1.out.next hk9 (fun _ _ x => x) (fun _ _ x => x))
            clear hk9
            go_wp2_with (at_builtin; refine stopAt ?_; intro q hq)
            refine (nil_next _).mono ?_
            rintro e x5 ⟨rfl, hk9⟩
            have HK1 := hid (HK1.out.next hk9 (fun _ _ x => x) (fun _ _ x => x))
            clear hk9
            go_wp2_with (at_builtin; refine stopAt ?_; intro q hq)
            refine (nil_top _).mono ?_
            rintro e x6 ⟨rfl, hk9⟩
            have HK1 := hid (HK1.out.next hk9 (fun _ _ x => x) (fun _ _ x => x))
            clear hk9
            go_wp2_with (at_builtin; refine stopAt ?_; intro q hq)
            refine (nil_holes _).mono ?_
            rintro e x7 ⟨rfl, hk9⟩
            have HK1 := hid (HK1.out.next hk9 (fun _ _ x => x) (fun _ _ x => x))
            clear hk9
            go_wp2_with (at_builtin; refine stopAt ?_; intro q hq)
            refine (nil_catch _).mono ?_
            rintro e x8 ⟨rfl, hk9⟩
            have HK1 := hid (HK1.out.next hk9 (fun _ _ x => x) (fun _ _ x => x))
            clear hk9
            go_wp2_with (at_builtin; refine stopAt ?_; intro q hq)
            refine (nil_trim _).mono ?_
            rintro e x9 ⟨rfl, hk9⟩
            have HK1 := hid (HK1.out.next hk9 (fun _ _ x => x) (fun _ _ x => x))
            clear hk9
            go_wp2_with (at_builtin; refine stopAt ?_; intro q hq)
            refine (nil_install _).mono ?_
            rintro e x10 ⟨rfl, hk9⟩
            have HK1 := hid (HK1.out.next hk9 (fun _ _ x => x) (fun _ _ x => x))
            clear hk9
            go_wp2_with (at_builtin; refine stopAt ?_; intro q hq)
            refine (known_any _).mono ?_
            rintro e w9 ⟨rfl, hk9⟩
            have HK := hid (HK1.out.next hk9 (fun _ _ x => x) (fun _ _ x => x))
            clear hk9
            go_wp2_with (at_builtin; refine stopAt ?_; intro q hq)
            go_ret
            exact ⟨by first | rfl | trivial, HK.out⟩
end Go.Proofs.Ytnignhfallhblaa
