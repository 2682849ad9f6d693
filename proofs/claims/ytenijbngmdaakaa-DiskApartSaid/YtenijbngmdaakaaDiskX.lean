/- DiskApart: the walk. Conditions: none but that the arguments are acts. -/
import Derived.Test.YtenijbngmdaakaaDiskP
import Derived.Test.YtenijbngmdaakaaRefK
import Derived.Test.YtenijbngmdaakaaOwn
namespace Go.Proofs.Ytenijbngmdaakaa
open Go.ChangeShapes Go.WideShapes Go.RowKit Go.Deep
open DM

theorem nil_arm (w : World) (n : Int) : Calls Try.prog 16 #[.pointer none, .int .i64 n] w fun e w' => e = .returned (.tuple #[]) ∧ w = w' := by
  go_enter Try.func16, Try.ntmps16
  go_wp2
  go_end0
  exact ⟨rfl, rfl⟩
theorem nil_up (w : World) : Calls Try.prog 17 #[.pointer none] w fun e w' => e = .returned (.bool false) ∧ w = w' := by
  go_enter Try.func17, Try.ntmps17
  go_wp2
  go_ret
  exact ⟨rfl, rfl⟩
theorem nil_waiting (w : World) : Calls Try.prog 22 #[.pointer none] w fun e w' => e = .returned (.int .i64 0) ∧ w = w' := by
  go_enter Try.func22, Try.ntmps22
  go_wp2
  go_ret
  exact ⟨rfl, rfl⟩
theorem nil_sectors (w : World) : Calls Try.prog 27 #[.pointer none] w fun e w' => e = .returned (.int .i64 0) ∧ w = w' := by
  go_enter Try.func27, Try.ntmps27
  go_wp2
  go_ret
  exact ⟨rfl, rfl⟩

theorem SliceOf.keep {α : Type} {w w' : World} {size : Nat} {R : List Value → α → Prop} {v : Value} {l : List α} (h : SliceOf w size R v l) (hk : Keep (fun _ => False) w w') : SliceOf w' size R v l := by
  obtain ⟨ao, c, h1, h2, h3, h4⟩ := h
  refine ⟨ao, c, h1, h2, h3, fun hp => ?_⟩
  obtain ⟨ad, h5, h6⟩ := h4 hp
  refine ⟨ad, h5, fun i hi => ?_⟩
  obtain ⟨cs, h7, h8, h9⟩ := h6 i hi
  refine ⟨cs, h7, h8, fun j u hu => ?_⟩
  have := h9 j u hu
  rw [World.cell?_of_block (hk.block _ (World.block_lt_of_cell? w _ this) id)]
  exact this

/-- One row more, that is new. -/
theorem Lot.grow {c : Nat → Nat} {w w1 w2 : World} {v v' u : Value} {vs xs : List Value} {n m : Nat} {ns : Nat → Nat} (L : Lot c w v vs n ns (fun _ _ => True)) (hk1 : Keep (fun _ => False) w w1)
    (hu : Row w1 5 1 u m xs) (hf : ∀ k, u.ownBlock = some k → w.heap.size ≤ k) (hr : Row w2 22 1 v' (n + 1) (vs ++ [u])) (hk : Keep (fun k => v.ownBlock = some k) w1 w2)
    (hv : ∃ b, v'.ownBlock = some b ∧ (v.ownBlock = some b ∨ b = w1.heap.size)) : ∃ c', Lot c' w2 v' (vs ++ [u]) (n + 1) (fun j => if j = n then m else ns j) (fun _ _ => True) := by
  obtain ⟨b, hb, hv⟩ := hv
  have hl : vs.length = n := by have := L.row.1; omega
  have hs := hk1.size
  obtain ⟨c', c0, c1, c2⟩ : ∃ c' : Nat → Nat, c' w1.heap.size = 0 ∧ (∀ y, w.heap.size ≤ y → y < w1.heap.size → c' y = n + 2) ∧ ∀ y, y < w.heap.size → c' y = c y :=
    ⟨fun y => if y = w1.heap.size then 0 else if w.heap.size ≤ y then n + 2 else c y, if_pos rfl, fun y h1 h2 => by simp only []; rw [if_neg (by omega), if_pos h1], fun y h => by simp only []; rw [if_neg (by omega), if_neg (by omega)]⟩
  refine ⟨c', hr, fun j hj => ?_, fun k e => ?_, fun j x k hx e => ?_⟩
  · by_cases hjn : j = n
    · subst hjn
      refine ⟨u, xs, by rw [List.getElem?_append_right (by omega)]; simp [hl], ?_, trivial⟩
      rw [if_pos rfl]
      exact hu.keep hk fun k e z => by have := hf k e; have := L.row.lt z; omega
    · obtain ⟨x, ys, h1, h2, _⟩ := L.each j (by omega)
      refine ⟨x, ys, by rw [List.getElem?_append_left (by omega)]; exact h1, ?_, trivial⟩
      rw [if_neg hjn]
      refine (h2.keep hk1 fun _ _ x => x).keep hk fun k e z => ?_
      have g1 := L.ce j x k h1 e
      have g2 := L.cv k z
      omega
  · have e' : k = b := by rw [hb] at e; exact (Option.some.inj e).symm
    rw [e']
    rcases hv with hv | hv
    · rw [c2 b (L.row.lt hv)]
      exact L.cv b hv
    · rw [hv]
      exact c0
  · by_cases hjn : j < n
    · rw [List.getElem?_append_left (by omega)] at hx
      obtain ⟨x', ys, h1, h2, _⟩ := L.each j hjn
      rw [hx] at h1
      cases h1
      rw [c2 k (h2.lt e)]
      exact L.ce j x k hx e
    · have hj : j = n := by have := (List.getElem?_eq_some_iff.1 hx).1; simp at this; omega
      subst hj
      rw [List.getElem?_append_right (by omega)] at hx
      simp [hl] at hx
      subst hx
      exact c1 k (hf k e) (hu.lt e)

structure ApRel (w3 : World) (b2 : Nat) (n : Nat) (k : Nat) (wr : World) : Prop where
  ex : ∃ F E, Own w3 b2 F E wr ∧ E.waits.length ≤ n + k

/-- What was told, all of it new since w4. -/
structure ToldRel (w4 : World) (k : Nat) (v : Value) (wr : World) : Prop where
  ex : ∃ c vs ns, Lot c wr v vs k ns (fun _ _ => True) ∧ (∀ j, ns j ≤ 32) ∧ (∀ b, v.ownBlock = some b → w4.heap.size ≤ b) ∧ ∀ u ∈ vs, ∀ b, u.ownBlock = some b → w4.heap.size ≤ b
  keep : Keep (fun _ => False) w4 wr

theorem read_len {D : Dk} (h : Ok D) (at_ : Int) : (DM.read D at_).1.length ≤ 32 := by
  unfold DM.read
  split
  · simp
  · split
    · simp
    · rename_i h1
      have hl : at_.toNat < (now D).length := by rw [now_length]; omega
      have := h.now _ (List.getElem_mem hl)
      simp [List.getD, hl, this]

set_option maxRecDepth 20000 in
set_option maxHeartbeats 4000000 in
theorem apart_walk (w : World) (v : Value) (l : List Act3) (hl : Acts w v l) (vm : Value) (lm : List Act3) (hlm : Acts w vm lm) :
    Calls Try.prog 8 #[v, vm] w fun e w' => e = .returned (.bool true) ∧ Keep (fun _ => False) w w' := by
  obtain ⟨ao, c, rfl, hlc, hcm⟩ := hl.form
  obtain ⟨aom, cm, rfl, hlcm, hcmm⟩ := hlm.form
  have HL := hid hl
  have HLM := hid hlm
  clear hl hcm hlm hcmm
  obtain ⟨m, hm⟩ : ∃ m, m = l.length := ⟨_, rfl⟩
  rw [← hm] at HL hlc ⊢
  have Hm := hid hm
  clear hm
  obtain ⟨mm, hm⟩ : ∃ m, m = lm.length := ⟨_, rfl⟩
  rw [← hm] at HLM hlcm ⊢
  have Hmm := hid hm
  clear hm
  go_enter Try.func8, Try.ntmps8
  go_wp2_with (at_builtin; refine stopAt ?_; intro q hq)
  refine (new_any w 4 (by decide) (by decide)).mono ?_
  rintro e w1 ⟨b, F1, rfl, hD1, hk1, hF1⟩
  have Hd := hid (And.intro hD1 (And.intro hk1 hF1))
  clear hD1 hk1 hF1
  go_wp2_with (at_builtin; refine stopAt ?_; intro q hq)
  refine (ref_new w1 4 (by decide) (by decide)).mono ?_
  rintro e w2 ⟨c', G1, rfl, hD2, hk2, hF2⟩
  obtain ⟨hD1, hk1, hF1⟩ := Hd.out
  have P1 : Pair w b c' F1 G1 (DM.new 4) (DM.new 4) w2 := ⟨hD1.keep hk2 (fun _ _ x => x), hD2, fun k x y => by have := hD1.lt k x; have := hF2 k y; omega,
    fun k x => x.elim (hF1 k) fun x => Nat.le_trans hk1.size (hF2 k x), hk1.next hk2 (fun _ _ x => x) fun _ _ x => x⟩
  have HR1 := hid (PlRel.mk (k := 0) ⟨_, _, _, P1, by simp [DM.new]⟩)
  clear P1 hD2 hk2 hF2 hD1 hk1 hF1 Hd
  go_wp2_with (at_builtin; refine stopAt ?_; intro q hq)
  go_loopw [9] (fun i wr => ∃ k : Nat, k ≤ m ∧ k ≤ 60 ∧ i = .int .i64 k ∧ Hid (PlRel w b c' k wr)) (fun i _ => 60 - (intOf i).toNat)
  case atStart => exact ⟨0, Nat.zero_le _, Nat.zero_le _, rfl, HR1⟩
  case round =>
    clear HR1
    obtain ⟨k, hk, hk60, rfl, HR⟩ := hrel
    by_cases hgo : k < m ∧ k < 60
    · have h2 : (k : Int) < m := by omega
      have h1 : (k : Int) < 60 := by omega
      have hkl : k < l.length := by rw [← Hm.out]; exact hgo.1
      obtain ⟨F, G, D, P, hw⟩ := HR.out.ex
      obtain ⟨ad, kv, rfl, hrow, hkv, b0, b1, b2⟩ := Acts.row HL.out P.keep k hkl
      have Hrow := hid hrow
      clear hrow
      have hgo1 := hgo.1
      have hgo2 := hgo.2
      clear hgo
      go_wp2_with (first | (at_builtin; refine stopAt ?_; intro q hq) | (refine stopOp (.load 37 _) rfl ?_; intro q hq))
      (refine hq.out ?_; clear hq q)
      refine wpList_plain rfl (fun K hK => ?_)
      refine wp_load_any 37 (.tmp 52) rfl (ad.add (k * 5)) rfl _ Hrow.out _ Try.underlying37 rfl (by kernel_rfl) ?_
      refine hK _ _ ?_
      clear hK K
      go_wp2_with (at_builtin; refine stopAt ?_; intro q hq)
      have hpl := play_any w wr b c' F G D D l[k] kv P hkv b0 b1 b2 (by omega) (by omega)
      rw [show decide (codeD D l[k] = codeD D l[k]) = true by simp] at hpl
      refine hpl.mono ?_
      rintro e w3 ⟨rfl, F3, G3, P3⟩
      have hst := stepD_waits D l[k]
      have P4 := hid (PlRel.mk (k := k + 1) ⟨F3, G3, _, P3, by omega⟩)
      clear hpl hkv P P3
      go_wp2_with (at_builtin; refine stopAt ?_; intro q hq)
      go_roundw
      case rel => exact ⟨k + 1, by omega, by omega, by go_num, P4⟩
      case measure => simp [intOf]; omega
    · obtain ⟨F, G, D, P, hw⟩ := HR.out.ex
      have HP := hid P
      clear P
      have hw60 : D.waits.length ≤ 60 := by omega
      clear hw
      have cut : (¬ (k : Int) < m) ∨ ((k : Int) < m ∧ ¬ (k : Int) < 60) := by omega
      clear hgo
      rcases cut with c1 | ⟨c0, c1⟩
      all_goals
        go_wp2_with (at_builtin; refine stopAt ?_; intro q hq)
        refine (clone_any wr b F D HP.out.one (by omega)).mono ?_
        rintro e w3 ⟨b2, F2, rfl, hC, hkC, hFC⟩
        have O2 : Own wr b2 F2 D w3 := ⟨hC, hFC, hkC⟩
        have HR2 := hid (ApRel.mk (n := 60) (k := 0) ⟨F2, D, O2, by omega⟩)
        clear hC hkC hFC O2
        go_wp2_with (at_builtin; refine stopAt ?_; intro q hq)
        obtain ⟨wq, hwq⟩ : ∃ wq, wq = wr := ⟨_, rfl⟩
        subst hwq
        go_loopw [12] (fun i wr => ∃ j : Nat, j ≤ mm ∧ j ≤ 60 ∧ i = .int .i64 j ∧ Hid (ApRel wq b2 60 j wr)) (fun i _ => 60 - (intOf i).toNat)
        case atStart => exact ⟨0, Nat.zero_le _, Nat.zero_le _, rfl, HR2⟩
        case round =>
          clear HR2
          obtain ⟨j, hj, hj60, rfl, HR2⟩ := hrel
          by_cases hgo : j < mm ∧ j < 60
          · have h2 : (j : Int) < mm := by omega
            have h1 : (j : Int) < 60 := by omega
            have hjl : j < lm.length := by rw [← Hmm.out]; exact hgo.1
            have hgo1 := hgo.1
            have hgo2 := hgo.2
            clear hgo
            go_wp2_with (at_builtin; refine stopAt ?_; intro q hq)
            obtain ⟨F2, E, O2, hE⟩ := HR2.out.ex
            have hK2 := O2.keep
            refine (ref_clone wr c' G D (HP.out.two.keep hK2 (fun _ _ x => x)) (by omega)).mono ?_
            rintro e w4 ⟨ck, Gk, rfl, hC, hkC, hFC⟩
            have P4 : Pair wq b2 ck F2 Gk E D w4 := ⟨O2.at_.keep hkC (fun _ _ x => x), hC, fun k x y => by have := O2.at_.lt k x; have := hFC k y; omega,
              fun k x => x.elim (O2.new k) fun x => Nat.le_trans hK2.size (hFC k x), hK2.next hkC (fun _ _ x => x) fun _ _ x => x⟩
            obtain ⟨ad, kv, had, hrow, hkv, b0, b1, b3⟩ := Acts.row HLM.out (HP.out.keep.next P4.keep (fun _ _ x => x) (fun _ _ x => x)) j hjl
            subst had
            have hkv2 := SliceOf.keep hkv HP.out.keep
            have Hrow := hid hrow
            clear hrow hkv hC hkC hFC O2 hK2
            go_wp2_with (first | (at_builtin; refine stopAt ?_; intro q hq) | (refine stopOp (.load 37 _) rfl ?_; intro q hq))
            (refine hq.out ?_; clear hq q)
            refine wpList_plain rfl (fun K hK => ?_)
            refine wp_load_any 37 (.tmp 77) rfl (ad.add (j * 5)) rfl _ Hrow.out _ Try.underlying37 rfl (by kernel_rfl) ?_
            refine hK _ _ ?_
            clear hK K
            go_wp2_with (at_builtin; refine stopAt ?_; intro q hq)
            refine (play_any wq w4 b2 ck F2 Gk E D lm[j] kv P4 hkv2 b0 b1 b3 (by omega) (by omega)).mono ?_
            rintro e w5 ⟨rfl, F3, G3, P5⟩
            have hst := stepD_waits E lm[j]
            have HR3 := hid (ApRel.mk (n := 60) (k := j + 1) ⟨F3, _, ⟨P5.one, fun k x => P5.new k (.inl x), P5.keep⟩, by omega⟩)
            clear P4 P5 hkv2
            go_wp2_with (at_builtin; refine stopAt ?_; intro q hq)
            go_roundw
            case rel => exact ⟨j + 1, by omega, by omega, by go_num, HR3⟩
            case measure => simp [intOf]; omega
          · have P6 : Pair w b c' F G D D wr := HP.out.step (let ⟨_, _, O, _⟩ := HR2.out.ex; O.keep)
            have HP6 := hid P6
            clear P6 HR2 HR
            have cut : (¬ (j : Int) < mm) ∨ ((j : Int) < mm ∧ ¬ (j : Int) < 60) := by omega
            clear hgo
            rcases cut with c1 | ⟨c0, c1⟩
            all_goals
              have HR3 := hid (ToldRel.mk (k := 0) ⟨fun _ => 0, [], fun _ => 0, ⟨Row.nil wr _ 1, fun j hj => absurd hj (Nat.not_lt_zero _), fun _ _ => rfl, fun j u k h => by simp at h⟩, fun _ => Nat.zero_le _, fun b h => by simp [Value.ownBlock] at h, fun u h => by simp at h⟩ (Keep.refl _ wr))
              go_wp2_with (at_builtin; refine stopAt ?_; intro q hq)
              obtain ⟨wt, hwt⟩ : ∃ wt, wt = wr := ⟨_, rfl⟩
              subst hwt
              go_loopw [14, 15] (fun tv iv wr => ∃ q : Nat, q ≤ 4 ∧ iv = .int .i64 q ∧ Hid (ToldRel wt q tv wr)) (fun _ iv _ => 4 - (intOf iv).toNat)
              case atStart => exact ⟨0, Nat.zero_le _, rfl, HR3⟩
              case round =>
                clear HR3
                obtain ⟨q, hq, rfl, HR3⟩ := hrel
                by_cases hq4 : q < 4
                · have h7 : (q : Int) < 4 := by omega
                  go_wp2_with (at_builtin; refine stopAt ?_; intro q hq)
                  refine (read_any wr b F D q (HP6.out.step HR3.out.keep).one (by omega)).mono ?_
                  rintro e w5 ⟨v5, rfl, hr5, hk5, hf5⟩
                  have hle := read_len HP6.out.one.ok (q : Int)
                  obtain ⟨rd, hrd⟩ : ∃ r, r = DM.read D (q : Int) := ⟨_, rfl⟩
                  rw [← hrd] at hr5 hle ⊢
                  clear hrd
                  obtain ⟨rb, hrb⟩ : ∃ r, r = rd.1 := ⟨_, rfl⟩
                  rw [← hrb] at hr5 hle
                  clear hrb
                  obtain ⟨rn, hrn⟩ : ∃ r, r = rb.length := ⟨_, rfl⟩
                  rw [← hrn] at hr5 hle
                  clear hrn
                  obtain ⟨a5, c5, rfl, -⟩ := hr5.form
                  have H5 := hid (And.intro hr5 (And.intro hk5 hf5))
                  clear hr5 hk5 hf5
                  go_wp2_with (at_builtin; refine stopAt ?_; intro q hq)
                  (refine hq.out ?_; clear hq q)
                  obtain ⟨hr5, hk5, hf5⟩ := H5.out
                  obtain ⟨lc, lvs, lns, LL, hns, ho1, ho2⟩ := HR3.out.ex
                  have hn4 := heap_alloc_new w5 (.cells #[.slice a5 rn c5] 22)
                  have hk4' : Keep (fun _ => False) wr (w5.alloc (.cells #[.slice a5 rn c5] 22)) := hk5.alloc _
                  have hk45 : Keep (fun _ => False) w5 (w5.alloc (.cells #[.slice a5 rn c5] 22)) := (Keep.refl _ _).alloc _
                  obtain ⟨w6, hw6⟩ : ∃ w6, w6 = w5.alloc (.cells #[.slice a5 rn c5] 22) := ⟨_, rfl⟩
                  rw [← hw6] at hn4 hk4' hk45 ⊢
                  clear hw6
                  refine wpList_plain rfl (fun K hK => ?_)
                  refine wp_append ty_lists (.tmp 90) (.tmp 92) rfl rfl (LL.row.keep hk4' fun _ _ x => x) (some ⟨w5.heap.size, 0, none⟩) 1 1 [.slice a5 rn c5] rfl
                    ⟨rfl, fun _ => ⟨_, rfl, fun t u hu => by rw [addr_add, Nat.zero_add, cell_of_row _ _ _ _ _ _ hn4]; simpa using hu⟩⟩ (by intro u hu; simp at hu; subst hu; rfl) (by unfold maxLen; omega) (by omega) ?_
                  intro v7 w7 hr7 hk7 hv7
                  refine hK _ _ ?_
                  clear hK K
                  have hv7' := hv7.resolve_left (fun h => by omega)
                  obtain ⟨c7, L7⟩ := LL.grow hk4' (hr5.keep hk45 fun _ _ x => x) hf5 hr7 hk7 hv7'
                  have hz := HR3.out.keep.size
                  have hz2 := hk4'.size
                  have HR4 := hid (ToldRel.mk (w4 := wt) (k := q + 1) ⟨c7, _, _, L7, fun j => by split; exact hle; exact hns j, fun b' h => by
                      obtain ⟨b'', h1, h2⟩ := hv7'
                      rw [h] at h1
                      cases h1
                      rcases h2 with h2 | h2
                      · exact ho1 _ h2
                      · omega, fun u hu b' h => by
                      rcases List.mem_append.1 hu with hu | hu
                      · exact ho2 u hu b' h
                      · simp at hu
                        subst hu
                        have := hf5 b' h
                        omega⟩ ((HR3.out.keep.next hk4' (fun _ _ x => x) (fun _ _ x => x)).next hk7 (fun _ _ x => x) (fun i hi x => by have := ho1 i x; omega)))
                  clear hr7 hk7 hv7 hv7' L7 LL hk4' hk45 hn4 hr5 hk5 hf5 H5
                  go_wp2_with (at_builtin; refine stopAt ?_; intro q hq)
                  go_roundw
                  case rel => exact ⟨q + 1, by omega, by go_num, HR4⟩
                  case measure => simp [intOf]; omega
                · have h7 : decide ((q : Int) < 4) = false := by simp; omega
                  go_wp2_with (at_builtin; refine stopAt ?_; intro q hq)
                  obtain ⟨lc, lvs, lns, LL, hns, ho1, ho2⟩ := HR3.out.ex
                  refine (own_any wr lc _ lvs q lns LL (by omega) (fun j => Nat.le_trans (hns j) (by decide))).mono ?_
                  rintro e w8 ⟨rfl, hk8⟩
                  have P8 : Pair w b c' F G D D w8 := (HP6.out.step HR3.out.keep).beside hk8 (fun y hy => by
                    obtain ⟨u, hu, e⟩ := hy
                    have h1 := ho2 u hu y e
                    refine ⟨fun h => ?_, fun h => ?_, ?_⟩
                    · have := HP6.out.one.lt y h; omega
                    · have := HP6.out.two.lt y h; omega
                    · have := HP6.out.keep.size; omega)
                  have HP8 := hid P8
                  clear P8 hk8 LL ho1 ho2 hns
                  go_wp2_with (at_builtin; refine stopAt ?_; intro q hq)
                  obtain ⟨wz, hwz⟩ : ∃ wz, wz = w8 := ⟨_, rfl⟩
                  subst hwz
                  go_loopw [19] (fun iv wr => ∃ s : Nat, s ≤ 4 ∧ iv = .int .i64 s ∧ Hid (Keep (fun _ => False) wz wr)) (fun iv _ => 4 - (intOf iv).toNat)
                  case atStart => exact ⟨0, Nat.zero_le _, rfl, hid (Keep.refl _ _)⟩
                  case round =>
                    obtain ⟨s, hs, rfl, HK⟩ := hrel
                    by_cases hs4 : s < 4
                    · have h8 : (s : Int) < 4 := by omega
                      go_wp2_with (at_builtin; refine stopAt ?_; intro q hq)
                      refine (alike_any w wr b c' F G D s (HP8.out.step HK.out) (by omega) (by omega)).mono ?_
                      rintro e w9 ⟨rfl, hk9⟩
                      have HK9 := hid (HK.out.next hk9 (fun _ _ x => x) (fun _ _ x => x))
                      clear hk9
                      go_wp2_with (at_builtin; refine stopAt ?_; intro q hq)
                      go_roundw
                      case rel => exact ⟨s + 1, by omega, by go_num, HK9⟩
                      case measure => simp [intOf]; omega
                    · have h8 : decide ((s : Int) < 4) = false := by simp; omega
                      have HE := hid ((HP8.out.step HK.out).keep)
                      go_wp2_with (at_builtin; refine stopAt ?_; intro q hq)
                      refine (nil_read wr 0).mono ?_
                      rintro e w9 ⟨rfl, rfl⟩
                      go_wp2_with (at_builtin; refine stopAt ?_; intro q hq)
                      refine (nil_arm wr 1).mono ?_
                      rintro e w9 ⟨rfl, rfl⟩
                      go_wp2_with (at_builtin; refine stopAt ?_; intro q hq)
                      refine (nil_crash wr _).mono ?_
                      rintro e w9 ⟨rfl, rfl⟩
                      go_wp2_with (at_builtin; refine stopAt ?_; intro q hq)
                      refine (nil_write wr 0 _).mono ?_
                      rintro e w9 ⟨rfl, rfl⟩
                      go_wp2_with (at_builtin; refine stopAt ?_; intro q hq)
                      refine (nil_sync wr).mono ?_
                      rintro e w9 ⟨rfl, rfl⟩
                      go_wp2_with (at_builtin; refine stopAt ?_; intro q hq)
                      refine (nil_up wr).mono ?_
                      rintro e w9 ⟨rfl, rfl⟩
                      go_wp2_with (at_builtin; refine stopAt ?_; intro q hq)
                      refine (nil_waiting wr).mono ?_
                      rintro e w9 ⟨rfl, rfl⟩
                      go_wp2_with (at_builtin; refine stopAt ?_; intro q hq)
                      refine (nil_sectors wr).mono ?_
                      rintro e w9 ⟨rfl, rfl⟩
                      go_wp2_with (at_builtin; refine stopAt ?_; intro q hq)
                      refine (nil_clone wr).mono ?_
                      rintro e w9 ⟨rfl, rfl⟩
                      go_wp2_with (at_builtin; refine stopAt ?_; intro q hq)
                      refine (known_any wr).mono ?_
                      rintro e w9 ⟨rfl, hk9⟩
                      go_wp2_with (at_builtin; refine stopAt ?_; intro q hq)
                      go_ret
                      exact ⟨by rfl, HE.out.next hk9 (fun _ _ x => x) (fun _ _ x => x)⟩
end Go.Proofs.Ytenijbngmdaakaa
