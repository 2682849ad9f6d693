/- DiskTwice: the walk. Conditions: none but that the arguments are acts and ints. -/
import Derived.Test.YtenijbngmdaakaaShelf
namespace Go.Proofs.Ytenijbngmdaakaa
open Go.RowKit
open DM

/-- A disk behind a crash. -/
def Calm (D : Dk) : Prop := ∃ S, D = { safe := S, waits := [], left := none, down := false }
theorem Calm.crash (D : Dk) (ks : List Int) : Calm (DM.crash D ks) := ⟨_, rfl⟩
theorem Calm.again {D : Dk} (h : Calm D) (ks : List Int) : DM.crash D ks = D := by obtain ⟨S, rfl⟩ := h; simp [DM.crash, tear]
theorem Calm.sync {D : Dk} (h : Calm D) : DM.sync D = (0, D) := by obtain ⟨S, rfl⟩ := h; simp [DM.sync, act, now, puts]
theorem Calm.read {D : Dk} (h : Calm D) (i : Nat) (hi : i < D.safe.length) : DM.read D i = (D.safe[i], 0) := by
  obtain ⟨S, rfl⟩ := h
  simp at hi
  simp [DM.read, now, puts, hi]

def twD0 : Dk := DM.new 4
/-- What the law's writes and syncs keep. -/
def Going (D : Dk) : Prop := D.left = none ∧ D.down = false ∧ D.safe.length = 4
theorem Going.sync {D : Dk} (h : Going D) : (DM.sync D).1 = 0 ∧ Going (DM.sync D).2 ∧ (DM.sync D).2.waits.length = 0 := by
  obtain ⟨h0, h1, h2⟩ := h
  simp [DM.sync, act, h0, h1, Going, now_length, h2]
theorem Going.write {D : Dk} (h : Going D) (at_ : Int) (b : Sec) : Going (DM.write D at_ b).2 ∧ (DM.write D at_ b).2.waits.length ≤ D.waits.length + 1 := by
  obtain ⟨h0, h1, h2⟩ := h
  unfold DM.write
  simp only [h1]
  split
  · contradiction
  · split
    · exact ⟨⟨h0, h1, h2⟩, Nat.le_succ _⟩
    · simp [act, h0, h1, Going, h2]

structure TwRel (w0 : World) (b : Nat) (k : Nat) (wr : World) : Prop where
  ex : ∃ F D, Own w0 b F D wr ∧ Going D ∧ D.waits.length ≤ k
structure TwRel2 (w0 : World) (b : Nat) (D : Dk) (k : Nat) (v : Value) (wr : World) : Prop where
  ex : ∃ F vs, Own w0 b F D wr ∧ Shelf w0 wr F v (D.safe.take k) vs

set_option maxRecDepth 20000 in
set_option maxHeartbeats 2000000 in
theorem twice_walk (w : World) (v : Value) (l : List Act3) (hl : Acts w v l) (vk : Value) (lk : List Int) (hlk : Ints w vk lk) (va : Value) (la : List Int) (hla : Ints w va la) :
    Calls Try.prog 5 #[v, vk, va] w fun e w' => e = .returned (.bool true) ∧ Keep (fun _ => False) w w' := by
  obtain ⟨ao, c, rfl, hlc, hcm⟩ := hl.form
  have HL := hid hl
  clear hl hcm
  obtain ⟨m, hm⟩ : ∃ m, m = l.length := ⟨_, rfl⟩
  rw [← hm] at HL hlc ⊢
  have Hm := hid hm
  clear hm
  obtain ⟨aok, ck, rfl, hkc, hkm, hck, hwk⟩ := hlk.cells
  obtain ⟨aoa, ca, rfl, hac, ham, hca, hwa⟩ := hla.cells
  have hkn : lk.length ≤ 9223372036854775807 := by unfold maxLen at hkm; omega
  have han : la.length ≤ 9223372036854775807 := by unfold maxLen at ham; omega
  have oldk : ∀ (F : Nat → Prop), (∀ k, F k → w.heap.size ≤ k) → 0 < lk.length → ∀ x, aok = some x → ¬ F x.block := fun F hF hp x hx y => by
    subst hx; have := hck.lt (by omega); have := hF _ y; omega
  have olda : ∀ (F : Nat → Prop), (∀ k, F k → w.heap.size ≤ k) → 0 < la.length → ∀ x, aoa = some x → ¬ F x.block := fun F hF hp x hx y => by
    subst hx; have := hca.lt (by omega); have := hF _ y; omega
  have HK : Hid (lk.length ≤ 9223372036854775807 ∧ Cells w aok lk.length 1 (intsV lk) ∧ (∀ z ∈ lk, -9223372036854775808 ≤ z ∧ z ≤ 9223372036854775807) ∧ ∀ (F : Nat → Prop), (∀ k, F k → w.heap.size ≤ k) → 0 < lk.length → ∀ x, aok = some x → ¬ F x.block) := hid ⟨hkn, hck, hwk, oldk⟩
  have HA : Hid (la.length ≤ 9223372036854775807 ∧ Cells w aoa la.length 1 (intsV la) ∧ (∀ z ∈ la, -9223372036854775808 ≤ z ∧ z ≤ 9223372036854775807) ∧ ∀ (F : Nat → Prop), (∀ k, F k → w.heap.size ≤ k) → 0 < la.length → ∀ x, aoa = some x → ¬ F x.block) := hid ⟨han, hca, hwa, olda⟩
  clear hlk hla hkc hac hkm ham hck hca hwk hwa hkn han oldk olda
  go_enter Try.func5, Try.ntmps5
  go_wp2_with (at_builtin; refine stopAt ?_; intro q hq)
  refine (new_any w 4 (by decide) (by decide)).mono ?_
  rintro e w1 ⟨b, F1, rfl, hD1, hk1, hF1⟩
  have O1 : Own w b F1 twD0 w1 := ⟨hD1, hF1, hk1⟩
  clear hD1 hk1 hF1
  have HR1 := hid (TwRel.mk (k := 0) ⟨_, _, O1, ⟨rfl, rfl, rfl⟩, by simp [twD0, DM.new]⟩)
  clear O1
  go_wp2_with (at_builtin; refine stopAt ?_; intro q hq)
  go_loopw [9] (fun i wr => ∃ k : Nat, k ≤ m ∧ k ≤ 60 ∧ i = .int .i64 k ∧ Hid (TwRel w b k wr)) (fun i _ => 60 - (intOf i).toNat)
  case atStart => exact ⟨0, Nat.zero_le _, Nat.zero_le _, rfl, HR1⟩
  case round =>
    obtain ⟨k, hk, hk60, rfl, HR⟩ := hrel
    by_cases hgo : k < m ∧ k < 60
    · have hkm := hgo.1
      have hk1 := hgo.2
      clear hgo
      have h1 : (k : Int) < 60 := by omega
      have h2 : (k : Int) < m := by omega
      obtain ⟨F, D, O, hA, hw⟩ := HR.out.ex
      have O' := hid O
      have hkl : k < l.length := by rw [← Hm.out]; exact hkm
      obtain ⟨ad, kv, rfl, a0, a1, a2, a3, a4, hkv, b0, b1, b2⟩ := Acts.get HL.out O.keep k hkl
      have Kw := hid O.keep
      clear O
      go_wp2_with (at_builtin; refine stopAt ?_; intro q hq)
      refine wp_region_canon [52] (by kernel_rfl) (by kernel_rfl) ?_
      repeat (first | (apply wpC_pure (by rfl); (intro K w'; go_simp; exact id)) | (apply wpC_load (by rfl); (intro K; go_simp; exact id)))
      refine wpC_new (by rfl) (by rfl) (fun K hK => ?_)
      go_simp
      refine (row_any wr.drew l[k].fill 0 (by decide) (by decide)).mono ?_
      rintro e w2 ⟨v2, rfl, hf2⟩
      have O2 := (O'.out.step (Keep.refl _ _).drew).step hf2.keep
      obtain ⟨aoB, cB, rfl, hcB, hB2, haB2⟩ := Fresh.srcN hf2 (O'.out.step (Keep.refl _ _).drew).at_.lt 32 (rowL_length _ _)
      refine hK _ _ (Pre.of_keep hf2.keep) ?_
      clear hK K hf2 O'
      refine wpC_act (by rfl) (by rfl) (fun K hK => ?_)
      go_simp
      have hat : IntKind.i64.wrap ((IntKind.u64.wrap l[k].at_).tmod 4) = l[k].at_ % 4 := by rw [umod_int _ 4 (by decide) (by decide)]; omega
      rw [hat]
      refine (write_any w2 b F D (l[k].at_ % 4) aoB _ cB (rowL l[k].fill (rowN 0)) O2.at_ hB2 (fun _ => haB2) (by omega) (by decide) (by omega)).mono ?_
      rintro e w4 ⟨rfl, ht4⟩
      obtain ⟨F4, O4⟩ := O2.to ht4
      obtain ⟨hG, hw4⟩ := hA.write (l[k].at_ % 4) (rowL l[k].fill (rowN 0))
      obtain ⟨D4, hr⟩ : ∃ r, r = (DM.write D (l[k].at_ % 4) (rowL l[k].fill (rowN 0))).2 := ⟨_, rfl⟩
      rw [← hr] at hG hw4 O4
      clear hr O2 ht4 hA a0 a1 a2 a3 a4 hB2 haB2 hkv b0 b1 b2 hat Kw
      obtain ⟨ad', kv', had, a0, a1, a2, a3, a4, -, b0, b1, b2⟩ := Acts.get HL.out O4.keep k hkl
      cases had
      go_simp
      refine hK _ _ ?_
      clear hK K
      repeat (apply wpC_pure (by rfl); (intro K w'; go_simp; exact id))
      refine wpC_nil ?_
      clear a1 a2 a3 a4
      by_cases hkind : l[k].kind = 1
      · rw [hkind] at a0
        clear hkind
        go_wp2_with (at_builtin; refine stopAt ?_; intro q hq)
        refine (sync_any w4 b F4 D4 O4.at_ (by omega)).mono ?_
        rintro e w5 ⟨rfl, ht5⟩
        obtain ⟨F5, O5⟩ := O4.to ht5
        obtain ⟨-, hG5, hw5⟩ := hG.sync
        clear ht5 O4
        go_wp2_with (at_builtin; refine stopAt ?_; intro q hq)
        go_roundw
        case rel => exact ⟨k + 1, by omega, by omega, by go_num, hid ⟨⟨F5, _, O5, hG5, by omega⟩⟩⟩
        case measure => simp [intOf]; omega
      · have hkb : (l[k].kind == 1) = false := by simpa using hkind
        clear hkind
        go_wp2_with (at_builtin; refine stopAt ?_; intro q hq)
        go_roundw
        case rel => exact ⟨k + 1, by omega, by omega, by go_num, hid ⟨⟨F4, _, O4, hG, by omega⟩⟩⟩
        case measure => simp [intOf]; omega
    · obtain ⟨F, D, O, hA, hw⟩ := HR.out.ex
      have HA' := hid hA
      clear hA
      have hw60 : D.waits.length ≤ 60 := by omega
      clear hw
      have cut : (¬ (k : Int) < m) ∨ ((k : Int) < m ∧ ¬ (k : Int) < 60) := by omega
      clear hgo
      rcases cut with c1 | ⟨c0, c1⟩
      all_goals
        go_wp2_with (at_builtin; refine stopAt ?_; intro q hq)
        refine (crash_any wr b F D aok _ ck lk O.at_ (HK.out.2.1.keep O.keep (fun _ _ x => x)) (HK.out.2.2.2 F O.new) HK.out.1 HK.out.2.2.1 (by omega)).mono ?_
        rintro e w4 ⟨rfl, ht4⟩
        obtain ⟨F4, O4⟩ := O.to ht4
        have hC := Calm.crash D lk
        have hS : (DM.crash D lk).safe.length = 4 := by show (tear _ _ _).length = 4; rw [tear_length]; exact HA'.out.2.2
        obtain ⟨D1, hD1⟩ : ∃ D1, D1 = DM.crash D lk := ⟨_, rfl⟩
        rw [← hD1] at O4 hC hS
        clear hD1 ht4 O HA' hw60
        have HC := hid hC
        have HS := hid hS
        have HR4 := hid (TwRel2.mk (k := 0) (v := .slice none 0 0) ⟨F4, [], O4, by rw [List.take_zero]; exact Shelf.nil _ _ _⟩)
        clear hC hS O4
        go_wp2_with (at_builtin; refine stopAt ?_; intro q hq)
        go_loopw [10, 11] (fun v i wr => ∃ k : Nat, k ≤ 4 ∧ i = .int .i64 k ∧ Hid (TwRel2 w b D1 k v wr)) (fun _ i _ => 4 - (intOf i).toNat)
        case atStart => exact ⟨0, Nat.zero_le _, rfl, HR4⟩
        case round =>
          clear HR4
          obtain ⟨w5, rfl⟩ : ∃ w5, w5 = wr := ⟨_, rfl⟩
          obtain ⟨k5, hk5, rfl, HR5⟩ := hrel
          obtain ⟨F5, vs5, O5, S5⟩ := HR5.out.ex
          by_cases h5 : k5 < 4
          · have h6 : (k5 : Int) < 4 := by omega
            have hk5l : k5 < D1.safe.length := by rw [HS.out]; exact h5
            go_wp2_with (at_builtin; refine stopAt ?_; intro q hq)
            refine (read_any w5 b F5 D1 k5 O5.at_ (by omega)).mono ?_
            rintro e w6 ⟨v6, rfl, hr6, hk6, ho6⟩
            have O6 := O5.step hk6
            have hlt5 := O5.at_.lt
            have hrd := HC.out.read k5 hk5l
            rw [hrd] at hr6
            simp only at hr6
            have S6 := S5.keep (F' := F5) hk6 (fun _ x => x.elim) (fun _ x => .inl x)
            have hlt6 := fun j hj => S5.row.lt (k := j) hj
            obtain ⟨ao6, c6, rfl, -, -, -, h6own⟩ := hr6.form
            have hs6 := Cells.of_row hr6
            have hn6 : ∀ x, ao6 = some x → w5.heap.size ≤ x.block := fun x hx => ho6 _ (h6own x hx).2
            have hx6 : ∀ x, ao6 = some x → x.block < w6.heap.size := fun x hx => hr6.lt (h6own x hx).2
            rw [hrd]
            clear hr6 ho6 h6own hrd O5 S5 hk6 HR5
            go_wp2_with (at_builtin; refine stopAt ?_; intro q hq)
            (refine hq.out ?_; clear hq q)
            have hn7 := heap_alloc_new w6 (.cells #[.slice ao6 D1.safe[k5].length c6] 22)
            have hk7 : Keep (fun _ => False) w6 (w6.alloc (.cells #[.slice ao6 D1.safe[k5].length c6] 22)) := (Keep.refl _ _).alloc _
            obtain ⟨w7, hw7⟩ : ∃ w7, w7 = w6.alloc (.cells #[.slice ao6 D1.safe[k5].length c6] 22) := ⟨_, rfl⟩
            rw [← hw7] at hn7 hk7 ⊢
            clear hw7
            have O7 := O6.step hk7
            have S7 := S6.keep (F' := F5) hk7 (fun _ x => x.elim) (fun _ x => .inl x)
            have hs7 := hs6.keep hk7 (fun _ _ x => x)
            clear O6 S6 hs6
            refine wpList_plain rfl (fun K hK => ?_)
            refine wp_append ty_rows (.tmp 75) (.tmp 77) rfl rfl S7.row (some ⟨w6.heap.size, 0, none⟩) 1 1 [.slice ao6 D1.safe[k5].length c6] rfl
              ⟨rfl, fun _ => ⟨_, rfl, fun j u hu => by rw [addr_add, Nat.zero_add, cell_of_row _ _ _ _ _ _ hn7]; simpa using hu⟩⟩ (by intro u hu; simp at hu; subst hu; rfl) (by unfold maxLen; simp; omega) (by simp; omega) ?_
            intro v8 w8 hr8 hk8 hv8
            refine hK _ _ ?_
            clear hK K
            have hsz := hk7.size
            have S8 := S7.push O7.keep.size (l := D1.safe[k5]) hs7 (fun _ x hx => ⟨fun y => by have := hlt5 _ y; have := hn6 x hx; omega, fun e => by have := hlt6 _ e; have := hn6 x hx; omega⟩) hr8 hk8 (fun j hj => by
              rcases hv8 with ⟨_, h0⟩ | ⟨k', h3, h4⟩
              · omega
              · rw [hj] at h3; cases h3
                rcases h4 with h4 | h4
                · exact .inl h4
                · refine .inr ⟨Nat.le_of_eq h4.symm, fun y => ?_⟩
                  have := O7.at_.lt _ y
                  omega)
            have hk9 : Keep (fun _ => False) w w8 := O7.keep.next hk8 (fun _ _ x => x) fun j hj e => by have := (S7.own j e).2; omega
            have O8 : Own w b F5 D1 w8 := ⟨O7.at_.keep hk8 fun j hF e => (S7.own j e).1 hF, O7.new, hk9⟩
            have htk : D1.safe.take k5 ++ [D1.safe[k5]] = D1.safe.take (k5 + 1) := by rw [List.take_add_one, List.getElem?_eq_getElem hk5l]; rfl
            rw [htk] at S8
            have HR8 := hid (TwRel2.mk (k := k5 + 1) ⟨F5, _, O8, S8⟩)
            clear O7 S7 O8 S8 hk7 hk8 hk9 hn7 hr8 hv8 hs7 htk hsz hlt5 hlt6 hn6 hx6
            go_wp2_with (at_builtin; refine stopAt ?_; intro q hq)
            go_roundw
            case rel => exact ⟨k5 + 1, by omega, by go_num, HR8⟩
            case measure => simp [intOf]; omega
          · have h6 : ¬ (k5 : Int) < 4 := by omega
            obtain rfl : k5 = 4 := by omega
            rw [List.take_of_length_le (Nat.le_of_eq HS.out)] at S5
            go_wp2_with (at_builtin; refine stopAt ?_; intro q hq)
            refine (crash_any w5 b F5 D1 aoa _ ca la O5.at_ (HA.out.2.1.keep O5.keep (fun _ _ x => x)) (HA.out.2.2.2 F5 O5.new) HA.out.1 HA.out.2.2.1 (by obtain ⟨S, hS⟩ := HC.out; rw [hS]; simp)).mono ?_
            rintro e w6 ⟨rfl, ht6⟩
            obtain ⟨F6, O6, hk6, hF6⟩ := O5.toS ht6
            have S6 := S5.keep hk6 (fun _ x => x) hF6
            rw [HC.out.again] at O6
            clear ht6 O5 S5 hk6 hF6
            go_wp2_with (at_builtin; refine stopAt ?_; intro q hq)
            refine (sync_any w6 b F6 D1 O6.at_ (by obtain ⟨S, hS⟩ := HC.out; rw [hS]; simp)).mono ?_
            rintro e w7 ⟨rfl, ht7⟩
            obtain ⟨F7, O7, hk7, hF7⟩ := O6.toS ht7
            have S7 := S6.keep hk7 (fun _ x => x) hF7
            rw [HC.out.sync] at O7 ⊢
            simp only at O7
            clear ht7 O6 S6 hk7 hF7
            go_wp2_with (at_builtin; refine stopAt ?_; intro q hq)
            refine (crash_any w7 b F7 D1 aoa _ ca la O7.at_ (HA.out.2.1.keep O7.keep (fun _ _ x => x)) (HA.out.2.2.2 F7 O7.new) HA.out.1 HA.out.2.2.1 (by obtain ⟨S, hS⟩ := HC.out; rw [hS]; simp)).mono ?_
            rintro e w8 ⟨rfl, ht8⟩
            obtain ⟨F8, O8, hk8, hF8⟩ := O7.toS ht8
            have S8 := S7.keep hk8 (fun _ x => x) hF8
            rw [HC.out.again] at O8
            clear ht8 O7 S7 hk8 hF8
            have HR8 : Hid (∃ F vs, Own w b F D1 w8 ∧ Shelf w w8 F u10 D1.safe vs) := hid ⟨F8, _, O8, S8⟩
            clear O8 S8
            go_wp2_with (at_builtin; refine stopAt ?_; intro q hq)
            go_loopw [15] (fun i wr => ∃ k : Nat, k ≤ 4 ∧ i = .int .i64 k ∧ Hid (∃ F vs, Own w b F D1 wr ∧ Shelf w wr F u10 D1.safe vs)) (fun i _ => 4 - (intOf i).toNat)
            case atStart => exact ⟨0, Nat.zero_le _, rfl, HR8⟩
            case round =>
              clear HR8
              obtain ⟨w9, rfl⟩ : ∃ w9, w9 = wr := ⟨_, rfl⟩
              obtain ⟨k9, hk9, rfl, HR9⟩ := hrel
              obtain ⟨F9, vs9, O9, S9⟩ := HR9.out
              by_cases h9 : k9 < 4
              · have h6 : (k9 : Int) < 4 := by omega
                have hk9l : k9 < D1.safe.length := by rw [HS.out]; exact h9
                go_wp2_with (at_builtin; refine stopAt ?_; intro q hq)
                refine (read_any w9 b F9 D1 k9 O9.at_ (by omega)).mono ?_
                rintro e w10 ⟨v10, rfl, hr10, hk10, ho10⟩
                have O10 := O9.step hk10
                have S10 := S9.keep (F' := F9) hk10 (fun _ x => x.elim) (fun _ x => .inl x)
                have hrd := HC.out.read k9 hk9l
                rw [hrd] at hr10
                simp only at hr10
                obtain ⟨ao10, c10, rfl, -⟩ := hr10.form
                have hs10 := Cells.of_row hr10
                obtain ⟨gS, capS, aoS, cS, hvS, hcellS, hcS, -⟩ := S10.get k9 hk9l
                rw [HS.out] at hvS
                subst hvS
                rw [hrd]
                have h4 : (k9 : Int) < 4 := by omega
                have Hx := hid (And.intro hs10 (And.intro hcS (And.intro O10 S10)))
                clear hr10 ho10 hrd O9 S9 hk10 HR9 hs10 hcS O10 S10
                go_wp2_with (at_builtin; refine stopAt ?_; intro q hq)
                refine (same_any w10 ao10 aoS _ _ c10 cS D1.safe[k9] D1.safe[k9] Hx.out.1 Hx.out.2.1).mono ?_
                rintro e w11 ⟨rfl, rfl⟩
                have HR10 : Hid (∃ F vs, Own w b F D1 w10 ∧ Shelf w w10 F (.slice (some ⟨gS, 0, none⟩) 4 capS) D1.safe vs) := hid ⟨F9, _, Hx.out.2.2.1, Hx.out.2.2.2⟩
                go_wp2_with (at_builtin; refine stopAt ?_; intro q hq)
                go_roundw
                case rel => exact ⟨k9 + 1, by omega, by go_num, HR10⟩
                case measure => simp [intOf]; omega
              · have h6 : ¬ (k9 : Int) < 4 := by omega
                clear S9
                go_wp2_with (at_builtin; refine stopAt ?_; intro q hq)
                refine (known_any w9).mono ?_
                rintro e w12 ⟨rfl, hk12⟩
                have O12 := O9.step hk12
                go_wp2_with (at_builtin; refine stopAt ?_; intro q hq)
                go_ret
                exact ⟨rfl, O12.keep⟩
end Go.Proofs.Ytenijbngmdaakaa
