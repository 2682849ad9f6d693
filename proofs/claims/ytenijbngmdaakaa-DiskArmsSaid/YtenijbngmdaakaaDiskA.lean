/- DiskArms: the walk. Conditions: none but that the arguments are an int and acts. -/
import Derived.Test.YtenijbngmdaakaaArgs
namespace Go.Proofs.Ytenijbngmdaakaa
open Go.RowKit
open DM

/-- What is left, when n was armed and done went well. -/
def Armed (n : Int) (done : Nat) (D : Dk) : Prop :=
  D.safe.length = 4 ∧ (n < 0 → D.left = none ∧ D.down = false) ∧ (0 ≤ n → D.down = true ∧ n ≤ done ∨ D.down = false ∧ ∃ j, D.left = some j ∧ n = done + j)

theorem armed_act {n : Int} {done : Nat} {D : Dk} (h : Armed n done D) :
    (if 0 ≤ n ∧ n ≤ done then (act D).1 = false ∧ (act D).2.down = true ∧ Armed n done (act D).2 else (act D).1 = true ∧ D.down = false ∧ (act D).2.down = false ∧ Armed n (done + 1) (act D).2) := by
  obtain ⟨h0, h1, h2⟩ := h
  split
  · rename_i c
    rcases h2 c.1 with ⟨h3, h4⟩ | ⟨h3, j, h4, h5⟩
    · simp [act, h3, Armed, h0, h4]; omega
    · obtain rfl : j = 0 := by omega
      simp [act, h3, h4, Armed, h0]; omega
  · rename_i c
    by_cases hn : n < 0
    · obtain ⟨h3, h4⟩ := h1 hn
      simp [act, h3, h4, Armed, h0]; omega
    · rcases h2 (by omega) with ⟨h3, h4⟩ | ⟨h3, j, h4, h5⟩
      · omega
      · obtain ⟨i, rfl⟩ : ∃ i, j = i + 1 := ⟨j - 1, by omega⟩
        simp [act, h3, h4, Armed, h0]; omega

/-- One of the law's acts: the answer, and what is then. -/
def Goes (n : Int) (done : Nat) (r : Int × Dk) : Prop :=
  if 0 ≤ n ∧ n ≤ done then r.1 = 6 ∧ r.2.down = true ∧ Armed n done r.2 else r.1 = 0 ∧ r.2.down = false ∧ Armed n (done + 1) r.2

theorem armed_sync {n : Int} {done : Nat} {D : Dk} (h : Armed n done D) : Goes n done (DM.sync D) ∧ (DM.sync D).2.waits.length ≤ D.waits.length := by
  have ha := armed_act h
  have hw : (act D).2.waits.length = D.waits.length := by rw [act_waits]
  unfold Goes
  split at ha
  · rename_i c
    rw [if_pos c]
    have e : DM.sync D = (6, (act D).2) := by simp [DM.sync, ha.1]
    rw [e]
    exact ⟨⟨rfl, ha.2⟩, Nat.le_of_eq hw⟩
  · rename_i c
    rw [if_neg c]
    obtain ⟨a1, a2, a3, a4, a5⟩ := ha
    have e : DM.sync D = (0, { (act D).2 with safe := now (act D).2, waits := [] }) := by simp [DM.sync, a1]
    rw [e]
    exact ⟨⟨rfl, a3, by show (now _).length = 4; rw [now_length, a4], a5⟩, Nat.zero_le _⟩
theorem armed_write {n : Int} {done : Nat} {D : Dk} (h : Armed n done D) (at_ : Int) (h0 : 0 ≤ at_) (h4 : at_ < 4) (b : Sec) (hb : b.length = 32) :
    Goes n done (DM.write D at_ b) ∧ (DM.write D at_ b).2.waits.length ≤ D.waits.length + 1 := by
  have ha := armed_act h
  have hw : (act D).2.waits.length = D.waits.length := by rw [act_waits]
  have hl := h.1
  have hn : ¬ (at_ < 0 ∨ (D.safe.length : Int) ≤ at_ ∨ b.length ≠ 32) := by omega
  unfold Goes
  split at ha
  · rename_i c
    rw [if_pos c]
    cases hd : D.down with
    | true =>
      have e : act D = (false, D) := by simp [act, hd]
      rw [e] at ha
      have e2 : DM.write D at_ b = (6, D) := by simp [DM.write, hd]
      rw [e2]
      exact ⟨⟨rfl, ha.2⟩, Nat.le_succ _⟩
    | false =>
      have e : DM.write D at_ b = (6, (act D).2) := by simp [DM.write, hd, hn, ha.1]
      rw [e]
      exact ⟨⟨rfl, ha.2⟩, by rw [hw]; exact Nat.le_succ _⟩
  · rename_i c
    rw [if_neg c]
    obtain ⟨a1, a2, a3, a4, a5⟩ := ha
    have e : DM.write D at_ b = (0, { (act D).2 with waits := (act D).2.waits ++ [(at_.toNat, b)] }) := by simp [DM.write, a2, hn, a1]
    rw [e]
    exact ⟨⟨rfl, a3, a4, a5⟩, by simp [hw]⟩

theorem Goes.cases {n : Int} {done : Nat} {r : Int × Dk} (h : Goes n done r) :
    (0 ≤ n ∧ n ≤ done ∧ ∃ D, r = (6, D) ∧ D.down = true ∧ Armed n done D) ∨ (n < 0 ∧ ∃ D, r = (0, D) ∧ D.down = false ∧ Armed n (done + 1) D) ∨ (0 ≤ n ∧ done < n ∧ ∃ D, r = (0, D) ∧ D.down = false ∧ Armed n (done + 1) D) := by
  unfold Goes at h
  obtain ⟨f, D⟩ := r
  split at h
  · rename_i c; exact .inl ⟨c.1, c.2, D, by rw [← h.1], h.2⟩
  · rename_i c
    by_cases hn : n < 0
    · exact .inr (.inl ⟨hn, D, by rw [← h.1], h.2⟩)
    · exact .inr (.inr ⟨by omega, by omega, D, by rw [← h.1], h.2⟩)

def armD0 : Dk := DM.new 4
theorem armed_new (n : Int) : Armed n 0 (DM.arm armD0 n) := by
  refine ⟨rfl, fun h => ?_, fun h => .inr ⟨rfl, n.toNat, ?_, ?_⟩⟩
  · simp [DM.arm, armD0, DM.new, h]
  · simp [DM.arm, show ¬ n < 0 by omega]
  · omega

structure ArmRel (w0 : World) (b : Nat) (n : Int) (k done : Nat) (wr : World) : Prop where
  ex : ∃ F D, Own w0 b F D wr ∧ Armed n done D ∧ D.waits.length ≤ k
  le : done ≤ k

set_option maxRecDepth 20000 in
set_option maxHeartbeats 2000000 in
theorem arms_walk (w : World) (n : Int) (hn1 : -9223372036854775808 ≤ n) (hn2 : n ≤ 9223372036854775807) (v : Value) (l : List Act3) (hl : Acts w v l) :
    Calls Try.prog 4 #[.int .i64 n, v] w fun e w' => e = .returned (.bool true) ∧ Keep (fun _ => False) w w' := by
  obtain ⟨ao, c, rfl, hlc, hcm⟩ := hl.form
  have HL := hid hl
  have Hcm := hid hcm
  clear hl hcm
  obtain ⟨m, hm⟩ : ∃ m, m = l.length := ⟨_, rfl⟩
  rw [← hm] at HL hlc ⊢
  have Hm := hid hm
  clear hm
  go_enter Try.func4, Try.ntmps4
  go_wp2_with (at_builtin; refine stopAt ?_; intro q hq)
  refine (new_any w 4 (by decide) (by decide)).mono ?_
  rintro e w1 ⟨b, F1, rfl, hD1, hk1, hF1⟩
  have O1 : Own w b F1 armD0 w1 := ⟨hD1, hF1, hk1⟩
  clear hD1 hk1 hF1
  go_wp2_with (at_builtin; refine stopAt ?_; intro q hq)
  refine (arm_any w1 b F1 armD0 n (by omega) O1.at_).mono ?_
  rintro e w2 ⟨rfl, ht2⟩
  obtain ⟨F2, O2⟩ := O1.to ht2
  clear O1 ht2
  have R2 : ArmRel w b n 0 0 w2 := ⟨⟨_, _, O2, armed_new n, by simp [DM.arm, armD0, DM.new]⟩, Nat.le_refl _⟩
  have HR2 := hid R2
  clear R2 O2
  go_wp2_with (at_builtin; refine stopAt ?_; intro q hq)
  go_loopw [7, 8] (fun dn i wr => ∃ k done : Nat, k ≤ m ∧ k ≤ 100 ∧ dn = .int .i64 done ∧ i = .int .i64 k ∧ Hid (ArmRel w b n k done wr)) (fun _ i _ => 100 - (intOf i).toNat)
  case atStart => exact ⟨0, 0, Nat.zero_le _, Nat.zero_le _, rfl, rfl, HR2⟩
  case round =>
    obtain ⟨k, done, hk, hk100, rfl, rfl, HR⟩ := hrel
    by_cases hkm : k < m
    · by_cases hk1 : k < 100
      · have h1 : (k : Int) < 100 := by omega
        have h2 : (k : Int) < m := by omega
        obtain ⟨F, D, O, hA, hw⟩ := HR.out.ex
        have hdk := HR.out.le
        have O' := hid O
        have hkl : k < l.length := by rw [← Hm.out]; exact hkm
        obtain ⟨ad, kv, rfl, a0, a1, a2, a3, a4, hkv, b0, b1, b2⟩ := Acts.get HL.out O.keep k hkl
        clear O
        by_cases hkind : l[k].kind = 1
        · rw [hkind] at a0
          clear hkind a1 a2 a3 a4 hkv b0 b1 b2
          go_wp2_with (at_builtin; refine stopAt ?_; intro q hq)
          refine (sync_any wr b F D O'.out.at_ (by omega)).mono ?_
          rintro e w4 ⟨rfl, ht4⟩
          obtain ⟨F4, O4⟩ := O'.out.to ht4
          obtain ⟨hG, hw4⟩ := armed_sync hA
          obtain ⟨r, hr⟩ : ∃ r, r = DM.sync D := ⟨_, rfl⟩
          rw [← hr] at hG hw4 O4 ⊢
          clear hr O' ht4 hA a0
          rcases Goes.cases hG with ⟨c1, c2, D4, rfl, e2, hA2⟩ | ⟨c1, D4, rfl, e2, hA2⟩ | ⟨c1, c2, D4, rfl, e2, hA2⟩
          · have HA2 := hid hA2
            clear hA2 hG
            simp only at O4 hw4
            go_wp2_with (at_builtin; refine stopAt ?_; intro q hq)
            refine (up_any w4 b F4 D4 O4.at_).mono ?_
            rintro e w5 ⟨rfl, rfl⟩
            go_wp2_with (at_builtin; refine stopAt ?_; intro q hq)
            go_roundw
            case rel => exact ⟨k + 1, done, by omega, by omega, by go_num, by go_num, hid ⟨⟨F4, D4, O4, HA2.out, by omega⟩, by omega⟩⟩
            case measure => simp [intOf]; omega
          · have HA2 := hid hA2
            clear hA2 hG
            have c2 : ¬ (0 : Int) ≤ n := by omega
            simp only at O4 hw4
            go_wp2_with (at_builtin; refine stopAt ?_; intro q hq)
            refine (up_any w4 b F4 D4 O4.at_).mono ?_
            rintro e w5 ⟨rfl, rfl⟩
            go_wp2_with (at_builtin; refine stopAt ?_; intro q hq)
            go_roundw
            case rel => exact ⟨k + 1, done + 1, by omega, by omega, by go_num, by go_num, hid ⟨⟨F4, D4, O4, HA2.out, by omega⟩, by omega⟩⟩
            case measure => simp [intOf]; omega
          · have HA2 := hid hA2
            clear hA2 hG
            have c3 : decide (n ≤ (done : Int)) = false := by simp; omega
            clear c2
            simp only at O4 hw4
            go_wp2_with (at_builtin; refine stopAt ?_; intro q hq)
            refine (up_any w4 b F4 D4 O4.at_).mono ?_
            rintro e w5 ⟨rfl, rfl⟩
            go_wp2_with (at_builtin; refine stopAt ?_; intro q hq)
            go_roundw
            case rel => exact ⟨k + 1, done + 1, by omega, by omega, by go_num, by go_num, hid ⟨⟨F4, D4, O4, HA2.out, by omega⟩, by omega⟩⟩
            case measure => simp [intOf]; omega
        · have hkb : (l[k].kind == 1) = false := by simpa using hkind
          clear hkind
          go_wp2_with (at_builtin; refine stopAt ?_; intro q hq)
          refine wp_region_canon [56] (by kernel_rfl) (by kernel_rfl) ?_
          repeat (first | (apply wpC_pure (by rfl); (intro K w'; go_simp; exact id)) | (apply wpC_load (by rfl); (intro K; go_simp; exact id)))
          refine wpC_new (by rfl) (by rfl) (fun K hK => ?_)
          go_simp
          refine (row_any wr.drew l[k].fill 0 (by decide) (by decide)).mono ?_
          rintro e w2 ⟨v2, rfl, hf2⟩
          have O2 := (O'.out.step (Keep.refl _ _).drew).step hf2.keep
          obtain ⟨aoB, cB, rfl, hcB, hB2, haB2⟩ := Fresh.srcN hf2 (O'.out.step (Keep.refl _ _).drew).at_.lt 32 (rowL_length _ _)
          refine hK _ _ (Pre.of_keep hf2.keep) ?_
          clear hK K hf2 O'
          refine wpC_act (by rfl) (by rfl) (fun K hK => ?_)
          go_simp
          have hat : IntKind.i64.wrap ((IntKind.u64.wrap l[k].at_).tmod 4) = l[k].at_ % 4 := by rw [umod_int _ 4 (by decide) (by decide)]; omega
          have hat0 : 0 ≤ l[k].at_ % 4 := by omega
          have hat4 : l[k].at_ % 4 < 4 := by omega
          rw [hat]
          refine (write_any w2 b F D (l[k].at_ % 4) aoB _ cB (rowL l[k].fill (rowN 0)) O2.at_ hB2 (fun _ => haB2) (by omega) (by decide) (by omega)).mono ?_
          rintro e w4 ⟨rfl, ht4⟩
          obtain ⟨F4, O4⟩ := O2.to ht4
          obtain ⟨hG, hw4⟩ := armed_write hA (l[k].at_ % 4) hat0 hat4 (rowL l[k].fill (rowN 0)) (rowL_length _ _)
          obtain ⟨r, hr⟩ : ∃ r, r = DM.write D (l[k].at_ % 4) (rowL l[k].fill (rowN 0)) := ⟨_, rfl⟩
          rw [← hr] at hG hw4 O4 ⊢
          clear hr O2 ht4 hA a0 a1 a2 a3 a4 hB2 haB2 hkv b0 b1 b2 hkb hat hat0 hat4
          go_simp
          refine hK _ _ ?_
          clear hK K
          repeat (apply wpC_pure (by rfl); (intro K w'; go_simp; exact id))
          refine wpC_nil ?_
          rcases Goes.cases hG with ⟨c1, c2, D4, rfl, e2, hA2⟩ | ⟨c1, D4, rfl, e2, hA2⟩ | ⟨c1, c2, D4, rfl, e2, hA2⟩
          · have HA2 := hid hA2
            clear hA2 hG
            simp only at O4 hw4
            go_wp2_with (at_builtin; refine stopAt ?_; intro q hq)
            refine (up_any w4 b F4 D4 O4.at_).mono ?_
            rintro e w5 ⟨rfl, rfl⟩
            go_wp2_with (at_builtin; refine stopAt ?_; intro q hq)
            go_roundw
            case rel => exact ⟨k + 1, done, by omega, by omega, by go_num, by go_num, hid ⟨⟨F4, D4, O4, HA2.out, by omega⟩, by omega⟩⟩
            case measure => simp [intOf]; omega
          · have HA2 := hid hA2
            clear hA2 hG
            have c2 : ¬ (0 : Int) ≤ n := by omega
            simp only at O4 hw4
            go_wp2_with (at_builtin; refine stopAt ?_; intro q hq)
            refine (up_any w4 b F4 D4 O4.at_).mono ?_
            rintro e w5 ⟨rfl, rfl⟩
            go_wp2_with (at_builtin; refine stopAt ?_; intro q hq)
            go_roundw
            case rel => exact ⟨k + 1, done + 1, by omega, by omega, by go_num, by go_num, hid ⟨⟨F4, D4, O4, HA2.out, by omega⟩, by omega⟩⟩
            case measure => simp [intOf]; omega
          · have HA2 := hid hA2
            clear hA2 hG
            have c3 : decide (n ≤ (done : Int)) = false := by simp; omega
            clear c2
            simp only at O4 hw4
            go_wp2_with (at_builtin; refine stopAt ?_; intro q hq)
            refine (up_any w4 b F4 D4 O4.at_).mono ?_
            rintro e w5 ⟨rfl, rfl⟩
            go_wp2_with (at_builtin; refine stopAt ?_; intro q hq)
            go_roundw
            case rel => exact ⟨k + 1, done + 1, by omega, by omega, by go_num, by go_num, hid ⟨⟨F4, D4, O4, HA2.out, by omega⟩, by omega⟩⟩
            case measure => simp [intOf]; omega
      · have h1 : ¬ (k : Int) < 100 := by omega
        obtain ⟨F, D, O, hA, hw⟩ := HR.out.ex
        have HA := hid hA
        clear hA
        go_wp2_with (at_builtin; refine stopAt ?_; intro q hq)
        refine (crash_any wr b F D none 0 0 [] O.at_ (Cells.nil _ _ _) (by simp) (by decide) (by simp) (by omega)).mono ?_
        rintro e w4 ⟨rfl, ht4⟩
        obtain ⟨F4, O4⟩ := O.to ht4
        have e1 : (DM.crash D []).down = false := rfl
        have e2 : (DM.sync (DM.crash D [])).1 = 0 := rfl
        clear O ht4
        go_wp2_with (at_builtin; refine stopAt ?_; intro q hq)
        refine (up_any w4 b F4 _ O4.at_).mono ?_
        rintro e w5 ⟨rfl, rfl⟩
        go_wp2_with (at_builtin; refine stopAt ?_; intro q hq)
        refine (sync_any w4 b F4 _ O4.at_ (by simp [DM.crash])).mono ?_
        rintro e w5 ⟨rfl, ht5⟩
        obtain ⟨F5, O5⟩ := O4.to ht5
        clear O4 ht5
        go_wp2_with (at_builtin; refine stopAt ?_; intro q hq)
        refine (known_any w5).mono ?_
        rintro e w6 ⟨rfl, hk6⟩
        have O6 := O5.step hk6
        clear O5 hk6
        go_wp2_with (at_builtin; refine stopAt ?_; intro q hq)
        go_ret
        exact ⟨rfl, O6.keep⟩
    · have h2 : ¬ (k : Int) < m := by omega
      obtain ⟨F, D, O, hA, hw⟩ := HR.out.ex
      have HA := hid hA
      clear hA
      go_wp2_with (at_builtin; refine stopAt ?_; intro q hq)
      refine (crash_any wr b F D none 0 0 [] O.at_ (Cells.nil _ _ _) (by simp) (by decide) (by simp) (by omega)).mono ?_
      rintro e w4 ⟨rfl, ht4⟩
      obtain ⟨F4, O4⟩ := O.to ht4
      have e1 : (DM.crash D []).down = false := rfl
      have e2 : (DM.sync (DM.crash D [])).1 = 0 := rfl
      clear O ht4
      go_wp2_with (at_builtin; refine stopAt ?_; intro q hq)
      refine (up_any w4 b F4 _ O4.at_).mono ?_
      rintro e w5 ⟨rfl, rfl⟩
      go_wp2_with (at_builtin; refine stopAt ?_; intro q hq)
      refine (sync_any w4 b F4 _ O4.at_ (by simp [DM.crash])).mono ?_
      rintro e w5 ⟨rfl, ht5⟩
      obtain ⟨F5, O5⟩ := O4.to ht5
      clear O4 ht5
      go_wp2_with (at_builtin; refine stopAt ?_; intro q hq)
      refine (known_any w5).mono ?_
      rintro e w6 ⟨rfl, hk6⟩
      have O6 := O5.step hk6
      clear O5 hk6
      go_wp2_with (at_builtin; refine stopAt ?_; intro q hq)
      go_ret
      exact ⟨rfl, O6.keep⟩
end Go.Proofs.Ytenijbngmdaakaa
