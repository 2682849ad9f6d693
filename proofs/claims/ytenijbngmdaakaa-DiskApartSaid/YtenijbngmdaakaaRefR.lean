/- The document's disk: a contract for Read. Conditions: as the contract names them. -/
import Derived.Test.YtenijbngmdaakaaRefW
namespace Go.Proofs.Ytenijbngmdaakaa
open Go.RowKit
open DM

theorem putsV_get : ∀ (l : List (Nat × Sec)) (k : Nat) (hk : k < l.length) (j : Nat), j < 2 → (putsV l)[k * 2 + j]? = (putV l[k])[j]?
  | [], k, hk, _, _ => absurd hk (Nat.not_lt_zero _)
  | p :: l, 0, _, j, hj => by
    simp only [putsV, List.flatMap_cons, Nat.zero_mul, Nat.zero_add, List.getElem_cons_zero]
    rw [List.getElem?_append_left (by show j < 2; exact hj)]
  | p :: l, k + 1, hk, j, hj => by
    have ih := putsV_get l k (by simpa using hk) j hj
    simp only [putsV, List.flatMap_cons, List.getElem_cons_succ] at ih ⊢
    rw [List.getElem?_append_right (by show 2 ≤ _; omega), ← ih]
    congr 1
    show _ - 2 = _
    omega

def seenTo (D : Dk) (i k : Nat) : Sec := (puts D.safe (D.waits.take k)).getD i []
theorem seenTo_zero (D : Dk) (i : Nat) : seenTo D i 0 = D.safe.getD i [] := rfl
theorem seenTo_all (D : Dk) (i : Nat) : seenTo D i D.waits.length = (DM.now D).getD i [] := by unfold seenTo; rw [List.take_length]; rfl
theorem seenTo_succ (D : Dk) (i k : Nat) (hk : k < D.waits.length) (hi : i < D.safe.length) : seenTo D i (k + 1) = if D.waits[k].1 = i then D.waits[k].2 else seenTo D i k := by
  unfold seenTo
  rw [List.take_add_one, List.getElem?_eq_getElem hk, Option.toList_some, puts_append]
  simp only [puts, List.foldl_cons, List.foldl_nil]
  have hl : (List.foldl (fun s p => s.set p.1 p.2) D.safe (D.waits.take k)).length = D.safe.length := puts_length _ _
  split
  · rename_i e; subst e; simp [List.getD, hl, hi]
  · rename_i e; simp [List.getD, List.getElem?_set_ne e]

/-- []byte(s): a row of its own. -/
theorem Row.of_str (w : World) (e : TypeId) (l : List UInt8) (hl : l.length ≤ maxLen) :
    Row (w.drew.alloc (.cells (bytesRow (str l) (grownCap w (str l).size 0 e)) e ((bytesRow (str l) (grownCap w (str l).size 0 e)).size, (bytesRow (str l) (grownCap w (str l).size 0 e)).size + 1))) e 1
      (.slice (.some ⟨w.heap.size, 0, none⟩) (str l).size (grownCap w (str l).size 0 e)) l.length (bytesV l) := by
  have h1 := grownCap_ge w (str l).size 0 e
  have h2 := grownCap_le_maxLen w (str l).size 0 e (by rw [str_size]; exact hl)
  rw [str_size] at h1 h2
  have hsz : (bytesRow (str l) (grownCap w (str l).size 0 e)).size = grownCap w (str l).size 0 e := by
    rw [str_size]; simp [bytesRow, str, ByteArray.size]; omega
  refine ⟨by rw [bytesV_length, Nat.mul_one], .inr ⟨w.heap.size, _, _, _, by rw [str_size], heap_alloc_new w.drew _, ?_, h1, h2, by rw [hsz, Nat.mul_one, str_size], ?_⟩⟩
  · intro j hj h
    omega
  · simp [bytesRow, str, bytesV]

set_option maxHeartbeats 800000 in
theorem ref_read (w : World) (b : Nat) (F : Nat → Prop) (D : Dk) (at_ : Int) (hD : RefAt w b F D) (hlt : at_ < 9223372036854775808) (hfew : D.waits.length ≤ 1000000) :
    Calls Try.prog 35 #[.pointer (some ⟨b, 0, none⟩), .int .i64 at_] w fun e w' =>
      ∃ v, e = .returned (.tuple #[v, .int .i64 (DM.read D at_).2]) ∧ Row w' 5 1 v (DM.read D at_).1.length (bytesV (DM.read D at_).1) ∧ Keep (fun _ => False) w w' ∧ (∀ k, v.ownBlock = some k → w.heap.size ≤ k) := by
  obtain ⟨vs, vw, hI⟩ := hD
  have hh := hI.head
  unfold refCells at hh
  obtain ⟨h0, h1, h2, h3, hf, hb⟩ := cells4 hh
  have hpos := hI.ok.pos
  have hfewS := hI.ok.few
  obtain ⟨gs, cap, cur, fz, rfl, hgs, hfz, hncap, hcapm, hcurs, htk⟩ := hI.safe.some hpos
  have out : ∀ c, DM.read D at_ = ([], c) → ∀ w', w' = w → ∃ v, Ending.returned (.tuple #[.slice none 0 0, .int .i64 c]) = .returned (.tuple #[v, .int .i64 (DM.read D at_).2]) ∧ Row w' 5 1 v (DM.read D at_).1.length (bytesV (DM.read D at_).1) ∧ Keep (fun _ => False) w w' ∧ (∀ k, v.ownBlock = some k → w.heap.size ≤ k) := by
    rintro c hc w' rfl
    refine ⟨.slice none 0 0, by rw [hc], by rw [hc]; exact Row.nil _ _ _, Keep.refl _ _, by simp [Value.ownBlock]⟩
  have Out := hid out
  clear out
  cases hd : D.down with
  | true =>
    rw [hd] at h3
    have hw : DM.read D at_ = ([], 6) := by unfold DM.read; rw [hd]; rfl
    have Hw := hid hw
    clear hw hh hgs htk
    go_enter Try.func35, Try.ntmps35
    go_wp2
    go_ret2
    exact Out.out _ Hw.out _ rfl
  | false =>
    rw [hd] at h3
    by_cases c1 : at_ < 0
    · have hw : DM.read D at_ = ([], 30) := by unfold DM.read; rw [hd]; simp [c1]
      have Hw := hid hw
      clear hw hh hgs htk
      go_enter Try.func35, Try.ntmps35
      go_wp2
      go_ret2
      exact Out.out _ Hw.out _ rfl
    · by_cases c2 : (D.safe.length : Int) ≤ at_
      · have hw : DM.read D at_ = ([], 30) := by unfold DM.read; rw [hd]; simp [c2]
        have Hw := hid hw
        clear hw hh hgs htk
        go_enter Try.func35, Try.ntmps35
        go_wp2
        go_ret2
        exact Out.out _ Hw.out _ rfl
      · have hw : DM.read D at_ = ((DM.now D).getD at_.toNat [], 0) := by unfold DM.read; rw [hd]; simp [c1, c2]
        have Hw := hid hw
        obtain ⟨i, hi⟩ : ∃ i : Nat, (i : Int) = at_ := ⟨at_.toNat, by omega⟩
        subst hi
        have his : i < D.safe.length := by omega
        have a0 : w.cell? ⟨gs, i, none⟩ = some (.string (str (seenTo D i 0))) := by
          rw [hI.safe.cell i (by omega)]; simp [secsV, his, seenTo_zero, List.getD]
        have hsecl : ((DM.now D).getD i []).length = 32 := by
          have hi : i < (DM.now D).length := by rw [now_length]; omega
          have := hI.ok.now _ (List.getElem_mem hi)
          simpa [List.getD, List.getElem?_eq_getElem hi] using this
        obtain ⟨aw, capw, rfl, -⟩ := hI.waits.form
        have HI := hid hI
        clear hw hh hgs htk hI Out hcurs
        go_enter Try.func35, Try.ntmps35
        go_wp2_with (at_builtin; refine stopAt ?_; intro q hq)
        go_loopw [6, 7] (fun sv kv wr => ∃ k : Nat, k ≤ D.waits.length ∧ kv = .int .i64 k ∧ sv = .string (str (seenTo D i k)) ∧ wr = w) (fun _ kv _ => D.waits.length - (intOf kv).toNat)
        case atStart => exact ⟨0, Nat.zero_le _, rfl, rfl, rfl⟩
        case round =>
          obtain ⟨k, hk, rfl, rfl, rfl⟩ := hrel
          by_cases hkn : k < D.waits.length
          · have h4 : (k : Int) < D.waits.length := by omega
            obtain ⟨gw, capw', hvw, b0⟩ := HI.out.waits.getCell (j := k * 2) (u := .int .i64 (D.waits[k].1 : Int)) (by have := putsV_get D.waits k hkn 0 (by decide); simpa [putV] using this)
            obtain ⟨gw2, capw2, hvw2, b1⟩ := HI.out.waits.getCell (j := k * 2 + 1) (u := .string (str D.waits[k].2)) (by have := putsV_get D.waits k hkn 1 (by decide); simpa [putV] using this)
            cases hvw
            cases hvw2
            have hss := seenTo_succ D i k hkn his
            by_cases he : D.waits[k].1 = i
            · rw [if_pos he] at hss
              have Hss := hid hss
              have he' : ((D.waits[k].1 : Int) == (i : Int)) = true := by simp [he]
              clear hss he
              go_wp2_with (at_builtin; refine stopAt ?_; intro q hq)
              go_roundw
              case rel => exact ⟨k + 1, by omega, by go_num, by rw [Hss.out], trivial⟩
              case measure => simp [intOf]; omega
            · rw [if_neg he] at hss
              have Hss := hid hss
              have he' : ((D.waits[k].1 : Int) == (i : Int)) = false := by simp; omega
              clear hss he
              go_wp2_with (at_builtin; refine stopAt ?_; intro q hq)
              go_roundw
              case rel => exact ⟨k + 1, by omega, by go_num, by rw [Hss.out], trivial⟩
              case measure => simp [intOf]; omega
          · have h4 : ¬ (k : Int) < D.waits.length := by omega
            obtain rfl : k = D.waits.length := by omega
            rw [seenTo_all]
            obtain ⟨S, hS⟩ : ∃ S, S = (DM.now D).getD i [] := ⟨_, rfl⟩
            rw [← hS]
            have hcv := run_bytes_of_string (P := Try.prog) wr 9 22 5 (str S) Try.underlying9 Try.underlying22 Try.underlying5
            have hr := Row.of_str wr 5 S (by rw [hS, hsecl]; decide)
            obtain ⟨w2, hw2⟩ : ∃ w2, w2 = (wr.drew.alloc (.cells (bytesRow (str S) (grownCap wr (str S).size 0 5)) 5 ((bytesRow (str S) (grownCap wr (str S).size 0 5)).size, (bytesRow (str S) (grownCap wr (str S).size 0 5)).size + 1))) := ⟨_, rfl⟩
            rw [← hw2] at hcv hr
            have hk2 : Keep (fun _ => False) wr w2 := by rw [hw2]; exact (Keep.refl _ _).drew.alloc _
            have HR := hid hr
            have HS := hid hS
            clear hr hw2 hS
            go_wp2_with (at_builtin; refine stopAt ?_; intro q hq)
            go_ret2
            refine ⟨_, by rw [Hw.out]; rfl, ?_, hk2, ?_⟩
            · rw [Hw.out]
              show Row w2 _ 1 _ ((DM.now D).getD _ []).length (bytesV ((DM.now D).getD _ []))
              rw [Int.toNat_natCast, ← HS.out]
              exact HR.out
            · intro k hk
              simp [Value.ownBlock] at hk
              omega
end Go.Proofs.Ytenijbngmdaakaa
