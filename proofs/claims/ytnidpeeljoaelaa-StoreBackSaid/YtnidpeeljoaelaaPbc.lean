/- Texts StqN, StqC, StqB in one. Conditions: as each law names them. -/
import Derived.Test.YtnidpeeljoaelaaPaj
import Derived.Test.YtnidpeeljoaelaaPay
import Derived.Test.YtnidpeeljoaelaaPbb
/- StoreNil's walk. Conditions: none. -/
namespace Go.Proofs.Ytnidpeeljoaelaa
open Go.RowKit Go.Maps
open MI SO BM DM WM

theorem n_small : opS (DM.new 5) = (40, none, DM.new 5) := by kernel_rfl
set_option maxRecDepth 20000 in
set_option maxHeartbeats 2000000 in
theorem snil_walk (w : World) (v : Value) (l : List Ch) (hl : Chs w v l) (key : Str) (_ : key.length ≤ maxLen) :
    Calls Try.prog 5 #[v, .string (str key)] w fun e w' => e = .returned (.bool true) ∧ Keep (fun _ => False) w w' := by
  obtain ⟨ao, c, rfl, hlc, hcm⟩ := hl.form
  clear hl hcm hlc
  obtain ⟨m, hm⟩ : ∃ m, m = l.length := ⟨_, rfl⟩
  rw [← hm]
  clear hm
  have hg : getS [] key = .tuple #[.string (str []), .bool false] := rfl
  have hg2 := sget_nil w key
  rw [hg] at hg2
  clear hg
  go_enter Try.func5, Try.ntmps5
  go_wp2_with (at_builtin; refine stopAt ?_; intro q hq)
  refine hg2.mono ?_
  rintro e w1 ⟨rfl, rfl⟩
  clear hg2
  go_wp2_with (at_builtin; refine stopAt ?_; intro q hq)
  refine (new_any w1 5 (by decide) (by decide)).mono ?_
  rintro e w2 ⟨d, Pd, rfl, hD, hk, hP⟩
  go_wp2_with (at_builtin; refine stopAt ?_; intro q hq)
  refine (sopen_nil w2).mono ?_
  rintro e w3 ⟨rfl, rfl⟩
  have ho := sopen_any w3 d Pd (DM.new 5) hD (by decide)
  rw [n_small] at ho
  go_wp2_with (at_builtin; refine stopAt ?_; intro q hq)
  refine ho.mono ?_
  rintro e w4 ⟨rfl, hto⟩
  have HK : Hid (Keep (fun _ => False) w1 w4) := by
    obtain ⟨F', -, h2, -⟩ := hto
    exact hid (hk.next h2 (fun _ _ x => x) (fun k hk x => by have := hP k x; omega))
  clear hk hP hto ho hD
  have q1 : (str ([] : Str)).toList = [] := str_toList _
  go_wp2_with (at_builtin; refine stopAt ?_; intro q hq)
  refine (sdo_nil w4 _).mono ?_
  rintro e w5 ⟨rfl, rfl⟩
  go_wp2_with (at_builtin; refine stopAt ?_; intro q hq)
  refine (ssync_nil w5).mono ?_
  rintro e w6 ⟨rfl, rfl⟩
  go_wp2_with (at_builtin; refine stopAt ?_; intro q hq)
  refine (scheck_nil w6).mono ?_
  rintro e w7 ⟨rfl, rfl⟩
  go_wp2_with (at_builtin; refine stopAt ?_; intro q hq)
  refine (slen_nil w7).mono ?_
  rintro e w8 ⟨rfl, rfl⟩
  go_wp2_with (at_builtin; refine stopAt ?_; intro q hq)
  refine (swait_nil w8).mono ?_
  rintro e w9 ⟨rfl, rfl⟩
  go_wp2_with (at_builtin; refine stopAt ?_; intro q hq)
  refine (pairs_nil w9).mono ?_
  rintro e w10 ⟨pv, rfl, hrow, hk, -⟩
  obtain ⟨wa, wc, rfl, -⟩ := hrow.form
  have HK2 := hid (HK.out.next hk (H := fun _ => False) (fun _ _ x => x) (fun _ _ x => x))
  clear hrow hk
  go_wp2_with (at_builtin; refine stopAt ?_; intro q hq)
  refine (sknown_any _).mono ?_
  rintro e w11 ⟨rfl, hk⟩
  have HZ := hid (HK2.out.next hk (H := fun _ => False) (fun _ _ x => x) (fun _ _ x => x))
  clear hk
  go_wp2_with (at_builtin; refine stopAt ?_; intro q hq)
  go_ret
  exact ⟨rfl, HZ.out⟩
end Go.Proofs.Ytnidpeeljoaelaa
/- Store: bytes as arguments. Conditions: none. -/
namespace Go.Proofs.Ytnidpeeljoaelaa
open Go.ChangeShapes Go.WideShapes Go.RowKit Go.Deep
open MI SO BM DM WM

def ByteR (cs : List Value) (u : UInt8) : Prop := cs = [.int .u8 (u.toNat : Int)]
theorem wf_u8 {a : Int} (h : (Lit.int .u8 a).wf = true) : ∃ u : UInt8, a = (u.toNat : Int) := by
  have hx : 0 ≤ a ∧ a ≤ 255 := by simpa [Lit.wf, IntKind.min, IntKind.max, IntKind.signed, IntKind.bits] using h
  refine ⟨UInt8.ofNat a.toNat, ?_⟩
  rw [UInt8.toNat_ofNat']
  omega
abbrev Octets (w : World) (v : Value) (l : List UInt8) : Prop := SliceOf w 1 ByteR v l
theorem Octets.cells {w : World} {v : Value} {l : List UInt8} (h : Octets w v l) :
    ∃ ao c, v = .slice ao l.length c ∧ l.length ≤ c ∧ c ≤ maxLen ∧ Cells w ao l.length 1 (bytesV l) := by
  obtain ⟨ao, c, rfl, h1, h2, h3⟩ := h
  refine ⟨ao, c, rfl, h1, h2, by simp [bytesV_length], fun hp => ?_⟩
  obtain ⟨ad, rfl, h4⟩ := h3 (by omega)
  refine ⟨ad, rfl, fun j u hu => ?_⟩
  have hj : j < l.length := by have := (List.getElem?_eq_some_iff.1 hu).1; rwa [bytesV_length] at this
  obtain ⟨cs, _, rfl, hc⟩ := h4 j hj
  have := hc 0 _ rfl
  rw [Nat.mul_one, Nat.add_zero] at this
  rw [this]
  simpa [bytesV, hj] using hu

theorem rd_octets {H : Type} {enc : TypeId × Value → H} {w : World} {base : Nat} {held : Bool} {fuel : Nat} {v : Value} {x : DataW H × List MemPlace}
    (h : DataW.trod enc Try.prog w base (fun _ => true) held fuel 23 [v] = some x) : ∃ l, Octets w v l :=
  rd_sliceL Try.underlying23 (by kernel_rfl) (fun _ _ _ _ h => let ⟨n, h1, h2⟩ := rd_int Try.underlying5 h; let ⟨u, hu⟩ := wf_u8 h2; ⟨u, by rw [h1, hu]; rfl⟩) h


/-- What Decode leaves: a list, or nothing. -/
theorem DecPost.form {w w' : World} {b : List UInt8} {e : Ending} (h : DecPost w b e w') : ∃ ao n c, e = .returned (.tuple #[.slice ao n c, .int .i64 (if (dec b).isSome then 0 else 50)]) ∧ Chs w' (.slice ao n c) ((dec b).getD []) ∧ n = ((dec b).getD []).length ∧ Keep (fun _ => False) w w' := by
  obtain ⟨hk, h⟩ := h
  cases hd : dec b with
  | none =>
    rw [hd] at h
    exact ⟨none, 0, 0, h, ⟨none, 0, rfl, Nat.le_refl _, by decide, fun hp => absurd hp (by decide)⟩, rfl, hk⟩
  | some l =>
    rw [hd] at h
    obtain ⟨v, rfl, hrow, -⟩ := h
    obtain ⟨ao, c, rfl, -⟩ := hrow.form
    exact ⟨ao, l.length, c, rfl, Chs.of_row hrow (fun x hx => chOk_of ((right_all (dec_enc hd).1).2 x hx)), rfl, hk⟩
theorem LentIs.cells {w w' : World} {g n cap : Nat} {l : List UInt8} (h : LentIs w w' g n cap l) (hl : n = l.length) : Cells w' (some ⟨g, 0, none⟩) n 1 (bytesV l) := by
  have := Cells.of_row (h.row.cut n (by omega))
  rwa [Nat.mul_one, bytesV_append, List.take_left' (by rw [bytesV_length]; exact hl.symm)] at this

set_option maxRecDepth 20000 in
set_option maxHeartbeats 2000000 in
theorem sbatches_walk (w : World) (v : Value) (l : List Ch) (hl : Chs w v l) (bv : Value) (b : List UInt8) (hb : Octets w bv b) :
    Calls Try.prog 3 #[v, bv] w fun e w' => e = .returned (.bool true) ∧ Keep (fun _ => False) w w' := by
  obtain ⟨ao, c, rfl, hlc, hcm⟩ := hl.form
  obtain ⟨bo, bc, rfl, hbc, hbm, hcs⟩ := hb.cells
  obtain ⟨n, hn⟩ : ∃ n, n = l.length := ⟨_, rfl⟩
  obtain ⟨m, hm⟩ : ∃ m, m = b.length := ⟨_, rfl⟩
  rw [← hn] at hl ⊢
  rw [← hm] at hcs hbc ⊢
  have hhe := sheavy_any w ao n c l hl hn
  have H0 := hid (And.intro hl (And.intro hcs (And.intro hn (And.intro hm hbc))))
  clear hl hcs hn hm hlc hcm hb hbm hbc
  go_enter Try.func3, Try.ntmps3
  go_wp2_with (at_builtin; refine stopAt ?_; intro q hq)
  refine hhe.mono ?_
  rintro e w1 ⟨x, rfl, hk⟩
  have HK1 := hid hk
  clear hhe hk
  by_cases hbig : x = true ∨ (8000 : Int) < m
  · have cut : x = true ∨ (x = false ∧ (8000 : Int) < m) := by
      cases x
      · rcases hbig with h | h
        · cases h
        · exact .inr ⟨rfl, h⟩
      · exact .inl rfl
    clear hbig
    rcases cut with rfl | ⟨rfl, h8⟩
    all_goals
      go_wp2_with (at_builtin; refine stopAt ?_; intro q hq)
      refine (sknown_any _).mono ?_
      rintro e w2 ⟨rfl, hk⟩
      have HZ := hid (HK1.out.next hk (H := fun _ => False) (fun _ _ x => x) (fun _ _ x => x))
      clear hk
      go_wp2_with (at_builtin; refine stopAt ?_; intro q hq)
      go_ret
      exact ⟨rfl, HZ.out⟩
  · have hx : x = false := by cases x with
      | true => exact absurd (.inl rfl) hbig
      | false => rfl
    have h8 : decide ((8000 : Int) < m) = false := by simp; omega
    have hm8 : m ≤ 8000 := by omega
    have HM := hid hm8
    subst hx
    clear hbig hm8
    have hle := lent_any w1 bo m bc b (H0.out.2.1.keep HK1.out fun _ _ x => x) (by have := HM.out; omega)
    go_wp2_with (at_builtin; refine stopAt ?_; intro q hq)
    refine hle.mono ?_
    rintro e w2 ⟨g, cap, rfl, hL⟩
    have HK2 := hid (HK1.out.next hL.keep (H := fun _ => False) (fun _ _ x => x) (fun _ _ x => x))
    have HL := hid hL
    clear hle hL
    have hri := right_any w2 ao n c l (SliceOf.keepF H0.out.1 HK2.out (fun _ _ _ _ _ x => x)) H0.out.2.2.1
    obtain ⟨r, hr⟩ : ∃ r : Int, r = if right l then 0 else 2 := ⟨_, rfl⟩
    have Hr := hid hr
    rw [← hr] at hri
    clear hr
    go_wp2_with (at_builtin; refine stopAt ?_; intro q hq)
    refine hri.mono ?_
    rintro e w3 ⟨rfl, hk3⟩
    have HK3 := hid (HK2.out.next hk3 (H := fun _ => False) (fun _ _ x => x) (fun _ _ x => x))
    have HL3 := hid hk3
    clear hri hk3
    have hen := encode_any w3 ao n c l (SliceOf.keepF H0.out.1 HK3.out (fun _ _ _ _ _ x => x)) H0.out.2.2.1
    go_wp2_with (at_builtin; refine stopAt ?_; intro q hq)
    refine hen.mono ?_
    rintro e w4 ⟨cv, rfl, hf4⟩
    obtain ⟨B, hB⟩ : ∃ B, B = if encE l = 0 then enc l else [] := ⟨_, rfl⟩
    obtain ⟨E, hE⟩ : ∃ E : Nat, E = encE l := ⟨_, rfl⟩
    rw [← hB] at hf4
    rw [← hE]
    obtain ⟨ca, cc, rfl, -⟩ := hf4.row.form
    have hc4 := Cells.of_row hf4.row
    have HK4 := hid (HK3.out.next hf4.keep (H := fun _ => False) (fun _ _ x => x) (fun _ _ x => x))
    have HL4 := hid (HL3.out.next hf4.keep (H := fun _ => False) (fun _ _ x => x) (fun _ _ x => x))
    have HB := hid (And.intro hB (And.intro hE hc4))
    obtain ⟨nb, hnb⟩ : ∃ nb, nb = B.length := ⟨_, rfl⟩
    rw [← hnb]
    have Hnb := hid hnb
    clear hen hf4 hB hE hc4 hnb
    have hde := decode_any w4 (some ⟨g, 0, none⟩) m cap b ((HL.out.cells H0.out.2.2.2.1).keep HL4.out (fun _ _ x => x)) (by have := HM.out; omega)
    obtain ⟨dg, hdg⟩ : ∃ dg : Int, dg = if (dec b).isSome then 0 else 50 := ⟨_, rfl⟩
    obtain ⟨dl, hdl⟩ : ∃ dl, dl = (dec b).getD [] := ⟨_, rfl⟩
    have HD := hid (And.intro hdg hdl)
    go_wp2_with (at_builtin; refine stopAt ?_; intro q hq)
    refine hde.mono ?_
    intro e w5 hp
    obtain ⟨ma, mn, mc, rfl, hms, hmn, hk5⟩ := hp.form
    rw [← hdg]
    rw [← hdl] at hms hmn
    have HK5 := hid (HK4.out.next hk5 (H := fun _ => False) (fun _ _ x => x) (fun _ _ x => x))
    have HL5 := hid hk5
    have HM5 := hid (And.intro hms hmn)
    clear hde hp hdg hdl hms hmn hk5
    have hen := rencode_any w5 ao n c l (SliceOf.keepF H0.out.1 HK5.out (fun _ _ _ _ _ x => x)) H0.out.2.2.1
    go_wp2_with (at_builtin; refine stopAt ?_; intro q hq)
    refine hen.mono ?_
    rintro e w6 ⟨cv, rfl, hf6⟩
    rw [← HB.out.1] at hf6
    rw [← HB.out.2.1]
    obtain ⟨ra, rc, rfl, -⟩ := hf6.row.form
    have hc6 := Cells.of_row hf6.row
    rw [← Hnb.out] at hc6 ⊢
    have HK6 := hid (HK5.out.next hf6.keep (H := fun _ => False) (fun _ _ x => x) (fun _ _ x => x))
    have HL6 := hid (HL5.out.next hf6.keep (H := fun _ => False) (fun _ _ x => x) (fun _ _ x => x))
    have H6 := hid (And.intro hc6 hf6.keep)
    clear hen hf6 hc6
    have hde := rdecode_any w6 bo m bc b (H0.out.2.1.keep HK6.out fun _ _ x => x) H0.out.2.2.2.2 (by have := HM.out; omega)
    go_wp2_with (at_builtin; refine stopAt ?_; intro q hq)
    refine hde.mono ?_
    intro e w7 hp
    obtain ⟨qa, qn, qc, rfl, hms, hmn, hk7⟩ := hp.form
    rw [← HD.out.1]
    rw [← HD.out.2] at hms hmn
    have HK7 := hid (HK6.out.next hk7 (H := fun _ => False) (fun _ _ x => x) (fun _ _ x => x))
    have HL7 := hid (HL6.out.next hk7 (H := fun _ => False) (fun _ _ x => x) (fun _ _ x => x))
    have H7 := hid (And.intro hms (And.intro hmn hk7))
    clear hde hp hms hmn hk7
    have hri := rright_any w7 ao n c l (SliceOf.keepF H0.out.1 HK7.out (fun _ _ _ _ _ x => x)) H0.out.2.2.1
    rw [← Hr.out] at hri
    go_wp2_with (at_builtin; refine stopAt ?_; intro q hq)
    refine hri.mono ?_
    rintro e w8 ⟨rfl, hk8⟩
    have HK8 := hid (HK7.out.next hk8 (H := fun _ => False) (fun _ _ x => x) (fun _ _ x => x))
    have HL8 := hid hk8
    clear hri hk8
    have hsa := same_any w8 ca ra nb nb cc rc B B (by rw [Hnb.out]; exact HB.out.2.2.keep (HL7.out.next HL8.out (H := fun _ => False) (fun _ _ x => x) (fun _ _ x => x)) (fun _ _ x => x)) (by exact H6.out.1.keep (H7.out.2.2.next HL8.out (H := fun _ => False) (fun _ _ x => x) (fun _ _ x => x)) (fun _ _ x => x))
    rw [show decide (B = B) = true from decide_eq_true rfl] at hsa
    go_wp2_with (at_builtin; refine stopAt ?_; intro q hq)
    refine hsa.mono ?_
    rintro e w9 ⟨rfl, rfl⟩
    clear hsa
    have hsc := same_chs w8 ma qa mn mc qn qc dl dl (SliceOf.keepF HM5.out.1 ((H6.out.2.next H7.out.2.2 (H := fun _ => False) (fun _ _ x => x) (fun _ _ x => x)).next HL8.out (H := fun _ => False) (fun _ _ x => x) (fun _ _ x => x)) (fun _ _ _ _ _ x => x)) (SliceOf.keepF H7.out.1 HL8.out (fun _ _ _ _ _ x => x)) HM5.out.2 H7.out.2.1
    rw [show decide (dl = dl) = true from decide_eq_true rfl] at hsc
    go_wp2_with (at_builtin; refine stopAt ?_; intro q hq)
    refine hsc.mono ?_
    rintro e w9 ⟨rfl, hk9⟩
    have HK9 := hid (HK8.out.next hk9 (H := fun _ => False) (fun _ _ x => x) (fun _ _ x => x))
    have HLL := hid (((HL4.out.next HL7.out (H := fun _ => False) (fun _ _ x => x) (fun _ _ x => x)).next HL8.out (H := fun _ => False) (fun _ _ x => x) (fun _ _ x => x)).next hk9 (H := fun _ => False) (fun _ _ x => x) (fun _ _ x => x))
    clear hsc hk9
    have hwh := whole_any w9 g m cap bc bo b (HL.out.row.keep HLL.out (fun _ _ x => x)) (H0.out.2.1.keep HK9.out fun _ _ x => x) (by have := HM.out; omega)
    go_wp2_with (at_builtin; refine stopAt ?_; intro q hq)
    refine hwh.mono ?_
    rintro e w10 ⟨rfl, hk⟩
    have HK10 := hid (HK9.out.next hk (H := fun _ => False) (fun _ _ x => x) (fun _ _ x => x))
    clear hwh hk
    go_wp2_with (at_builtin; refine stopAt ?_; intro q hq)
    refine (sknown_any _).mono ?_
    rintro e w11 ⟨rfl, hk⟩
    have HZ := hid (HK10.out.next hk (H := fun _ => False) (fun _ _ x => x) (fun _ _ x => x))
    clear hk
    go_wp2_with (at_builtin; refine stopAt ?_; intro q hq)
    go_ret
    exact ⟨rfl, HZ.out⟩
end Go.Proofs.Ytnidpeeljoaelaa
/- Store: StoreBack's walk. Conditions: none. -/
namespace Go.Proofs.Ytnidpeeljoaelaa
open Go.RowKit Go.Deep
open MI SO BM DM WM

theorem enc_pos (l : List Ch) : 0 < (enc l).length := by
  unfold enc
  rw [List.length_append]
  have : 1 ≤ (putU 10 l.length).length := putU_pos 9 l.length
  unfold putUint
  omega
theorem encE_zero {l : List Ch} (h : encE l = 0) : right l = true ∧ (enc l).length ≤ 1024 := by
  unfold encE at h
  by_cases hr : right l = true
  · rw [if_pos hr] at h
    refine ⟨hr, ?_⟩
    by_cases h1 : 1024 < (enc l).length
    · rw [if_pos h1] at h; cases h
    · omega
  · rw [if_neg hr] at h; cases h
theorem encE_of {l : List Ch} (h : right l = true) (h1 : (enc l).length ≤ 1024) : encE l = 0 := by
  unfold encE
  rw [if_pos h, if_neg (by omega)]

set_option maxRecDepth 20000 in
set_option maxHeartbeats 4000000 in
theorem sback_walk (w : World) (v : Value) (l : List Ch) (hl : Chs w v l) (bv : Value) (b : List UInt8) (hb : Octets w bv b) (o : UInt8) :
    Calls Try.prog 4 #[v, bv, .int .u8 (o.toNat : Int)] w fun e w' => e = .returned (.bool true) ∧ Keep (fun _ => False) w w' := by
  obtain ⟨ao, c, rfl, hlc, hcm⟩ := hl.form
  obtain ⟨bo, bc, rfl, hbc, hbm, hcs⟩ := hb.cells
  obtain ⟨n, hn⟩ : ∃ n, n = l.length := ⟨_, rfl⟩
  obtain ⟨m, hm⟩ : ∃ m, m = b.length := ⟨_, rfl⟩
  rw [← hn] at hl ⊢
  rw [← hm] at hcs hbc ⊢
  have hhe := sheavy_any w ao n c l hl hn
  have H0 := hid (And.intro hl (And.intro hcs (And.intro hn (And.intro hm hbc))))
  clear hl hcs hn hm hlc hcm hb hbm hbc
  go_enter Try.func4, Try.ntmps4
  go_wp2_with (at_builtin; refine stopAt ?_; intro q hq)
  refine hhe.mono ?_
  rintro e w1 ⟨x, rfl, hk⟩
  have HK1 := hid hk
  clear hhe hk
  by_cases hbig : x = true ∨ (8000 : Int) < m
  · have cut : x = true ∨ (x = false ∧ (8000 : Int) < m) := by
      cases x
      · rcases hbig with h | h
        · cases h
        · exact .inr ⟨rfl, h⟩
      · exact .inl rfl
    clear hbig
    rcases cut with rfl | ⟨rfl, h8⟩
    all_goals
      go_wp2_with (at_builtin; refine stopAt ?_; intro q hq)
      refine (sknown_any _).mono ?_
      rintro e w2 ⟨rfl, hk⟩
      have HZ := hid (HK1.out.next hk (H := fun _ => False) (fun _ _ x => x) (fun _ _ x => x))
      clear hk
      go_wp2_with (at_builtin; refine stopAt ?_; intro q hq)
      go_ret
      exact ⟨rfl, HZ.out⟩
  · have hx : x = false := by cases x with
      | true => exact absurd (.inl rfl) hbig
      | false => rfl
    have h8 : decide ((8000 : Int) < m) = false := by simp; omega
    have hm8 : m ≤ 8000 := by omega
    have HM := hid hm8
    subst hx
    clear hbig hm8
    have hen := encode_any w1 ao n c l (SliceOf.keepF H0.out.1 HK1.out (fun _ _ _ _ _ x => x)) H0.out.2.2.1
    go_wp2_with (at_builtin; refine stopAt ?_; intro q hq)
    refine hen.mono ?_
    rintro e w2 ⟨cv, rfl, hf2⟩
    obtain ⟨B, hB⟩ : ∃ B, B = if encE l = 0 then enc l else [] := ⟨_, rfl⟩
    obtain ⟨E, hE⟩ : ∃ E : Nat, E = encE l := ⟨_, rfl⟩
    rw [← hB] at hf2
    rw [← hE]
    obtain ⟨ca, cc, rfl, -⟩ := hf2.row.form
    have hr2 := hf2.row
    have HK2 := hid (HK1.out.next hf2.keep (H := fun _ => False) (fun _ _ x => x) (fun _ _ x => x))
    obtain ⟨nb, hnb⟩ : ∃ nb, nb = B.length := ⟨_, rfl⟩
    rw [← hnb] at hr2 ⊢
    have HB := hid (And.intro hB (And.intro hE (And.intro hr2 hnb)))
    clear hen hf2 hB hE hr2 hnb
    by_cases he : E = 0
    case' pos =>
      have hBl : B = enc l := by rw [HB.out.1, if_pos (by rw [← HB.out.2.1, he])]
      have hri := encE_zero (l := l) (by rw [← HB.out.2.1, he])
      have hp : 0 < nb := by rw [HB.out.2.2.2, hBl]; exact enc_pos l
      have h1 : nb ≤ 1024 := by rw [HB.out.2.2.2, hBl]; exact hri.2
      have q0 : ((nb : Int) == 0) = false := by simp; omega
      have HE := hid (And.intro hBl (And.intro hri (And.intro hp h1)))
      subst he
      clear hBl hri hp h1
      have hde := decode_any w2 ca nb cc B (Cells.of_row HB.out.2.2.1) (by have := HE.out.2.2.2; omega)
      have hdd : dec B = some l := by rw [HE.out.1]; exact enc_dec HE.out.2.1.1 HE.out.2.1.2
      have HD := hid hdd
      clear hdd
      go_wp2_with (at_builtin; refine stopAt ?_; intro q hq)
      refine hde.mono ?_
      intro e w3 hp
      obtain ⟨ma, mn, mc, rfl, hms, hmn, hk3⟩ := hp.form
      rw [HD.out] at hms hmn ⊢
      have HM3 := hid (And.intro hms (And.intro hmn hk3))
      clear hde hp hms hmn hk3
      have hcp := copy_any w3 ca nb cc B ((Cells.of_row HB.out.2.2.1).keep HM3.out.2.2 (fun _ _ x => x)) (by have := HE.out.2.2.2; omega)
      go_wp2_with (at_builtin; refine stopAt ?_; intro q hq)
      refine hcp.mono ?_
      rintro e w4 ⟨xv, rfl, hf4⟩
      obtain ⟨xa, xc, rfl, -⟩ := hf4.row.form
      have hr4 := hf4.row
      have hw4 := hf4.own
      rw [← HB.out.2.2.2] at hr4 hw4 ⊢
      have HF4 := hid (And.intro hr4 (And.intro hf4.keep hw4))
      clear hcp hf4 hr4 hw4
      go_wp2_with (at_builtin; refine stopAt ?_; intro q hq)
      (refine hq.out ?_; clear hq q)
      obtain ⟨hr4, hk4, ho4⟩ := HF4.out
      have hBn := heap_alloc_new w4 (.cells #[.int .u8 (o.toNat : Int)] 5)
      have kB : Keep (fun _ => False) w4 (w4.alloc (.cells #[.int .u8 (o.toNat : Int)] 5)) := (Keep.refl _ _).alloc _
      obtain ⟨wB, hwB⟩ : ∃ wB, wB = w4.alloc (.cells #[.int .u8 (o.toNat : Int)] 5) := ⟨_, rfl⟩
      rw [← hwB] at hBn kB ⊢
      have hev : Cells wB (some ⟨w4.heap.size, 0, none⟩) 1 1 (bytesV [o]) := ⟨rfl, fun _ => ⟨_, rfl, fun j u hu => by rw [addr_add, Nat.zero_add, cell_of_row _ _ _ _ _ _ hBn]; simpa [bytesV] using hu⟩⟩
      refine wpList_plain rfl (fun K hK => ?_)
      refine wp_append (v := .slice xa nb xc) ty_bytes (.tmp 49) (.tmp 51) rfl rfl (hr4.keep kB fun _ _ x => x) (some ⟨w4.heap.size, 0, none⟩) 1 1 (bytesV [o]) rfl hev (bytesV_one _) (by have := HE.out.2.2.2; unfold maxLen; omega) (by have := HE.out.2.2.2; omega) ?_
      intro v6 w6 hr6 hk6 hv6
      refine hK _ _ ?_
      clear hK K
      obtain ⟨ya, yc, rfl, -⟩ := hr6.form
      rw [← bytesV_append] at hr6
      have hkk := ((hk4.next kB (H := fun _ => False) (fun _ _ x => x) (fun _ _ x => x)).next hk6 (H := fun _ => False) (fun _ _ x => x) (fun k hk x => by have := ho4 k x; omega))
      have H6 := hid (And.intro hr6 hkk)
      clear hr6 hk6 hv6 hev hBn kB hwB hr4 hk4 ho4 hkk
      have hde := decode_any w6 ya (nb + 1) yc (B ++ [o]) (Cells.of_row H6.out.1) (by have := HE.out.2.2.2; omega)
      have hdd : dec (B ++ [o]) = none := by rw [HE.out.1]; exact dec_more HE.out.2.1.1 (by simp)
      have HD2 := hid hdd
      clear hdd
      go_wp2_with (at_builtin; refine stopAt ?_; intro q hq)
      refine hde.mono ?_
      intro e w7 hp
      have hk7 := hp.1
      have he7 := hp.2
      rw [HD2.out] at he7
      subst he7
      have HK7 := hid (HM3.out.2.2.next (H6.out.2.next hk7 (H := fun _ => False) (fun _ _ x => x) (fun _ _ x => x)) (H := fun _ => False) (fun _ _ x => x) (fun _ _ x => x))
      have HJ7 := hid (H6.out.2.next hk7 (H := fun _ => False) (fun _ _ x => x) (fun _ _ x => x))
      clear hde hp hk7
      obtain ⟨q, hq⟩ : ∃ q, nb - 1 = q := ⟨_, rfl⟩
      have hq1 : (nb : Int) - 1 = (q : Int) := by have := HE.out.2.2.1; omega
      have hqb : q ≤ 1024 := by have := HE.out.2.2.2; omega
      have hqn : q ≤ nb := by omega
      have hsl := fun w => run_sliceAt_hi2 (P := Try.prog) ty_bytes ca nb cc .i64 q (by obtain ⟨_, _, e, x1, _⟩ := HB.out.2.2.1.form; cases e; omega) w
      have hcp := ((HB.out.2.2.1.cut q hqn).keep HK7.out (fun _ _ x => x))
      have hcut : Cells w7 ca q 1 (bytesV (B.take q)) := by
        have := Cells.of_row hcp
        rwa [Nat.mul_one, show (bytesV B).take q = bytesV (B.take q) by simp [bytesV, List.map_take]] at this
      have hde := decode_any w7 ca q cc (B.take q) hcut (by have := HE.out.2.2.2; omega)
      have hdd : dec (B.take q) = none := by rw [← hq, HB.out.2.2.2, HE.out.1]; exact dec_less HE.out.2.1.1 HE.out.2.1.2
      have HD3 := hid hdd
      clear hdd hcp hcut hq hqn
      go_wp2_with (at_builtin; refine stopAt ?_; intro q hq)
      refine hde.mono ?_
      intro e w8 hp
      have hk8 := hp.1
      have he8 := hp.2
      rw [HD3.out] at he8
      subst he8
      have HK8 := hid (HK2.out.next (HK7.out.next hk8 (H := fun _ => False) (fun _ _ x => x) (fun _ _ x => x)) (H := fun _ => False) (fun _ _ x => x) (fun _ _ x => x))
      have HJ8 := hid (HJ7.out.next hk8 (H := fun _ => False) (fun _ _ x => x) (fun _ _ x => x))
      clear hde hp hk8 hsl
      have hsc := same_chs w8 ma ao mn mc n c l l (SliceOf.keepF HM3.out.1 HJ8.out (fun _ _ _ _ _ x => x)) (SliceOf.keepF H0.out.1 HK8.out (fun _ _ _ _ _ x => x)) HM3.out.2.1 H0.out.2.2.1
      rw [show decide (l = l) = true from decide_eq_true rfl] at hsc
      go_wp2_with (at_builtin; refine stopAt ?_; intro q hq)
      refine hsc.mono ?_
      rintro e wT ⟨rfl, hk⟩
      have HKT := hid (HK8.out.next hk (H := fun _ => False) (fun _ _ x => x) (fun _ _ x => x))
      clear hsc hk
    case' neg =>
      have q0 : ((E : Int) == 0) = false := by simp; omega
      obtain ⟨wT, hwT⟩ : ∃ wT, wT = w2 := ⟨_, rfl⟩
      have HKT := HK2
      rw [← hwT] at HKT ⊢
      clear hwT
    all_goals
      have hde := decode_any wT bo m bc b (H0.out.2.1.keep HKT.out fun _ _ x => x) (by have := HM.out; omega)
      go_wp2_with (at_builtin; refine stopAt ?_; intro q hq)
      refine hde.mono ?_
      intro e v3 hp
      obtain ⟨da, dn, dc, rfl, hms, hmn, hk⟩ := hp.form
      have HV := hid (HKT.out.next hk (H := fun _ => False) (fun _ _ x => x) (fun _ _ x => x))
      have HV3 := hid (And.intro hms hmn)
      clear hde hp hms hmn hk
      cases hd : dec b with
      | none =>
        have Hd := hid hd
        clear hd
        simp only [Option.isSome_none, Bool.false_eq_true, if_false]
        go_wp2_with (at_builtin; refine stopAt ?_; intro q hq)
        refine (sknown_any _).mono ?_
        rintro e v4 ⟨rfl, hk⟩
        have HZ := hid (HV.out.next hk (H := fun _ => False) (fun _ _ x => x) (fun _ _ x => x))
        clear hk
        go_wp2_with (at_builtin; refine stopAt ?_; intro q hq)
        go_ret
        exact ⟨rfl, HZ.out⟩
      | some lb =>
        obtain ⟨d1, d2, d3⟩ := dec_enc hd
        obtain ⟨hms, hmn⟩ := HV3.out
        rw [hd] at hms hmn
        simp only [Option.getD_some] at hms hmn
        have e0 : encE lb = 0 := encE_of d1 (by rw [d2]; exact d3)
        have hen := encode_any v3 da dn dc lb hms hmn
        unfold EncPost at hen
        rw [e0] at hen
        simp only [if_true, d2] at hen
        clear d1 d2 d3 hms hmn hd e0
        simp only [Option.isSome_some, if_true]
        go_wp2_with (at_builtin; refine stopAt ?_; intro q hq)
        refine hen.mono ?_
        rintro e v4 ⟨ev, rfl, hf⟩
        obtain ⟨ea, ec, rfl, -⟩ := hf.row.form
        have hr := Cells.of_row hf.row
        have HV4 := hid (HV.out.next hf.keep (H := fun _ => False) (fun _ _ x => x) (fun _ _ x => x))
        have hr : Cells v4 ea m 1 (bytesV b) := by rw [H0.out.2.2.2.1]; exact hr
        rw [← H0.out.2.2.2.1]
        have hsa := same_any v4 ea bo m m ec bc b b hr (H0.out.2.1.keep HV4.out fun _ _ x => x)
        rw [show decide (b = b) = true from decide_eq_true rfl] at hsa
        clear hen hf hr
        go_wp2_with (at_builtin; refine stopAt ?_; intro q hq)
        refine hsa.mono ?_
        rintro e v5 ⟨rfl, rfl⟩
        clear hsa
        go_wp2_with (at_builtin; refine stopAt ?_; intro q hq)
        refine (sknown_any _).mono ?_
        rintro e v6 ⟨rfl, hk⟩
        have HZ := hid (HV4.out.next hk (H := fun _ => False) (fun _ _ x => x) (fun _ _ x => x))
        clear hk
        go_wp2_with (at_builtin; refine stopAt ?_; intro q hq)
        go_ret
        exact ⟨rfl, HZ.out⟩
end Go.Proofs.Ytnidpeeljoaelaa
