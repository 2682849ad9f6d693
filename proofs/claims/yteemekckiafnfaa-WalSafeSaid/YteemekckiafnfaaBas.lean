/- Texts WsA, WsB, WsC, WsD, WsE, WsF, WsG, WsH, WsJ, WsI in one. Conditions: as each law names them. -/
import Derived.ChangeArms
import Derived.Test.YteemekckiafnfaaBar
/- The log's disk, sector by sector: what is written, wiped, opened again. Conditions: as the laws name them. -/
namespace Go.Proofs.Yteemekckiafnfaa.WM
open DM BM Go.Proofs.Yteemekckiafnfaa

/-- A sector as it is read. -/
def nowAt (D : Dk) (p : Nat) : Sec := (now D).getD p []

theorem now_snoc {D E : Dk} {i : Nat} {b : Sec} (hs : E.safe = D.safe) (hw : E.waits = D.waits ++ [(i, b)]) : now E = (now D).set i b := by
  unfold now
  rw [hs, hw, puts_append]
  rfl
theorem nowAt_snoc {D E : Dk} {i : Nat} {b : Sec} (hs : E.safe = D.safe) (hw : E.waits = D.waits ++ [(i, b)]) (hi : i < D.safe.length) (p : Nat) : nowAt E p = if p = i then b else nowAt D p := by
  have hl := now_length D
  unfold nowAt
  rw [now_snoc hs hw, List.getD_eq_getElem?_getD, List.getElem?_set]
  by_cases h : i = p
  · subst h
    rw [if_pos rfl, if_pos (by omega), if_pos rfl]
    rfl
  · rw [if_neg h, if_neg (fun e => h e.symm), List.getD_eq_getElem?_getD]
theorem nowAt_same {D E : Dk} (hs : E.safe = D.safe) (hw : E.waits = D.waits) (p : Nat) : nowAt E p = nowAt D p := by
  unfold nowAt now
  rw [hs, hw]
theorem nowAt_flat {D E : Dk} (hs : E.safe = now D) (hw : E.waits = []) (p : Nat) : nowAt E p = nowAt D p := by
  unfold nowAt now
  rw [hs, hw]
  rfl
theorem read_nowAt {D : Dk} (hd : D.down = false) (i : Nat) (hi : i < D.safe.length) : DM.read D (i : Int) = (nowAt D i, 0) := by
  unfold DM.read nowAt
  rw [hd, if_neg (by simp), if_neg (by omega)]
  simp
theorem nowAt_len {D : Dk} (ok : Ok D) (i : Nat) (hi : i < D.safe.length) : (nowAt D i).length = 32 := by
  have hl := now_length D
  have := ok.now _ (List.getElem_mem (l := now D) (n := i) (by omega))
  unfold nowAt
  rw [List.getD_eq_getElem?_getD, List.getElem?_eq_getElem (by omega)]
  exact this

theorem write_ok {D : Dk} {i : Nat} {b : Sec} (h : (DM.write D (i : Int) b).1 = 0) : i < D.safe.length ∧ b.length = 32 ∧ (DM.write D (i : Int) b).2.safe = D.safe ∧ (DM.write D (i : Int) b).2.waits = D.waits ++ [(i, b)] := by
  unfold DM.write at h ⊢
  split at h
  · cases h
  · rename_i h1
    rw [if_neg h1]
    split at h
    · cases h
    · rename_i h2
      rw [if_neg h2]
      split at h
      · rename_i h3
        rw [if_pos h3]
        refine ⟨by omega, by omega, act_safe D, ?_⟩
        show (DM.act D).2.waits ++ [((i : Int).toNat, b)] = _
        rw [act_waits]
        simp
      · cases h
theorem write_no {D : Dk} {i : Nat} {b : Sec} (hi : i < D.safe.length) (hb : b.length = 32) (h : (DM.write D (i : Int) b).1 ≠ 0) : (DM.write D (i : Int) b).1 = 6 ∧ (DM.write D (i : Int) b).2.safe = D.safe ∧ (DM.write D (i : Int) b).2.waits = D.waits := by
  unfold DM.write at h ⊢
  split
  · exact ⟨rfl, rfl, rfl⟩
  · rename_i h1
    rw [if_neg h1] at h
    rw [if_neg (by omega)] at h ⊢
    split
    · rename_i h3
      rw [if_pos h3] at h
      exact absurd rfl h
    · exact ⟨rfl, act_safe D, act_waits D⟩
theorem sync_ok {D : Dk} (h : (DM.sync D).1 = 0) : (DM.sync D).2.safe = now D ∧ (DM.sync D).2.waits = [] := by
  unfold DM.sync at h ⊢
  split at h
  · rename_i h3
    rw [if_pos h3]
    refine ⟨?_, rfl⟩
    show now (DM.act D).2 = _
    unfold now
    rw [act_safe, act_waits]
  · cases h
theorem sync_no {D : Dk} (h : (DM.sync D).1 ≠ 0) : (DM.sync D).1 = 6 ∧ (DM.sync D).2.safe = D.safe ∧ (DM.sync D).2.waits = D.waits := by
  unfold DM.sync at h ⊢
  split
  · rename_i h3
    rw [if_pos h3] at h
    exact absurd rfl h
  · exact ⟨rfl, act_safe D, act_waits D⟩

theorem first_eq {D E : Dk} (h : E.safe = D.safe) (ep : Nat) : WM.first E ep = WM.first D ep := by unfold WM.first half; rw [h]
theorem half_eq {D E : Dk} (h : E.safe.length = D.safe.length) : half E = half D := by unfold half; rw [h]

/-- Sectors of an area that are written: what waits then; what is read, if all went well. -/
theorem lay_waits_all (ep : Nat) (b : List UInt8) : ∀ k i (D : Dk), 6 ≤ D.safe.length → i + k ≤ half D → b.length = 32 * half D →
    (lay ep b i k D).2.safe = D.safe ∧ (∃ ws, (lay ep b i k D).2.waits = D.waits ++ ws ∧ ∀ x ∈ ws, ∃ j, i ≤ j ∧ j < i + k ∧ x = (WM.first D ep + j, secOf b j)) ∧ ((lay ep b i k D).1 ≠ 0 → (lay ep b i k D).1 = 6) ∧
    ((lay ep b i k D).1 = 0 → ∀ p, (∀ j, i ≤ j → j < i + k → p = WM.first D ep + j → nowAt (lay ep b i k D).2 p = secOf b j) ∧ ((∀ j, i ≤ j → j < i + k → p ≠ WM.first D ep + j) → nowAt (lay ep b i k D).2 p = nowAt D p))
  | 0, i, D, _, _, _ => ⟨rfl, ⟨[], by simp [lay], by simp⟩, fun h => absurd rfl h, fun _ p => ⟨fun j h1 h2 => by omega, fun _ => rfl⟩⟩
  | k + 1, i, D, h6, hik, hb => by
    have hfl := first_lt (D := D) ep i h6 (by omega)
    have hsl : (secOf b i).length = 32 := by unfold secOf; rw [List.length_take, List.length_drop]; omega
    unfold lay
    simp only
    by_cases h0 : (DM.write D ((WM.first D ep + i : Nat) : Int) (secOf b i)).1 = 0
    · rw [if_pos h0]
      obtain ⟨_, _, w1, w2⟩ := write_ok h0
      have hn := fun p => nowAt_snoc w1 w2 hfl p
      have hF := first_eq w1 ep
      have hH : half (DM.write D ((WM.first D ep + i : Nat) : Int) (secOf b i)).2 = half D := half_eq (by rw [w1])
      obtain ⟨i1, ⟨ws, i2, i3⟩, i4, i5⟩ := lay_waits_all ep b k (i + 1) _ (by rw [w1]; exact h6) (by rw [hH]; omega) (by rw [hH]; exact hb)
      generalize (DM.write D ((WM.first D ep + i : Nat) : Int) (secOf b i)).2 = E at *
      rw [hF] at i3 i5
      refine ⟨i1.trans w1, ⟨(WM.first D ep + i, secOf b i) :: ws, by rw [i2, w2]; simp, fun x hx => ?_⟩, i4, fun h p => ?_⟩
      · rcases List.mem_cons.1 hx with rfl | hx
        · exact ⟨i, Nat.le_refl _, by omega, rfl⟩
        · obtain ⟨j, j1, j2, j3⟩ := i3 x hx
          exact ⟨j, by omega, by omega, j3⟩
      · obtain ⟨q1, q2⟩ := i5 h p
        refine ⟨fun j j1 j2 j3 => ?_, fun hne => ?_⟩
        · by_cases hj : j = i
          · subst hj
            rw [q2 (fun j' a1 a2 a3 => by omega), hn, if_pos j3]
          · exact q1 j (by omega) (by omega) j3
        · rw [q2 (fun j a1 a2 => hne j (by omega) (by omega)), hn, if_neg (hne i (Nat.le_refl _) (by omega))]
    · rw [if_neg h0]
      obtain ⟨w0, w1, w2⟩ := write_no hfl hsl h0
      exact ⟨w1, ⟨[], by rw [w2, List.append_nil], by simp⟩, fun _ => w0, fun h => absurd h h0⟩
end Go.Proofs.Yteemekckiafnfaa.WM
/- A log is opened on a disk that is up and not armed, and opened once more. Conditions: as the laws name them. -/
namespace Go.Proofs.Yteemekckiafnfaa.WM
open DM BM Go.Proofs.Yteemekckiafnfaa

theorem gd0 (l : List UInt8) (k : Nat) : l.getD k 0 = (l[k]?).getD 0 := List.getD_eq_getElem?_getD

/-- A sector of bytes, place by place. -/
theorem secOf_getD (b : List UInt8) (i k : Nat) (hk : k < 32) : (secOf b i)[k]? = b[32 * i + k]? := by
  unfold secOf
  rw [List.getElem?_take, if_pos hk, List.getElem?_drop]
theorem secOf_len {b : List UInt8} {h : Nat} (hb : b.length = 32 * h) {i : Nat} (hi : i < h) : (secOf b i).length = 32 := by
  unfold secOf; rw [List.length_take, List.length_drop]; omega
theorem secOf_ext {a b : List UInt8} {h i : Nat} (ha : a.length = 32 * h) (hb : b.length = 32 * h) (hi : i < h) (he : ∀ k, k < 32 → a[32 * i + k]? = b[32 * i + k]?) : secOf a i = secOf b i := by
  apply List.ext_getElem?
  intro k
  by_cases hk : k < 32
  · rw [secOf_getD _ _ _ hk, secOf_getD _ _ _ hk, he k hk]
  · rw [List.getElem?_eq_none (by rw [secOf_len ha hi]; omega), List.getElem?_eq_none (by rw [secOf_len hb hi]; omega)]

theorem clean_len (B : List UInt8) (en : Nat) : (clean B en).length = B.length := by unfold clean; rw [List.length_append, List.length_take, List.length_replicate]; omega
theorem clean_get {B : List UInt8} {en j : Nat} (hj : j < B.length) : (clean B en)[j]? = some (if j < en then B.getD j 0 else 0) := by
  unfold clean
  by_cases h : j < en
  · rw [List.getElem?_append_left (by rw [List.length_take]; omega), List.getElem?_take, if_pos h, if_pos h, gd _ _ hj]
  · rw [List.getElem?_append_right (by rw [List.length_take]; omega), List.length_take, List.getElem?_replicate, if_pos (by omega), if_neg h]
theorem dirty_no {B : List UInt8} {en i : Nat} (h : dirty B en i = false) {k : Nat} (hk : k < 32) (he : en ≤ 32 * i + k) : B.getD (32 * i + k) 0 = 0 := by
  unfold dirty at h
  have h1 := List.any_eq_false.1 h k (List.mem_range.2 hk)
  simp only [Bool.and_eq_true, decide_eq_true_eq, not_and, Decidable.not_not] at h1
  exact h1 he
theorem clean_same {B : List UInt8} {en h i : Nat} (hb : B.length = 32 * h) (hi : i < h) (hd : dirty B en i = false) : secOf (clean B en) i = secOf B i :=
  secOf_ext (by rw [clean_len]; exact hb) hb hi fun k hk => by
    rw [clean_get (by omega), gd B _ (by omega)]
    split
    · rfl
    · rw [dirty_no hd hk (by omega)]
theorem clean_clean {B : List UInt8} {en h i : Nat} (hb : B.length = 32 * h) (hi : i < h) : dirty (clean B en) en i = false := by
  unfold dirty
  rw [List.any_eq_false]
  intro k hk
  rw [List.mem_range] at hk
  simp only [Bool.and_eq_true, decide_eq_true_eq, not_and, Decidable.not_not]
  intro he
  rw [gd0, clean_get (by omega), if_neg (by omega)]
  rfl

/-- Wiping: all goes well; each sector is clean. -/
theorem wipe_calm (ep : Nat) (B : List UInt8) (en : Nat) : ∀ k i wr (D : Dk), Calm D → Ok D → 6 ≤ D.safe.length → i + k ≤ half D → B.length = 32 * half D →
    (wipe ep B en i k wr D).1 = 0 ∧ Calm (wipe ep B en i k wr D).2.2 ∧ Ok (wipe ep B en i k wr D).2.2 ∧ (wipe ep B en i k wr D).2.2.safe = D.safe ∧ ((wipe ep B en i k wr D).2.1 = false → (wipe ep B en i k wr D).2.2 = D) ∧
    ∀ p, (∀ j, i ≤ j → j < i + k → p = WM.first D ep + j → nowAt (wipe ep B en i k wr D).2.2 p = if dirty B en j then secOf (clean B en) j else nowAt D p) ∧ ((∀ j, i ≤ j → j < i + k → p ≠ WM.first D ep + j) → nowAt (wipe ep B en i k wr D).2.2 p = nowAt D p)
  | 0, i, wr, D, hc, ok, _, _, _ => ⟨rfl, hc, ok, rfl, fun _ => rfl, fun p => ⟨fun j h1 h2 => by omega, fun _ => rfl⟩⟩
  | k + 1, i, wr, D, hc, ok, h6, hik, hb => by
    have hfl := first_lt (D := D) ep i h6 (by omega)
    have hcl : (clean B en).length = 32 * half D := by rw [clean_len]; exact hb
    have hsl := secOf_len hcl (i := i) (by omega)
    unfold wipe
    by_cases hd : dirty B en i = true
    · rw [if_pos hd]
      have hw := write_calm hc (WM.first D ep + i) hfl (secOf (clean B en) i) hsl
      have hok := ok.write ((WM.first D ep + i : Nat) : Int) (secOf (clean B en) i)
      simp only
      rw [hw] at hok ⊢
      simp only [if_true]
      obtain ⟨E, hE⟩ : ∃ E : Dk, E = { D with waits := D.waits ++ [(WM.first D ep + i, secOf (clean B en) i)] } := ⟨_, rfl⟩
      rw [← hE] at hok ⊢
      have hEs : E.safe = D.safe := by rw [hE]
      have hn := fun p => nowAt_snoc (D := D) (E := E) hEs (by rw [hE]) hfl p
      have hF := first_eq hEs ep
      have hH : half E = half D := half_eq (by rw [hEs])
      obtain ⟨a1, a2, a3, a4, a5, a6⟩ := wipe_calm ep B en k (i + 1) true E (by rw [hE]; exact hc) hok (by rw [hEs]; exact h6) (by rw [hH]; omega) (by rw [hH]; exact hb)
      rw [hF] at a6
      refine ⟨a1, a2, a3, a4.trans hEs, fun h => ?_, fun p => ?_⟩
      · exfalso
        have : ∀ k i (D : Dk), (wipe ep B en i k true D).2.1 = true := by
          intro k
          induction k with
          | zero => intro i D; rfl
          | succ k ih =>
            intro i D
            unfold wipe
            split
            · simp only
              split
              · exact ih _ _
              · rfl
            · exact ih _ _
        rw [this] at h
        cases h
      · obtain ⟨q1, q2⟩ := a6 p
        refine ⟨fun j j1 j2 j3 => ?_, fun hne => ?_⟩
        · by_cases hj : j = i
          · subst hj
            rw [q2 (fun j' b1 b2 b3 => by omega), hn, if_pos j3, if_pos hd]
          · have he : nowAt E p = nowAt D p := by rw [hn, if_neg (by omega)]
            rw [q1 j (by omega) (by omega) j3, he]
        · rw [q2 (fun j b1 b2 => hne j (by omega) (by omega)), hn, if_neg (hne i (Nat.le_refl _) (by omega))]
    · rw [if_neg hd]
      obtain ⟨a1, a2, a3, a4, a5, a6⟩ := wipe_calm ep B en k (i + 1) wr D hc ok h6 (by omega) hb
      refine ⟨a1, a2, a3, a4, a5, fun p => ?_⟩
      obtain ⟨q1, q2⟩ := a6 p
      refine ⟨fun j j1 j2 j3 => ?_, fun hne => q2 (fun j b1 b2 => hne j (by omega) (by omega))⟩
      by_cases hj : j = i
      · subst hj
        rw [q2 (fun j' b1 b2 b3 => by omega), if_neg hd]
      · exact q1 j (by omega) (by omega) j3

/-- An area's bytes, sector by sector. -/
theorem bytes_flat {D : Dk} (hd : D.down = false) (h6 : 6 ≤ D.safe.length) (ep : Nat) : WM.bytes D ep = ((List.range (half D)).map fun i => nowAt D (WM.first D ep + i)).flatten := by
  unfold WM.bytes
  congr 1
  apply List.map_congr_left
  intro i hi
  rw [List.mem_range] at hi
  rw [read_nowAt hd _ (first_lt ep i h6 hi)]
theorem flat_secs (f : Nat → Sec) (hf : ∀ i, (f i).length = 32) : ∀ h, ((List.range h).map f).flatten.length = 32 * h ∧ ∀ i k, i < h → k < 32 → ((List.range h).map f).flatten[32 * i + k]? = (f i)[k]?
  | 0 => ⟨rfl, fun i k h => by omega⟩
  | h + 1 => by
    obtain ⟨h1, h2⟩ := flat_secs f hf h
    rw [List.range_succ, List.map_append, List.flatten_append]
    simp only [List.map_cons, List.map_nil, List.flatten_cons, List.flatten_nil, List.append_nil]
    refine ⟨by rw [List.length_append, h1, hf]; omega, fun i k hi hk => ?_⟩
    by_cases hih : i < h
    · rw [List.getElem?_append_left (by omega)]
      exact h2 i k hih hk
    · have : i = h := by omega
      subst this
      rw [List.getElem?_append_right (by omega), h1]
      congr 1
      omega
theorem bytes_get {D : Dk} (hd : D.down = false) (h6 : 6 ≤ D.safe.length) (ok : Ok D) (ep : Nat) : (WM.bytes D ep).length = 32 * half D ∧ ∀ i, i < half D → secOf (WM.bytes D ep) i = nowAt D (WM.first D ep + i) := by
  have hg : ∀ h, h ≤ half D → ((List.range h).map fun i => nowAt D (WM.first D ep + i)) = (List.range h).map fun i => if i < half D then nowAt D (WM.first D ep + i) else List.replicate 32 0 := fun h hh => by
    apply List.map_congr_left
    intro i hi
    rw [List.mem_range] at hi
    rw [if_pos (by omega)]
  have hl : ∀ i, (if i < half D then nowAt D (WM.first D ep + i) else List.replicate 32 0 : List UInt8).length = 32 := fun i => by
    split
    · exact nowAt_len ok _ (first_lt ep i h6 (by assumption))
    · simp
  obtain ⟨h1, h2⟩ := flat_secs _ hl (half D)
  rw [bytes_flat hd h6, hg _ (Nat.le_refl _)]
  refine ⟨h1, fun i hi => ?_⟩
  apply List.ext_getElem?
  intro k
  by_cases hk : k < 32
  · rw [secOf_getD _ _ _ hk, h2 i k hi hk, if_pos hi]
  · rw [List.getElem?_eq_none (by rw [secOf_len h1 hi]; omega), List.getElem?_eq_none (by rw [nowAt_len ok _ (first_lt ep i h6 hi)]; omega)]

/-- A head depends on its sector alone. -/
theorem head_eq {D E : Dk} (hD : D.down = false) (hE : E.down = false) {i : Nat} (h1 : i < D.safe.length) (h2 : i < E.safe.length) (h : nowAt E i = nowAt D i) : WM.head E i = WM.head D i := by
  unfold WM.head
  rw [read_nowAt hD i h1, read_nowAt hE i h2, h]
theorem epoch_eq {D E : Dk} (hD : D.down = false) (hE : E.down = false) (h1 : 2 ≤ D.safe.length) (h2 : E.safe.length = D.safe.length) (h : ∀ i, i < 2 → nowAt E i = nowAt D i) : epoch E = epoch D := by
  unfold epoch
  rw [head_eq hD hE (by omega) (by omega) (h 0 (by omega)), head_eq hD hE (by omega) (by omega) (h 1 (by omega))]
theorem first_ge (D : Dk) (ep : Nat) : 2 ≤ WM.first D ep := by unfold WM.first; omega

/-- What opening leaves. -/
structure Opened (D D' : Dk) (ep : Nat) (l : List (List UInt8)) : Prop where
  eq : openW D = (0, some ⟨ep, l, l.length, false⟩, D')
  calm : Calm D'
  ok : Ok D'
  size : D'.safe.length = D.safe.length
  area : ∀ i, i < half D → nowAt D' (WM.first D ep + i) = secOf (areaH (half D) l) i
  rest : ∀ p, (∀ i, i < half D → p ≠ WM.first D ep + i) → nowAt D' p = nowAt D p
  none : D.waits = [] → D'.waits = []
  small : ∀ r ∈ l, r.length ≤ 1024
  fit : (flat l).length ≤ 32 * half D

theorem open_calm {D : Dk} (hc : Calm D) (ok : Ok D) (h6 : 6 ≤ D.safe.length) :
    ∃ D', Opened D D' (epoch D) (scan (WM.bytes D (epoch D)) ((WM.bytes D (epoch D)).length + 1) 0).1 := by
  obtain ⟨ep, hep⟩ : ∃ ep, ep = epoch D := ⟨_, rfl⟩
  obtain ⟨hbl, hbs⟩ := bytes_get hc.2 h6 ok ep
  obtain ⟨B, hB⟩ : ∃ B, B = WM.bytes D ep := ⟨_, rfl⟩
  rw [← hB] at hbl hbs
  obtain ⟨s1, s2, s3, s4⟩ := scan_spec B (B.length + 1) 0 (Nat.zero_le _)
  have hca := clean_area hbl
  obtain ⟨r, hr⟩ : ∃ r, r = scan B (B.length + 1) 0 := ⟨_, rfl⟩
  rw [← hr] at s1 s2 s3 s4 hca
  obtain ⟨a1, a2, a3, a4, a5, a6⟩ := wipe_calm ep B r.2 (half D) 0 false D hc ok h6 (by omega) hbl
  obtain ⟨W, hW⟩ : ∃ W, W = wipe ep B r.2 0 (half D) false D := ⟨_, rfl⟩
  rw [← hW] at a1 a2 a3 a4 a5 a6
  have har : ∀ i, i < half D → nowAt W.2.2 (WM.first D ep + i) = secOf (areaH (half D) r.1) i := fun i hi => by
    rw [(a6 _).1 i (Nat.zero_le _) (by omega) rfl, ← hca]
    split
    · rfl
    · rename_i hd
      rw [← hbs i hi, clean_same hbl hi (by simpa using hd)]
  have hre : ∀ p, (∀ i, i < half D → p ≠ WM.first D ep + i) → nowAt W.2.2 p = nowAt D p := fun p hp => (a6 p).2 fun j _ h2 => hp j (by omega)
  have hop : openW D = if W.2.1 then (0, some ⟨ep, r.1, r.1.length, false⟩, (DM.sync W.2.2).2) else (0, some ⟨ep, r.1, r.1.length, false⟩, W.2.2) := by
    unfold openW
    rw [if_neg (by omega), if_neg (by simp [hc.2]), ← hep, ← hB]
    simp only
    rw [← hr, ← hW, a1, if_neg (by simp)]
    split
    · rw [show (DM.sync W.2.2).1 = 0 by rw [sync_calm a2], if_neg (by simp)]
    · rfl
  rw [← hep, ← hB, ← hr]
  have hfit : (flat r.1).length ≤ 32 * half D := by omega
  by_cases hw : W.2.1 = true
  · rw [if_pos hw] at hop
    have hsy := sync_calm a2
    have hok := a3.sync
    rw [hsy] at hop hok
    have hn := fun p => nowAt_flat (D := W.2.2) (E := { W.2.2 with safe := now W.2.2, waits := [] }) rfl rfl p
    refine ⟨_, hop, a2, hok, by show (now W.2.2).length = _; rw [now_length, a4], fun i hi => by rw [hn, har i hi], fun p hp => by rw [hn, hre p hp], fun _ => rfl, s4, hfit⟩
  · rw [if_neg hw] at hop
    refine ⟨_, hop, a2, a3, by rw [a4], har, hre, fun h => by rw [a5 (by simpa using hw)]; exact h, s4, hfit⟩

/-- A disk whose area is known is opened as it is. -/
theorem open_known {D : Dk} (hc : Calm D) (ok : Ok D) (h6 : 6 ≤ D.safe.length) {ep : Nat} (hep : epoch D = ep) {l : List (List UInt8)} (hl : ∀ r ∈ l, r.length ≤ 1024) (hf : (flat l).length ≤ 32 * half D)
    (ha : ∀ i, i < half D → nowAt D (WM.first D ep + i) = secOf (areaH (half D) l) i) : openW D = (0, some ⟨ep, l, l.length, false⟩, D) := by
  obtain ⟨hbl, hbs⟩ := bytes_get hc.2 h6 ok ep
  have hal := areaH_length hf
  have hB : WM.bytes D ep = areaH (half D) l := by
    apply List.ext_getElem?
    intro q
    by_cases hq : q < 32 * half D
    · have h1 := secOf_getD (WM.bytes D ep) (q / 32) (q % 32) (by omega)
      have h2 := secOf_getD (areaH (half D) l) (q / 32) (q % 32) (by omega)
      rw [hbs _ (by omega), ha _ (by omega), h2, show 32 * (q / 32) + q % 32 = q by omega] at h1
      exact h1.symm
    · rw [List.getElem?_eq_none (by omega), List.getElem?_eq_none (by omega)]
  have hln : l.length < (areaH (half D) l).length + 1 := by have := flat_ge l; omega
  have hs : scan (areaH (half D) l) ((areaH (half D) l).length + 1) 0 = (l, (flat l).length) := by
    unfold areaH at hln ⊢
    exact scan_area l _ _ hl hln
  have hd : ∀ j, j < half D → dirty (areaH (half D) l) (flat l).length j = false := fun j hj => by
    have h1 : areaH (half D) l = clean (areaH (half D) l) (flat l).length := by
      unfold clean
      rw [hal]
      show flat l ++ _ = (flat l ++ _).take (flat l).length ++ _
      rw [List.take_left]
    rw [h1]
    exact clean_clean hal hj
  have hw : wipe ep (areaH (half D) l) (flat l).length 0 (half D) false D = (0, false, D) := by
    have := wipe_skip ep (areaH (half D) l) (flat l).length (half D) 0 0 false D (fun j _ h => hd j (by omega))
    rw [Nat.add_zero] at this
    rw [this]
    rfl
  unfold openW
  rw [if_neg (by omega), if_neg (by simp [hc.2]), hep, hB]
  simp only
  rw [hs]
  simp only
  rw [hw]
  simp

/-- Opening once more changes nothing. -/
theorem Opened.again {D D' : Dk} {l : List (List UInt8)} (hc : Calm D) (h6 : 6 ≤ D.safe.length) (h : Opened D D' (epoch D) l) : openW D' = (0, some ⟨epoch D, l, l.length, false⟩, D') := by
  have hh : half D' = half D := half_eq h.size
  have hF : WM.first D' (epoch D) = WM.first D (epoch D) := by unfold WM.first; rw [hh]
  refine open_known h.calm h.ok (by rw [h.size]; exact h6) (epoch_eq hc.2 h.calm.2 (by omega) h.size fun i hi => h.rest i fun j _ e => ?_) h.small (by rw [hh]; exact h.fit) (fun i hi => ?_)
  · have := first_ge D (epoch D); omega
  · rw [hF, hh]
    exact h.area i (by omega)
theorem crash_calm (D : Dk) (keep : List Int) : Calm (DM.crash D keep) := ⟨rfl, rfl⟩
theorem crash_same {D : Dk} (hc : Calm D) (hw : D.waits = []) (keep : List Int) : DM.crash D keep = D := by
  obtain ⟨s, w, lf, dn⟩ := D
  obtain ⟨h1, h2⟩ := hc
  simp only at h1 h2 hw
  subst h1 h2 hw
  cases keep <;> rfl
end Go.Proofs.Yteemekckiafnfaa.WM
/- Several logs over one disk, one behind the other; what was read of them. Conditions: as the laws name them. -/
namespace Go.Proofs.Yteemekckiafnfaa
open Go.RowKit
open DM BM WM

theorem openW_len (D : Dk) : (openW D).2.2.safe.length = D.safe.length := by
  unfold openW
  split
  · rfl
  · split
    · rfl
    · simp only
      have h1 := wipe_len (epoch D) (WM.bytes D (epoch D)) (scan (WM.bytes D (epoch D)) ((WM.bytes D (epoch D)).length + 1) 0).2 (half D) 0 false D
      split
      · exact h1
      · split
        · split
          · exact (sync_len _).trans h1
          · exact (sync_len _).trans h1
        · exact h1
theorem append_len (D : Dk) (G : Lg) (b : List UInt8) : (WM.append D G b).2.1.safe.length = D.safe.length := by
  unfold WM.append
  split
  · rfl
  · split
    · rfl
    · split
      · rfl
      · exact lay_len _ _ _ _ _
theorem syncW_len (D : Dk) (G : Lg) : (WM.syncW D G).2.1.safe.length = D.safe.length := by
  unfold WM.syncW
  split
  · rfl
  · simp only
    split <;> exact sync_len _
theorem reset_len (D : Dk) (G : Lg) (L : List (List UInt8)) : (WM.reset D G L).2.1.safe.length = D.safe.length := by
  unfold WM.reset
  split
  · rfl
  · split
    · rfl
    · split
      · rfl
      · simp only
        split <;> exact turnW_len _ _ _
theorem step_len (D : Dk) (g : Option Lg) (x : Act4) : (step D g x).1.safe.length = D.safe.length := by
  unfold step
  split
  · show (openW _).2.2.safe.length = _
    rw [openW_len]
    show (tear _ _ _).length = _
    rw [tear_length]
  · split
    · rfl
    · split
      · rfl
      · split
        · exact append_len _ _ _
        · split
          · exact syncW_len _ _
          · split
            · exact reset_len _ _ _
            · rfl

/-- A log whose disk goes on without it. -/
def Idle (w : World) (b d : Nat) (F : Nat → Prop) (h : Nat) (G : Lg) : Prop := ∃ ga ca vl vs, WalIs w b d F h G ga ca vl vs
theorem LogAt.idle {w : World} {b d : Nat} {F Fd : Nat → Prop} {D : Dk} {G : Lg} (h : LogAt w b d F Fd D G) : Idle w b d F (half D) G ∧ (∀ k, F k → ¬ Fd k) ∧ ∀ k, F k → k < w.heap.size := by
  obtain ⟨ga, ca, vl, vs, hI⟩ := h
  exact ⟨⟨ga, ca, vl, vs, hI.wal⟩, hI.apart, hI.wal.lt⟩
theorem Idle.keep {w w' : World} {b d h : Nat} {F K : Nat → Prop} {G : Lg} (H : Idle w b d F h G) (hk : Keep K w w') (hn : ∀ k, F k → ¬ K k) : Idle w' b d F h G := by
  obtain ⟨ga, ca, vl, vs, hI⟩ := H
  exact ⟨ga, ca, vl, vs, hI.keep hk hn⟩
theorem Idle.back {w : World} {b d : Nat} {F Fd : Nat → Prop} {D : Dk} {G : Lg} (H : Idle w b d F (half D) G) (hD : DiskAt w d Fd D) (ha : ∀ k, F k → ¬ Fd k) : LogAt w b d F Fd D G := by
  obtain ⟨ga, ca, vl, vs, hI⟩ := H
  exact ⟨ga, ca, vl, vs, hI, hD, ha⟩

/-- What was read. -/
def Pile (w : World) (B : Nat → Prop) (v : Value) (L : List (List UInt8)) : Prop := (∃ vs, Recs w B (fun _ => False) v L vs) ∧ ∀ k, B k → k < w.heap.size
theorem Made.pile {w0 w : World} {v : Value} {L : List (List UInt8)} (h : Made w0 v L w) : Pile w (fun k => w0.heap.size ≤ k ∧ k < w.heap.size) v L := by
  obtain ⟨vs, hr⟩ := h
  refine ⟨⟨vs, hr.row, fun k e => ⟨⟨(hr.own k e).1, hr.row.lt e⟩, (hr.own k e).2⟩, fun j hj => ?_⟩, fun k x => x.2⟩
  obtain ⟨u, h1, h2, h3⟩ := hr.each j hj
  exact ⟨u, h1, h2, fun k e => ⟨⟨(h3 k e).1, h2.lt e⟩, (h3 k e).2⟩⟩
theorem Pile.keep {w w' : World} {B K : Nat → Prop} {v : Value} {L : List (List UInt8)} (h : Pile w B v L) (hk : Keep K w w') (hn : ∀ k, B k → ¬ K k) : Pile w' B v L := by
  obtain ⟨⟨vs, hr⟩, hl⟩ := h
  exact ⟨⟨vs, hr.keep hk fun k x _ => hn k x⟩, fun k x => Nat.lt_of_lt_of_le (hl k x) hk.size⟩
theorem Pile.form {w : World} {B : Nat → Prop} {v : Value} {L : List (List UInt8)} (h : Pile w B v L) : ∃ ao cl, v = .slice ao L.length cl ∧ Lists w ao L := by
  obtain ⟨⟨vs, hr⟩, _⟩ := h
  obtain ⟨ao, cl, rfl, -⟩ := hr.row.form
  exact ⟨ao, cl, rfl, hr.lists⟩

/-- What lies apart from a disk's blocks lies apart from what they become. -/
theorem apart_to {w : World} {F Pd Pd' : Nat → Prop} (h1 : ∀ k, F k → ¬ Pd k) (h2 : ∀ k, F k → k < w.heap.size) (h3 : ∀ k, Pd' k → Pd k ∨ w.heap.size ≤ k) : ∀ k, F k → ¬ Pd' k := fun k x y => by
  rcases h3 k y with z | z
  · exact h1 k x z
  · have := h2 k x; omega

theorem Duo.opens {W w w' : World} {p d m : Nat} {Pd Qd : Nat → Prop} {D E D' : Dk} {wv rv : Value} {e : Ending} {g : Lg} {z : Int} (h : Duo W w p d m Pd Qd D E wv rv) (hp : OpenTo d Pd w (z, some g, D') e w') :
    ∃ b F Pd', e = .returned (.tuple #[.pointer (some ⟨b, 0, none⟩), .int .i64 z]) ∧ Duo W w' p d m Pd' Qd D' E wv rv ∧ LogAt w' b d F Pd' D' g ∧ (∀ k, F k → w.heap.size ≤ k) ∧ Keep Pd w w' ∧ ∀ k, Pd' k → Pd k ∨ w.heap.size ≤ k := by
  obtain ⟨b, F, Pd', he, h1, h2, h3, h4⟩ := hp
  have s := h.keep.size
  have lp := heap_lt h.head
  refine ⟨b, F, Pd', he, ⟨h2.get h.head h.selfn.1, h1.diskAt, h.ref.keep h2 (fun k x y => h.apart k y x), fun k x y => ?_, ⟨fun x => ?_, h.selfn.2⟩, fun k x => ?_, h.keep.next h2 (fun _ _ x => x) (fun k hk x => by have := h.new k (.inl x); omega)⟩, h1, h3, h2, h4⟩
  · rcases h4 k x with z | z
    · exact h.apart k z y
    · have := h.ref.lt k y; omega
  · rcases h4 p x with z | z
    · exact h.selfn.1 z
    · omega
  · rcases x with x | x
    · rcases h4 k x with z | z
      · exact h.new k (.inl z)
      · omega
    · exact h.new k (.inr x)
/-- A crash, told with what has changed. -/
theorem Duo.crashD {W w w' : World} {p d m : Nat} {Pd Qd : Nat → Prop} {D E D' : Dk} {wv rv : Value} (h : Duo W w p d m Pd Qd D E wv rv) (ht : DiskTo d Pd w D' w') :
    ∃ Pd', Duo W w' p d m Pd' Qd D' E wv rv ∧ Keep Pd w w' ∧ ∀ k, Pd' k → Pd k ∨ w.heap.size ≤ k := by
  obtain ⟨Pd', a1, a2, a3⟩ := ht
  have s := h.keep.size
  have lp := heap_lt h.head
  refine ⟨Pd', ⟨a2.get h.head h.selfn.1, a1, h.ref.keep a2 (fun k x y => h.apart k y x), fun k x y => ?_, ⟨fun x => ?_, h.selfn.2⟩, fun k x => ?_, h.keep.next a2 (fun _ _ x => x) (fun k hk x => by have := h.new k (.inl x); omega)⟩, a2, a3⟩
  · rcases a3 k x with z | z
    · exact h.apart k z y
    · have := h.ref.lt k y; omega
  · rcases a3 p x with z | z
    · exact h.selfn.1 z
    · omega
  · rcases x with x | x
    · rcases a3 k x with z | z
      · exact h.new k (.inl z)
      · omega
    · exact h.new k (.inr x)
end Go.Proofs.Yteemekckiafnfaa
/- WalAgain: the walk. Conditions: none but that the argument is a slice of acts. -/
namespace Go.Proofs.Yteemekckiafnfaa
open Go.ChangeShapes Go.WideShapes Go.RowKit Go.Deep
open DM BM WM

structure AgRel (W : World) (p : Nat) (k : Nat) (wr : World) : Prop where
  ex : ∃ D g, PairNew W wr p D g ∧ D.waits.length ≤ 2048 * k ∧ D.safe.length = 12

set_option maxRecDepth 20000 in
set_option maxHeartbeats 4000000 in
theorem again_walk (w : World) (v : Value) (l : List Act4) (hl : Acts4 w v l) :
    Calls Try.prog 8 #[v] w fun e w' => e = .returned (.bool true) ∧ Keep (fun _ => False) w w' := by
  obtain ⟨ao, c, rfl, hlc, hcm⟩ := hl.form
  have HL := hid hl
  clear hl hcm
  obtain ⟨m, hm⟩ : ∃ m, m = l.length := ⟨_, rfl⟩
  rw [← hm] at HL hlc ⊢
  have Hm := hid hm
  clear hm
  have hst := pstart_any w 12 (by decide) (by decide)
  rw [new_open 12 (by decide)] at hst
  go_enter Try.func8, Try.ntmps8
  go_wp2_with (at_builtin; refine stopAt ?_; intro q hq)
  refine hst.mono ?_
  rintro e w1 ⟨p, rfl, hP1⟩
  have HR1 := hid (AgRel.mk (k := 0) ⟨_, _, hP1, by simp [DM.new], by simp [DM.new]⟩)
  clear hP1 hst
  go_wp2_with (at_builtin; refine stopAt ?_; intro q hq)
  go_loopw [5] (fun i wr => ∃ k : Nat, k ≤ m ∧ k ≤ 40 ∧ i = .int .i64 k ∧ Hid (AgRel w p k wr)) (fun i _ => 40 - (intOf i).toNat)
  case atStart => exact ⟨0, Nat.zero_le _, Nat.zero_le _, rfl, HR1⟩
  case round =>
    clear HR1
    obtain ⟨k, hk, hk40, rfl, HR⟩ := hrel
    by_cases hgo : k < m ∧ k < 40
    · have h2 : (k : Int) < m := by omega
      have h1 : (k : Int) < 40 := by omega
      have hkl : k < l.length := by rw [← Hm.out]; exact hgo.1
      obtain ⟨D, g, hP, hw, hsz⟩ := HR.out.ex
      obtain ⟨ad, lv, kv, rfl, hrow, hlv, hkv, b0, b1⟩ := Acts4.row HL.out hP.keep k hkl
      have a1 := hrow 1 _ rfl
      have a3 := hrow 3 _ rfl
      rw [add_pos _ _ (by decide)] at a1 a3
      have Hrow := hid hrow
      have hgo1 := hgo.1
      have hgo2 := hgo.2
      clear hgo hrow
      obtain ⟨aol, cl, rfl, -, -, hLL⟩ := hlv.lists
      have hhe := heavy_any wr aol cl _ (hLL.keep hP.keep)
      obtain ⟨ll, hll⟩ : ∃ ll, ll = (l[k]).list.length := ⟨_, rfl⟩
      obtain ⟨nn, hnn⟩ : ∃ nn, nn = (l[k]).n := ⟨_, rfl⟩
      have HQ := hid (And.intro hP (And.intro hw (And.intro hlv (And.intro hkv (And.intro b0 (And.intro b1 hsz))))))
      have HE := hid (And.intro hll hnn)
      clear hP hw hlv hkv b0 b1 hLL hsz
      by_cases hv4 : 4000 < hv (l[k]).list 0
      · rw [show decide (4000 < hv (l[k]).list 0) = true from decide_eq_true hv4] at hhe
        rw [← hll] at hhe a3
        clear hv4 hll hnn
        go_wp2_with (at_builtin; refine stopAt ?_; intro q hq)
        refine hhe.mono ?_
        rintro e w3 ⟨rfl, rfl⟩
        go_wp2_with (at_builtin; refine stopAt ?_; intro q hq)
        refine (known_any _).mono ?_
        rintro e w4 ⟨rfl, hk4⟩
        have HZ := hid (Same.trans HQ.out.1.keep hk4)
        clear hk4
        go_wp2_with (at_builtin; refine stopAt ?_; intro q hq)
        go_ret
        exact ⟨by rfl, HZ.out⟩
      · rw [show decide (4000 < hv (l[k]).list 0) = false from decide_eq_false hv4] at hhe
        have hlen := (light_len hv4).1
        rw [← hll] at hhe a3 hlen
        rw [← hnn] at a1
        clear hv4 hll hnn
        by_cases hN : 1030 < nn
        · go_wp2_with (at_builtin; refine stopAt ?_; intro q hq)
          refine hhe.mono ?_
          rintro e w3 ⟨rfl, rfl⟩
          go_wp2_with (at_builtin; refine stopAt ?_; intro q hq)
          refine (known_any _).mono ?_
          rintro e w4 ⟨rfl, hk4⟩
          have HZ := hid (Same.trans HQ.out.1.keep hk4)
          clear hk4
          go_wp2_with (at_builtin; refine stopAt ?_; intro q hq)
          go_ret
          exact ⟨by rfl, HZ.out⟩
        · go_wp2_with (at_builtin; refine stopAt ?_; intro q hq)
          refine hhe.mono ?_
          rintro e w3 ⟨rfl, rfl⟩
          go_wp2_with (first | (at_builtin; refine stopAt ?_; intro q hq) | (refine stopOp (.load 50 _) rfl ?_; intro q hq))
          (refine hq.out ?_; clear hq q)
          refine wpList_plain rfl (fun K hK => ?_)
          refine wp_load_any 50 (.tmp 53) rfl (ad.add (k * 5)) rfl _ Hrow.out _ Try.underlying50 rfl (by kernel_rfl) ?_
          refine hK _ _ ?_
          clear hK K
          obtain ⟨hP, hw, hlv, hkv, b0, b1, hsz⟩ := HQ.out
          have hpl := play_any w _ p D g l[k] _ _ hP hlv hkv b1 (by have := HE.out.1; omega) (by omega)
          have hsw := step_waits hP.few g l[k]
          have HW := hid (And.intro hw (And.intro hsw hsz))
          clear hP hw hlv hkv b0 b1 hsw hsz
          go_wp2_with (at_builtin; refine stopAt ?_; intro q hq)
          refine hpl.mono ?_
          rintro e w4 ⟨rfl, hP4⟩
          have HZ := hid (AgRel.mk (k := k + 1) ⟨_, _, hP4, by have := HW.out; omega, by rw [step_len]; exact HW.out.2.2⟩)
          clear hP4 hpl
          go_wp2_with (at_builtin; refine stopAt ?_; intro q hq)
          go_roundw
          case rel => exact ⟨k + 1, by omega, by omega, by go_num, HZ⟩
          case measure => simp [intOf]; omega
    · obtain ⟨D, g, hP, hw, hsz⟩ := HR.out.ex
      obtain ⟨d, mm, Pd, Qd, wv, rv, hD⟩ := hP.duo
      obtain ⟨h0, h1, h2, h3, hf, hb1⟩ := cells4 hD.head
      have hok1 := hD.disk.ok.crash []
      have hs1 : (DM.crash D []).safe.length = 12 := by show (tear _ _ _).length = _; rw [tear_length]; exact hsz
      obtain ⟨D2, hO⟩ := open_calm (crash_calm D []) hok1 (by omega)
      obtain ⟨L, hLL⟩ : ∃ L, L = (scan (WM.bytes (DM.crash D []) (epoch (DM.crash D []))) ((WM.bytes (DM.crash D []) (epoch (DM.crash D []))).length + 1) 0).1 := ⟨_, rfl⟩
      rw [← hLL] at hO
      have hAg := hO.again (crash_calm D []) (by omega)
      have hw2 := hO.none rfl
      have hcs := crash_same hO.calm hw2 []
      obtain ⟨G, hG⟩ : ∃ G : Lg, G = ⟨epoch (DM.crash D []), L, L.length, false⟩ := ⟨_, rfl⟩
      have hop := hO.eq
      rw [← hG] at hAg hop
      have hgn : gone D2 G = false := by unfold gone; rw [hG, hO.calm.2]; rfl
      have hGl : G.l = L := by rw [hG]
      have hGs : G.safe = L.length := by rw [hG]
      have hL9 : L.length ≤ 1000000 := by
        have h1 := flat_ge L
        have h2 := hO.fit
        have h3 : half (DM.crash D []) = 5 := by unfold half; omega
        omega
      have hw9 : D.waits.length ≤ 200000 := by omega
      have k0 : ∀ w : World, Cells w none 0 1 (intsV []) := fun w => ⟨rfl, fun h => by omega⟩
      have hcr := crash_any wr d Pd D none 0 0 [] hD.disk (k0 _) (fun h => by omega) (by decide) (by simp) (by omega)
      have HD := hid hD
      have HM := hid (And.intro hAg (And.intro hop (And.intro hcs (And.intro hw2 (And.intro hGl hGs)))))
      clear hP hD hok1 hs1 hO hLL hAg hw2 hcs hG hop hGl hGs hw hsz
      have cut : (¬ (k : Int) < m) ∨ ((k : Int) < m ∧ ¬ (k : Int) < 40) := by omega
      clear hgo
      rcases cut with c1 | ⟨c0, c1⟩
      all_goals
        go_wp2_with (at_builtin; refine stopAt ?_; intro q hq)
        refine hcr.mono ?_
        rintro e w3 ⟨rfl, ht⟩
        obtain ⟨Pd3, D3, -, -⟩ := HD.out.crashD ht
        clear hcr ht h0 h1 h2 h3 hf
        obtain ⟨h0, h1, h2, h3, hf, hb3⟩ := cells4 D3.head
        have hoA := open_any w3 d Pd3 _ D3.disk (by simp [DM.crash])
        rw [HM.out.2.1] at hoA
        have H3 := hid D3
        clear D3
        go_wp2_with (at_builtin; refine stopAt ?_; intro q hq)
        refine hoA.mono ?_
        intro e w4 hp
        obtain ⟨b, F, Pd4, rfl, D4, hlog, -, -, -⟩ := H3.out.opens hp
        clear hp hoA h0 h1 h2 h3 hf
        obtain ⟨h0, h1, h2, h3, hf, hb4⟩ := cells4 D4.head
        have hre := records_up w4 b d F Pd4 D2 G hlog hgn
        rw [HM.out.2.2.2.2.1] at hre
        have H4 := hid (And.intro D4 hlog)
        clear D4 hlog
        go_wp2_with (at_builtin; refine stopAt ?_; intro q hq)
        refine hre.mono ?_
        rintro e w5 ⟨va, rfl, hmA, hk5⟩
        have hpA := hmA.pile
        obtain ⟨aoA, cA, rfl, -⟩ := hmA.form
        have hroA := room_up w5 b d F Pd4 D2 G (H4.out.2.keep hk5 (fun _ _ x => x) (fun _ _ x => x)) hgn
        have H5 := hid (And.intro (H4.out.1.later hk5) (And.intro hpA (show ∀ k, (w4.heap.size ≤ k ∧ k < w5.heap.size) → ¬ Pd4 k from fun k x y => by have := H4.out.1.disk.lt k y; omega)))
        clear hmA hk5 hpA hre h0 h1 h2 h3 hf
        obtain ⟨n, hn⟩ : ∃ n, n = L.length := ⟨_, rfl⟩
        rw [← hn]
        have Hn := hid hn
        clear hn
        go_wp2_with (at_builtin; refine stopAt ?_; intro q hq)
        refine hroA.mono ?_
        rintro e w6 ⟨rfl, rfl⟩
        obtain ⟨w6, hw6⟩ : ∃ w6, w6 = w5.drew := ⟨_, rfl⟩
        have hk6 : Same w5 w6 := by rw [hw6]; exact (Keep.refl _ _).drew
        rw [← hw6]
        obtain ⟨D5, hpA, hnA⟩ := H5.out
        have D6 := D5.later hk6
        obtain ⟨h0, h1, h2, h3, hf, hb6⟩ := cells4 D6.head
        have hoB := open_any w6 d Pd4 D2 D6.disk (by have := HM.out.2.2.2.1; rw [this]; simp)
        rw [HM.out.1] at hoB
        have H6 := hid (And.intro D6 (And.intro (hpA.keep hk6 fun _ _ x => x) hk6))
        clear D5 hpA hnA D6 hk6 hw6 hroA
        go_wp2_with (at_builtin; refine stopAt ?_; intro q hq)
        refine hoB.mono ?_
        intro e w7 hp
        obtain ⟨D6, hpA, hk6⟩ := H6.out
        obtain ⟨b2, F2, Pd7, rfl, D7, hlog7, -, hk7, hs7⟩ := D6.opens hp
        have hnA := H5.out.2.2
        have hpA7 := hpA.keep hk7 hnA
        have hnA7 := apart_to hnA hpA.2 hs7
        obtain ⟨hid7, hap7, hlt7⟩ := hlog7.idle
        have hwt := waiting_any w7 d Pd7 D2 D7.disk
        rw [HM.out.2.2.2.1] at hwt
        clear h0 h1 h2 h3 hf
        obtain ⟨h0, h1, h2, h3, hf, hb7⟩ := cells4 D7.head
        have hcr := crash_any w7 d Pd7 D2 none 0 0 [] D7.disk (k0 _) (fun h => by omega) (by decide) (by simp) (by have := HM.out.2.2.2.1; rw [this]; simp)
        rw [HM.out.2.2.1] at hcr
        have H7 := hid (And.intro D7 (And.intro hpA7 (And.intro hnA7 (And.intro hid7 (And.intro hap7 hlt7)))))
        clear D6 hpA hk6 hp hoB D7 hlog7 hk7 hs7 hnA hpA7 hnA7 hid7 hap7 hlt7
        go_wp2_with (at_builtin; refine stopAt ?_; intro q hq)
        refine hwt.mono ?_
        rintro e w7 ⟨rfl, rfl⟩
        go_wp2_with (at_builtin; refine stopAt ?_; intro q hq)
        refine hcr.mono ?_
        rintro e w8 ⟨rfl, ht⟩
        obtain ⟨D7, hpA7, hnA7, hid7, hap7, hlt7⟩ := H7.out
        obtain ⟨Pd8, D8, hk8, hs8⟩ := D7.crashD ht
        have hpA8 := hpA7.keep hk8 hnA7
        have hnA8 := apart_to hnA7 hpA7.2 hs8
        have hid8 := hid7.keep hk8 hap7
        have hap8 := apart_to hap7 hlt7 hs8
        have hlt8 : ∀ k, F2 k → k < w8.heap.size := fun k x => Nat.lt_of_lt_of_le (hlt7 k x) hk8.size
        clear h0 h1 h2 h3 hf
        obtain ⟨h0, h1, h2, h3, hf, hb8⟩ := cells4 D8.head
        have hoC := open_any w8 d Pd8 D2 D8.disk (by have := HM.out.2.2.2.1; rw [this]; simp)
        rw [HM.out.1] at hoC
        have H8 := hid (And.intro D8 (And.intro hpA8 (And.intro hnA8 (And.intro hid8 (And.intro hap8 hlt8)))))
        clear D7 hpA7 hnA7 hid7 hap7 hlt7 hwt hcr ht D8 hk8 hs8 hpA8 hnA8 hid8 hap8 hlt8
        go_wp2_with (at_builtin; refine stopAt ?_; intro q hq)
        refine hoC.mono ?_
        intro e w9 hp
        obtain ⟨D8, hpA8, hnA8, hid8, hap8, hlt8⟩ := H8.out
        obtain ⟨b3, F3, Pd9, rfl, D9, hlog9, -, hk9, hs9⟩ := D8.opens hp
        have hpA9 := hpA8.keep hk9 hnA8
        have hlogB : LogAt w9 b2 d F2 Pd9 D2 G := (hid8.keep hk9 hap8).back D9.disk (apart_to hap8 hlt8 hs9)
        have hreB := records_up w9 b2 d F2 Pd9 D2 G hlogB hgn
        rw [HM.out.2.2.2.2.1] at hreB
        have H9 := hid (And.intro D9.keep (And.intro hlogB (And.intro hlog9 hpA9)))
        clear h0 h1 h2 h3 hf D8 hpA8 hnA8 hid8 hap8 hlt8 hoC hp D9 hlog9 hk9 hs9 hpA9 hlogB
        go_wp2_with (at_builtin; refine stopAt ?_; intro q hq)
        refine hreB.mono ?_
        rintro e wa ⟨vb, rfl, hmB, hka⟩
        obtain ⟨aoB, cB, rfl, hLB⟩ := hmB.form
        obtain ⟨hkW, hlogB, hlog9, hpA9⟩ := H9.out
        obtain ⟨aoA', cA', he, hLA⟩ := (hpA9.keep hka fun _ _ x => x).form
        cases he
        have hsm := samelists_any wa aoB aoA cB cA L L hLB hLA (by omega)
        rw [show decide (L = L) = true from decide_eq_true rfl, ← Hn.out] at hsm
        rw [← Hn.out]
        have Ha := hid hka
        clear hreB hmB hka hLB hkW hlogB hlog9 hpA9 hLA
        go_wp2_with (at_builtin; refine stopAt ?_; intro q hq)
        refine hsm.mono ?_
        rintro e wb ⟨rfl, hkb⟩
        obtain ⟨hkW, hlogB, hlog9, hpA9⟩ := H9.out
        have hkb2 := Same.trans Ha.out hkb
        have hroB := room_up wb b2 d F2 Pd9 D2 G (hlogB.keep hkb2 (fun _ _ x => x) (fun _ _ x => x)) hgn
        have Hb := hid hkb2
        clear hkW hlogB hlog9 hpA9 hkb hkb2 hsm
        go_wp2_with (at_builtin; refine stopAt ?_; intro q hq)
        refine hroB.mono ?_
        rintro e wc ⟨rfl, rfl⟩
        obtain ⟨hkW, hlogB, hlog9, hpA9⟩ := H9.out
        have hkc : Same w9 wb.drew := Same.trans Hb.out (Keep.refl _ _).drew
        have hreC := records_up wb.drew b3 d F3 Pd9 D2 G (hlog9.keep hkc (fun _ _ x => x) (fun _ _ x => x)) hgn
        rw [HM.out.2.2.2.2.1] at hreC
        have Hc := hid hkc
        clear hkW hlogB hlog9 hpA9 hkc hroB
        go_wp2_with (at_builtin; refine stopAt ?_; intro q hq)
        refine hreC.mono ?_
        rintro e wd ⟨vc, rfl, hmC, hkd⟩
        obtain ⟨aoC, cC, rfl, hLC⟩ := hmC.form
        obtain ⟨hkW, hlogB, hlog9, hpA9⟩ := H9.out
        have hkd2 := Same.trans Hc.out hkd
        obtain ⟨aoA', cA', he, hLA⟩ := (hpA9.keep hkd2 fun _ _ x => x).form
        cases he
        have hsm := samelists_any wd aoC aoA cC cA L L hLC hLA (by omega)
        rw [show decide (L = L) = true from decide_eq_true rfl, ← Hn.out] at hsm
        rw [← Hn.out]
        have Hd := hid hkd2
        clear hreC hmC hkd hLC hkW hlogB hlog9 hpA9 hLA hkd2
        go_wp2_with (at_builtin; refine stopAt ?_; intro q hq)
        refine hsm.mono ?_
        rintro e we ⟨rfl, hke⟩
        obtain ⟨hkW, hlogB, hlog9, hpA9⟩ := H9.out
        have hke2 := Same.trans Hd.out hke
        have hsaC := safe_up we b3 d F3 Pd9 D2 G (hlog9.keep hke2 (fun _ _ x => x) (fun _ _ x => x)) hgn
        rw [HM.out.2.2.2.2.2, ← Hn.out] at hsaC
        have He := hid (Same.trans hkW hke2)
        clear hkW hlogB hlog9 hpA9 hke hke2 hsm
        go_wp2_with (at_builtin; refine stopAt ?_; intro q hq)
        refine hsaC.mono ?_
        rintro e wf ⟨rfl, rfl⟩
        go_wp2_with (at_builtin; refine stopAt ?_; intro q hq)
        refine (known_any _).mono ?_
        rintro e wg ⟨rfl, hkg⟩
        have HZ := hid (Same.trans He.out hkg)
        clear hkg
        go_wp2_with (at_builtin; refine stopAt ?_; intro q hq)
        go_ret
        exact ⟨by rfl, HZ.out⟩
end Go.Proofs.Yteemekckiafnfaa
/- A new log takes the old one's place, and the power goes: what is opened behind it. Conditions: as the laws name them. -/
namespace Go.Proofs.Yteemekckiafnfaa.WM
open DM BM Go.Proofs.Yteemekckiafnfaa

theorem arm_now (D : Dk) (n : Int) (p : Nat) : nowAt (DM.arm D n) p = nowAt D p := nowAt_same rfl rfl p

/-- What a turn that went well leaves; else the power is gone. -/
theorem turn_all {D : Dk} (h6 : 6 ≤ D.safe.length) (ep : Nat) (b : List UInt8) (hb : b.length = 32 * half D) (hh : (headSec ep).length = 32) :
    ((turnW ep b D).1 ≠ 0 → (turnW ep b D).1 = 6) ∧ ((turnW ep b D).1 = 0 → (turnW ep b D).2.waits = [] ∧ (∀ i, i < half D → nowAt (turnW ep b D).2 (WM.first D ep + i) = secOf b i) ∧ nowAt (turnW ep b D).2 (ep % 2) = headSec ep ∧
      ∀ p, p ≠ ep % 2 → (∀ i, i < half D → p ≠ WM.first D ep + i) → nowAt (turnW ep b D).2 p = nowAt D p) := by
  obtain ⟨a1, -, a3, a4⟩ := lay_waits_all ep b (half D) 0 D h6 (by omega) hb
  unfold turnW
  generalize lay ep b 0 (half D) D = r at *
  simp only
  by_cases h0 : r.1 = 0
  · rw [if_neg (by simpa using h0)]
    by_cases h1 : (DM.sync r.2).1 = 0
    · rw [if_neg (by simpa using h1)]
      obtain ⟨s1, s2⟩ := sync_ok h1
      have hn1 := fun p => nowAt_flat s1 s2 p
      have hsl : (DM.sync r.2).2.safe.length = D.safe.length := by rw [sync_len, a1]
      generalize (DM.sync r.2).2 = y at *
      have hep : ep % 2 < y.safe.length := by omega
      by_cases h2 : (DM.write y ((ep % 2 : Nat) : Int) (headSec ep)).1 = 0
      · rw [if_neg (by simpa using h2)]
        obtain ⟨-, -, w1, w2⟩ := write_ok h2
        have hn2 := fun p => nowAt_snoc w1 w2 hep p
        generalize (DM.write y ((ep % 2 : Nat) : Int) (headSec ep)).2 = z at *
        refine ⟨fun h => (sync_no h).1, fun h => ?_⟩
        obtain ⟨t1, t2⟩ := sync_ok h
        have hn3 := fun p => nowAt_flat t1 t2 p
        have hall : ∀ p, nowAt (DM.sync z).2 p = if p = ep % 2 then headSec ep else nowAt r.2 p := fun p => by rw [hn3, hn2, hn1]
        have hfg := first_ge D ep
        refine ⟨t2, fun i hi => ?_, by rw [hall, if_pos rfl], fun p p1 p2 => ?_⟩
        · rw [hall, if_neg (by omega)]
          exact ((a4 h0 _).1 i (Nat.zero_le _) (by omega) rfl)
        · rw [hall, if_neg p1]
          exact (a4 h0 p).2 fun j _ hj => p2 j (by omega)
      · rw [if_pos (by simpa using h2)]
        exact ⟨fun _ => (write_no hep hh h2).1, fun h => absurd h h2⟩
    · rw [if_pos (by simpa using h1)]
      exact ⟨fun _ => (sync_no h1).1, fun h => absurd h h1⟩
  · rw [if_pos (by simpa using h0)]
    exact ⟨a3, fun h => absurd h h0⟩
theorem turn_calm {D : Dk} (hc : Calm D) (h6 : 6 ≤ D.safe.length) (ep : Nat) (b : List UInt8) (hb : b.length = 32 * half D) (hh : (headSec ep).length = 32) : (turnW ep b D).1 = 0 ∧ Calm (turnW ep b D).2 := by
  obtain ⟨l1, l2, l3⟩ := lay_calm ep b h6 hb (half D) 0 D hc rfl (by show 0 + half D ≤ half D; omega)
  unfold turnW
  simp only
  rw [if_neg (by simpa using l1), sync_calm l2]
  simp only
  rw [if_neg (by simp)]
  have hsl : (now (lay ep b 0 (half D) D).2).length = D.safe.length := by rw [now_length, l3]
  have hc2 : Calm { (lay ep b 0 (half D) D).2 with safe := now (lay ep b 0 (half D) D).2, waits := [] } := l2
  rw [write_calm hc2 (ep % 2) (by show ep % 2 < (now _).length; omega) (headSec ep) hh]
  simp only
  rw [if_neg (by simp)]
  rw [sync_calm (D := { (lay ep b 0 (half D) D).2 with safe := now (lay ep b 0 (half D) D).2, waits := [] ++ [(ep % 2, headSec ep)] }) l2]
  exact ⟨rfl, l2⟩

theorem headSec_1 : (headSec 1).length = 32 := by kernel_rfl
theorem headSec_2 : (headSec 2).length = 32 := by kernel_rfl
theorem head_at {D : Dk} (hd : D.down = false) {i : Nat} (hi : i < D.safe.length) (s : Sec) (h : nowAt D i = s) : WM.head D i = (match BM.get s 0 with
    | .no _ => none
    | .yes k body _ => if k ≠ 1 then none else match uint body 0 with | .no _ => none | .yes n t => if t = body.length ∧ n < 4611686018427387904 ∧ n % 2 = i then some n else none) := by
  unfold WM.head
  rw [read_nowAt hd i hi, h]
  rfl
theorem head_blank {D : Dk} (hd : D.down = false) {i : Nat} (hi : i < D.safe.length) (h : nowAt D i = DM.blank) : WM.head D i = none := by
  rw [head_at hd hi _ h, show BM.get DM.blank 0 = BM.Got.no 20 by kernel_rfl]
theorem head_one {D : Dk} (hd : D.down = false) (hi : 1 < D.safe.length) (h : nowAt D 1 = headSec 1) : WM.head D 1 = some 1 := by
  rw [head_at hd hi _ h]
  kernel_rfl
theorem head_two {D : Dk} (hd : D.down = false) (hi : 0 < D.safe.length) (h : nowAt D 0 = headSec 2) : WM.head D 0 = some 2 := by
  rw [head_at hd hi _ h]
  kernel_rfl

/-- Whether a reset is done at all. -/
theorem reset_cases (D : Dk) (G : Lg) (L : List (List UInt8)) (hg : gone D G = false) (hep : G.ep + 1 ≠ 4611686018427387904) :
    ((WM.reset D G L).1 ≠ 0 ∧ (WM.reset D G L).1 ≠ 6 ∧ (WM.reset D G L).2.1 = D ∧ L ≠ []) ∨
    ((∀ r ∈ L, r.length ≤ 1024) ∧ (flat L).length ≤ 32 * half D ∧ (WM.reset D G L).1 = (turnW (G.ep + 1) (area D L) D).1 ∧ (WM.reset D G L).2.1 = (turnW (G.ep + 1) (area D L) D).2 ∧
      ((WM.reset D G L).1 = 0 → (WM.reset D G L).2.2 = ⟨G.ep + 1, L, L.length, false⟩)) := by
  unfold WM.reset
  rw [hg, if_neg (by simp)]
  by_cases h1 : (L.any fun b => decide (1024 < b.length)) = true
  · rw [if_pos h1]
    refine .inl ⟨by simp, by simp, rfl, fun e => ?_⟩
    subst e
    simp at h1
  · rw [if_neg h1]
    by_cases h2 : 32 * half D < (flat L).length ∨ G.ep + 1 = 4611686018427387904
    · rw [if_pos h2]
      refine .inl ⟨by simp, by simp, rfl, fun e => ?_⟩
      subst e
      simp only [flat, List.map_nil, List.flatten_nil, List.length_nil] at h2
      exact h2.elim (fun h => by omega) hep
    · rw [if_neg h2]
      have hsm : ∀ r ∈ L, r.length ≤ 1024 := fun r hr => by
        have h1' : (L.any fun b => decide (1024 < b.length)) = false := by simpa only [Bool.not_eq_true] using h1
        have := List.any_eq_false.1 h1' r hr
        simpa using this
      refine .inr ⟨hsm, by omega, ?_⟩
      simp only
      split
      · rename_i h3
        exact ⟨h3.symm, rfl, fun _ => rfl⟩
      · exact ⟨rfl, rfl, fun h => absurd h (by assumption)⟩

/-- The old log, as it lies there. -/
structure Old (D : Dk) (old : List (List UInt8)) : Prop where
  calm : Calm D
  waits : D.waits = []
  size : D.safe.length = 30
  zero : nowAt D 0 = DM.blank
  one : nowAt D 1 = headSec 1
  area : ∀ i, i < 14 → nowAt D (16 + i) = secOf (areaH 14 old) i
  small : ∀ r ∈ old, r.length ≤ 1024
  fit : (flat old).length ≤ 32 * 14

theorem half30 {D : Dk} (h : D.safe.length = 30) : half D = 14 := by unfold half; rw [h]
theorem first30 {D : Dk} (h : D.safe.length = 30) : WM.first D 0 = 2 ∧ WM.first D 1 = 16 ∧ WM.first D 2 = 2 := by unfold WM.first; rw [half30 h]; exact ⟨rfl, rfl, rfl⟩
theorem new_nowAt (n p : Nat) (h : p < n) : nowAt (DM.new n) p = DM.blank := by
  have h1 := new_read n p h
  rw [read_nowAt rfl p (by simp [DM.new]; exact h)] at h1
  simpa using h1

theorem first_reset (old : List (List UInt8)) : ((WM.reset (DM.new 30) ⟨0, [], 0, false⟩ old).1 ≠ 0 ∧ old ≠ []) ∨
    ((WM.reset (DM.new 30) ⟨0, [], 0, false⟩ old).1 = 0 ∧ (WM.reset (DM.new 30) ⟨0, [], 0, false⟩ old).2.2 = ⟨1, old, old.length, false⟩ ∧ Old (WM.reset (DM.new 30) ⟨0, [], 0, false⟩ old).2.1 old) := by
  have hsz : (DM.new 30).safe.length = 30 := by simp [DM.new]
  have hH := half30 hsz
  have hF := (first30 hsz).2.1
  rcases reset_cases (DM.new 30) ⟨0, [], 0, false⟩ old rfl (by decide) with ⟨h1, -, -, h4⟩ | ⟨h1, h2, h3, h4, h5⟩
  · exact .inl ⟨h1, h4⟩
  · have hal : (WM.area (DM.new 30) old).length = 32 * half (DM.new 30) := areaH_length h2
    obtain ⟨c1, c2⟩ := turn_calm (D := DM.new 30) ⟨rfl, rfl⟩ (by omega) 1 (WM.area (DM.new 30) old) hal headSec_1
    obtain ⟨t1, t2, t3, t4⟩ := (turn_all (D := DM.new 30) (by omega) 1 (WM.area (DM.new 30) old) hal headSec_1).2 c1
    have h3' : (WM.reset (DM.new 30) ⟨0, [], 0, false⟩ old).1 = 0 := h3.trans c1
    rw [hH, hF] at t2 t4
    refine .inr ⟨h3', h5 h3', ?_⟩
    rw [h4]
    refine ⟨c2, t1, by rw [turnW_len, hsz], ?_, t3, fun i hi => ?_, h1, by omega⟩
    · rw [t4 0 (by decide) (fun i _ => by omega)]
      exact new_nowAt 30 0 (by decide)
    · have := t2 i hi
      rw [this]
      unfold WM.area
      rw [hH]
      rfl

theorem Old.epoch {D : Dk} {old : List (List UInt8)} (h : Old D old) : WM.epoch D = 1 := by
  have hs := h.size
  unfold WM.epoch
  rw [head_blank h.calm.2 (by omega) h.zero, head_one h.calm.2 (by omega) h.one]
  rfl
theorem Old.opens {D : Dk} {old : List (List UInt8)} (h : Old D old) (ok : Ok D) : openW D = (0, some ⟨1, old, old.length, false⟩, D) := by
  have hs := h.size
  refine open_known h.calm ok (by omega) h.epoch h.small (by rw [half30 hs]; exact h.fit) (fun i hi => ?_)
  rw [half30 hs] at hi ⊢
  rw [(first30 hs).2.1]
  exact h.area i hi
theorem Old.crash {D : Dk} {old : List (List UInt8)} (h : Old D old) (n : Int) (keep : List Int) : DM.crash (DM.arm D n) keep = D := by
  obtain ⟨s, w, lf, dn⟩ := D
  obtain ⟨h1, h2⟩ := h.calm
  have hw := h.waits
  simp only at h1 h2 hw
  subst h1 h2 hw
  cases keep <;> rfl

/-- Behind the second reset, and a crash. -/
theorem second_reset {D : Dk} {old fresh : List (List UInt8)} (h : Old D old) (ok : Ok D) (n : Int) (hn : n < 9223372036854775808) (keep : List Int) :
    ∃ G' D', openW (DM.crash (WM.reset (DM.arm D n) ⟨1, old, old.length, false⟩ fresh).2.1 keep) = (0, some G', D') ∧ G'.dead = false ∧ Calm D' ∧
      ((WM.reset (DM.arm D n) ⟨1, old, old.length, false⟩ fresh).1 = 0 → G'.l = fresh) ∧ ((WM.reset (DM.arm D n) ⟨1, old, old.length, false⟩ fresh).1 ≠ 0 → (WM.reset (DM.arm D n) ⟨1, old, old.length, false⟩ fresh).1 ≠ 6 → G'.l = old) := by
  have hs : (DM.arm D n).safe.length = 30 := h.size
  have hH := half30 hs
  have hF := (first30 hs).2.2
  have oka := ok.arm n hn
  rcases reset_cases (DM.arm D n) ⟨1, old, old.length, false⟩ fresh (by show (false || D.down) = false; rw [h.calm.2]; rfl) (by show (1 : Nat) + 1 ≠ _; decide) with ⟨h1, h2, h3, -⟩ | ⟨h1, h2, h3, h4, h5⟩
  · rw [h3, h.crash, h.opens ok]
    exact ⟨_, _, rfl, rfl, h.calm, fun e => absurd e h1, fun _ _ => rfl⟩
  · have hal : (WM.area (DM.arm D n) fresh).length = 32 * half (DM.arm D n) := areaH_length h2
    obtain ⟨t1, t2⟩ := turn_all (D := DM.arm D n) (by omega) 2 (WM.area (DM.arm D n) fresh) hal headSec_2
    obtain ⟨R, hR⟩ : ∃ R, R = WM.reset (DM.arm D n) ⟨1, old, old.length, false⟩ fresh := ⟨_, rfl⟩
    rw [← hR] at h3 h4 h5 ⊢
    by_cases hz : R.1 = 0
    · obtain ⟨q1, q2, q3, q4⟩ := t2 (h3.symm.trans hz)
      rw [← show R.2.1 = (turnW 2 (WM.area (DM.arm D n) fresh) (DM.arm D n)).2 from h4] at q1 q2 q3 q4
      rw [hH, hF] at q2 q4
      have hRs : R.2.1.safe.length = 30 := by rw [hR, reset_len]; exact hs
      have hok : Ok R.2.1 := by
        rw [h4]
        have hl : ∀ k i (E : Dk), Ok E → Ok (lay 2 (WM.area (DM.arm D n) fresh) i k E).2 := by
          intro k
          induction k with
          | zero => intro i E hE; exact hE
          | succ k ih =>
            intro i E hE
            unfold lay
            simp only
            split
            · exact ih _ _ (hE.write _ _)
            · exact hE.write _ _
        show Ok (turnW 2 (WM.area (DM.arm D n) fresh) (DM.arm D n)).2
        unfold turnW
        simp only
        split
        · exact hl _ _ _ oka
        · split
          · exact (hl _ _ _ oka).sync
          · split
            · exact ((hl _ _ _ oka).sync).write _ _
            · exact (((hl _ _ _ oka).sync).write _ _).sync
      obtain ⟨E, hE⟩ : ∃ E, E = DM.crash R.2.1 keep := ⟨_, rfl⟩
      have hEs : E.safe = R.2.1.safe := by
        rw [hE]
        show tear R.2.1.safe R.2.1.waits keep = _
        rw [q1]
        cases keep <;> rfl
      have hEn : ∀ p, nowAt E p = nowAt R.2.1 p := fun p => nowAt_same hEs (by rw [hE, q1]; rfl) p
      have hEc : Calm E := by rw [hE]; exact crash_calm _ _
      have hEl : E.safe.length = 30 := by rw [hEs]; exact hRs
      have hEo : Ok E := by rw [hE]; exact hok.crash keep
      have e0 : nowAt E 0 = headSec 2 := by rw [hEn]; exact q3
      have e1 : nowAt E 1 = headSec 1 := by rw [hEn, q4 1 (by decide) (fun i _ => by omega), arm_now]; exact h.one
      have hep : WM.epoch E = 2 := by
        unfold WM.epoch
        rw [head_two hEc.2 (by omega) e0, head_one hEc.2 (by omega) e1]
        rfl
      have hop := open_known hEc hEo (by omega) hep h1 (by rw [half30 hEl]; omega) (fun i hi => by
        rw [half30 hEl] at hi ⊢
        rw [(first30 hEl).2.2, hEn, q2 i hi]
        unfold WM.area
        rw [hH]
        rfl)
      rw [← hE, hop]
      exact ⟨_, _, rfl, rfl, hEc, fun _ => rfl, fun h _ => absurd hz h⟩
    · have h6 := t1 (fun e => hz (h3.trans e))
      have hRok : Ok (DM.crash R.2.1 keep) := by
        have hl : ∀ k i (E : Dk), Ok E → Ok (lay 2 (WM.area (DM.arm D n) fresh) i k E).2 := by
          intro k
          induction k with
          | zero => intro i E hE; exact hE
          | succ k ih =>
            intro i E hE
            unfold lay
            simp only
            split
            · exact ih _ _ (hE.write _ _)
            · exact hE.write _ _
        have hok : Ok R.2.1 := by
          rw [h4]
          show Ok (turnW 2 (WM.area (DM.arm D n) fresh) (DM.arm D n)).2
          unfold turnW
          simp only
          split
          · exact hl _ _ _ oka
          · split
            · exact (hl _ _ _ oka).sync
            · split
              · exact ((hl _ _ _ oka).sync).write _ _
              · exact (((hl _ _ _ oka).sync).write _ _).sync
        exact hok.crash keep
      have hcs : (DM.crash R.2.1 keep).safe.length = 30 := by
        show (tear _ _ _).length = _
        rw [tear_length, hR, reset_len]
        exact hs
      obtain ⟨D', hO⟩ := open_calm (crash_calm R.2.1 keep) hRok (by omega)
      exact ⟨_, _, hO.eq, rfl, hO.calm, fun e => absurd e hz, fun _ h7 => absurd (h3.trans h6) h7⟩
end Go.Proofs.Yteemekckiafnfaa.WM
/- WalTurns: the walk. Conditions: none but that the arguments are texts, an int and ints. -/
namespace Go.Proofs.Yteemekckiafnfaa
open Go.ChangeShapes Go.WideShapes Go.RowKit Go.Deep
open DM BM WM

theorem Both.few {W w : World} {p d m b c : Nat} {Pw Pd Qw Qd : Nat → Prop} {D E : Dk} {G J : Lg} (h : Both W w p d m b c Pw Pd Qw Qd D G E J) : Ok D := h.one.diskOk

set_option maxRecDepth 20000 in
set_option maxHeartbeats 4000000 in
theorem turns_walk (w : World) (v0 : Value) (old : List (List UInt8)) (hl0 : Texts w v0 old) (v1 : Value) (fresh : List (List UInt8)) (hl1 : Texts w v1 fresh) (a : Int) (ha : -9223372036854775808 ≤ a) (hb : a ≤ 9223372036854775807)
    (v3 : Value) (keep : List Int) (hl3 : Ints w v3 keep) :
    Calls Try.prog 7 #[v0, v1, .int .i64 a, v3] w fun e w' => e = .returned (.bool true) ∧ Keep (fun _ => False) w w' := by
  obtain ⟨ao0, c0, rfl, -, -, hL0⟩ := hl0.lists
  obtain ⟨ao1, c1, rfl, -, -, hL1⟩ := hl1.lists
  obtain ⟨ao3, c3, rfl, hc3, hm3, hcl3, hwf3⟩ := hl3.cells
  have hh0 := heavy_any w ao0 c0 old hL0
  have hh1 := heavy_any w ao1 c1 fresh hL1
  obtain ⟨n0, hn0⟩ : ∃ n0, n0 = old.length := ⟨_, rfl⟩
  obtain ⟨n1, hn1⟩ : ∃ n1, n1 = fresh.length := ⟨_, rfl⟩
  obtain ⟨n3, hn3⟩ : ∃ n3, n3 = keep.length := ⟨_, rfl⟩
  rw [← hn0] at hh0 ⊢
  rw [← hn1] at hh1 ⊢
  rw [← hn3] at hcl3 hc3 ⊢
  have HL := hid (And.intro hL0 (And.intro hL1 (And.intro hcl3 (And.intro hwf3 (And.intro hm3 (And.intro hn0 (And.intro hn1 hc3)))))))
  clear hl0 hl1 hl3 hL0 hL1 hcl3 hwf3 hm3 hn0 hn1 hn3 hc3
  by_cases hbad : 4000 < hv old 0 ∨ 4000 < hv fresh 0 ∨ a < 0
  · have bad' : 4000 < hv old 0 ∨ (¬ 4000 < hv old 0 ∧ 4000 < hv fresh 0) ∨ (¬ 4000 < hv old 0 ∧ ¬ 4000 < hv fresh 0 ∧ a < 0) := by omega
    clear hbad
    rcases bad' with q | ⟨q, q'⟩ | ⟨q, q', q''⟩
    · rw [show decide (4000 < hv old 0) = true from decide_eq_true q] at hh0
      clear q
      go_enter Try.func7, Try.ntmps7
      go_wp2_with (at_builtin; refine stopAt ?_; intro q hq)
      refine hh0.mono ?_
      rintro e w3 ⟨rfl, rfl⟩
      go_wp2_with (at_builtin; refine stopAt ?_; intro q hq)
      refine (known_any _).mono ?_
      rintro e w4 ⟨rfl, hk4⟩
      go_wp2_with (at_builtin; refine stopAt ?_; intro q hq)
      go_ret
      exact ⟨by rfl, hk4⟩
    all_goals
      rw [show decide (4000 < hv old 0) = false from decide_eq_false q] at hh0
      first | rw [show decide (4000 < hv fresh 0) = true from decide_eq_true q'] at hh1 | rw [show decide (4000 < hv fresh 0) = false from decide_eq_false q'] at hh1
      clear q q'
      go_enter Try.func7, Try.ntmps7
      go_wp2_with (at_builtin; refine stopAt ?_; intro q hq)
      refine hh0.mono ?_
      rintro e w3 ⟨rfl, rfl⟩
      go_wp2_with (at_builtin; refine stopAt ?_; intro q hq)
      refine hh1.mono ?_
      rintro e w3 ⟨rfl, rfl⟩
      go_wp2_with (at_builtin; refine stopAt ?_; intro q hq)
      refine (known_any _).mono ?_
      rintro e w4 ⟨rfl, hk4⟩
      go_wp2_with (at_builtin; refine stopAt ?_; intro q hq)
      go_ret
      exact ⟨by rfl, hk4⟩
  have q0 : ¬ 4000 < hv old 0 := by omega
  have q1 : ¬ 4000 < hv fresh 0 := by omega
  have qa : ¬ a < 0 := by omega
  rw [show decide (4000 < hv old 0) = false from decide_eq_false q0] at hh0
  rw [show decide (4000 < hv fresh 0) = false from decide_eq_false q1] at hh1
  have hlen0 := (light_len q0).1
  have hlen1 := (light_len q1).1
  clear hbad q0 q1
  obtain ⟨a, rfl⟩ : ∃ a' : Nat, (a' : Int) = a := ⟨a.toNat, by omega⟩
  obtain ⟨n, hn⟩ : ∃ n, n = a % 30 := ⟨_, rfl⟩
  have hmod : (a : Int) % 30 = (n : Int) := by omega
  have hn30 : n < 30 := by omega
  have hst := pstart_any w 30 (by decide) (by decide)
  rw [new_open 30 (by decide)] at hst
  clear hn
  go_enter Try.func7, Try.ntmps7
  go_wp2_with (at_builtin; refine stopAt ?_; intro q hq)
  refine hh0.mono ?_
  rintro e w3 ⟨rfl, rfl⟩
  go_wp2_with (at_builtin; refine stopAt ?_; intro q hq)
  refine hh1.mono ?_
  rintro e w3 ⟨rfl, rfl⟩
  clear hh0 hh1
  go_wp2_with (at_builtin; refine stopAt ?_; intro q hq)
  refine hst.mono ?_
  rintro e w1 ⟨p, rfl, hP1⟩
  obtain ⟨d, mm, b, c, Pw, Pd, Qw, Qd, hB⟩ := hP1.both
  obtain ⟨h0, h1, h2, h3, hf, hb1⟩ := cells4 hB.head
  obtain ⟨R1, hR1⟩ : ∃ R1, R1 = WM.reset (DM.new 30) ⟨0, [], 0, false⟩ old := ⟨_, rfl⟩
  have hws := wreset_any w1 b d Pw Pd (DM.new 30) ⟨0, [], 0, false⟩ hB.one ao0 c0 old (HL.out.1.keep hB.keep) (by omega) (by simp [DM.new])
  have hfr := first_reset old
  rw [← hR1] at hws hfr
  rw [← HL.out.2.2.2.2.2.1] at hws
  have HB := hid (And.intro hB hR1)
  clear hP1 hst hB hR1
  go_wp2_with (at_builtin; refine stopAt ?_; intro q hq)
  refine hws.mono ?_
  rintro e w2 ⟨rfl, ht⟩
  obtain ⟨hB, hR1⟩ := HB.out
  obtain ⟨Pw2, Pd2, hB2, -⟩ := hB.toW ht
  have hLf : ∀ w', Keep (fun k => Qw k ∨ Qd k) w2 w' → Lists w' ao0 old := fun w' hk => HL.out.1.keep (hB2.keep.next hk (fun _ _ x => x) (fun k hk' x => by have := hB2.new k (.inr (.inl x)); omega))
  rcases hfr with ⟨hz, hne⟩ | ⟨hz, hg1, hOld⟩
  · have hpos : 0 < n0 := by rw [HL.out.2.2.2.2.2.1]; exact List.length_pos_iff.2 hne
    have q2 : decide (R1.1 = 0) = false := decide_eq_false hz
    have q3 : (R1.1 == 0) = false := by simpa using hz
    have q4 : (R1.1 != 0) = true := by simpa using hz
    have q5 : (0 : Int) < (n0 : Int) := by omega
    have HK := hid hB2.keep
    clear hB hR1 hB2 hLf ht hz hne hpos hws
    go_wp2_with (at_builtin; refine stopAt ?_; intro q hq)
    refine (known_any _).mono ?_
    rintro e w4 ⟨rfl, hk4⟩
    have HZ := hid (Same.trans HK.out hk4)
    clear hk4
    go_wp2_with (at_builtin; refine stopAt ?_; intro q hq)
    go_ret
    exact ⟨by rfl, HZ.out⟩
  rw [hz]
  have hrs := rwreset_any w2 c mm Qw Qd (DM.new 30) ⟨0, [], 0, false⟩ hB2.two ao0 c0 old (HL.out.1.keep hB2.keep) hLf (by omega) (by simp [DM.new])
  rw [← hR1, ← HL.out.2.2.2.2.2.1] at hrs
  clear h0 h1 h2 h3 hf
  obtain ⟨h0, h1, h2, h3, hf, hb2⟩ := cells4 hB2.head
  have H2 := hid (And.intro hB2 (And.intro hg1 (And.intro hOld hz)))
  clear hB hR1 hB2 hLf ht hz hg1 hOld hws
  go_wp2_with (at_builtin; refine stopAt ?_; intro q hq)
  refine hrs.mono ?_
  rintro e w4 ⟨rfl, ht⟩
  obtain ⟨hB2, hg1, hOld, hz⟩ := H2.out
  obtain ⟨Qw4, Qd4, hB4, -⟩ := hB2.toR ht
  rw [hg1] at hB4
  obtain ⟨D1, hD1⟩ : ∃ D1, D1 = R1.2.1 := ⟨_, rfl⟩
  rw [← hD1] at hB4 hOld
  clear h0 h1 h2 h3 hf
  obtain ⟨h0, h1, h2, h3, hf, hb4⟩ := cells4 hB4.head
  have har := arm_any w4 d Pd2 D1 n (by omega) hB4.one.diskAt
  have H4 := hid (And.intro hB4 hOld)
  clear hB2 hg1 hOld hz ht hB4 hrs hD1
  go_wp2_with (at_builtin; refine stopAt ?_; intro q hq)
  refine har.mono ?_
  rintro e w5 ⟨rfl, Pd5, a1, a2, a3⟩
  obtain ⟨hB4, hOld⟩ := H4.out
  have hI4 : PairIs w4 p d mm Pw2 Pd2 Qw4 Qd4 D1 (.pointer (some ⟨b, 0, none⟩)) (.pointer (some ⟨c, 0, none⟩)) (some ⟨1, old, old.length, false⟩) :=
    ⟨hB4.head, hB4.one.diskAt, hB4.two.diskAt, ⟨b, c, rfl, rfl, hB4.one, hB4.two⟩, hB4.apart, hB4.selfn, fun k x => x.elim (fun y => hB4.lt k (.inl (.inl y))) (fun y => hB4.lt k (.inr (.inl y)))⟩
  clear h0 h1 h2 h3 hf
  obtain ⟨h0, h1, h2, h3, hf, hb5⟩ := cells4 (a2.get hI4.head (fun x => hI4.selfn.1 (.inr x)))
  have hra := ref_arm w5 mm Qd4 D1 n (by omega) (hI4.ref.keep a2 (fun k x y => hI4.apart k (.inr y) (.inr x)))
  have H5 := hid (And.intro hI4 (And.intro a1 (And.intro a2 a3)))
  clear hB4 hOld hI4 a1 a2 a3 har
  go_wp2_with (at_builtin; refine stopAt ?_; intro q hq)
  refine hra.mono ?_
  rintro e w6 ⟨rfl, Qd6, e1, e2, e3⟩
  obtain ⟨hI4, a1, a2, a3⟩ := H5.out
  obtain ⟨hB4, hOld⟩ := H4.out
  have hI6 := hI4.arm a1 a2 a3 (Keep.refl (fun _ => False) w5) e1 e2 e3 (Keep.refl (fun _ => False) w6)
  have hP6 : PairNew w3 w6 p (DM.arm D1 n) (some ⟨1, old, old.length, false⟩) := by
    have s0 := hB4.keep.size
    have s2 := a2.size
    have hk5 : Keep (fun k => Pd2 k ∨ Qd4 k) w4 w6 := (a2.mono fun _ _ x => .inl x).next e2 (fun _ _ x => x) (fun _ _ x => .inr x)
    refine ⟨d, mm, Pw2, Pd5, Qw4, Qd6, _, _, hI6, fun k x => ?_, hB4.keep.next hk5 (fun _ _ x => x) (fun k hk x => by have := hB4.new k (x.elim (fun y => .inl (.inr y)) (fun y => .inr (.inl (.inr y)))); omega)⟩
    rcases x with (x | x) | (x | x) | x
    · exact hB4.new k (.inl (.inl x))
    · rcases a3 k x with z | z
      · exact hB4.new k (.inl (.inr z))
      · omega
    · exact hB4.new k (.inr (.inl (.inl x)))
    · rcases e3 k x with z | z
      · exact hB4.new k (.inr (.inl (.inr z)))
      · omega
    · exact hB4.new k (.inr (.inr x))
  obtain ⟨d6, m6, b6, c6, Pw6, Pd6, Qw6, Qd6', hB6⟩ := hP6.both
  have hok1 := hB4.one.diskOk
  obtain ⟨G', D', hsr1, hsr2, hsr3, hsr4, hsr5⟩ := second_reset (fresh := fresh) hOld hok1 n (by omega) keep
  obtain ⟨R2, hR2⟩ : ∃ R2, R2 = WM.reset (DM.arm D1 n) ⟨1, old, old.length, false⟩ fresh := ⟨_, rfl⟩
  have hw1 : (DM.arm D1 n).waits.length = 0 := by show D1.waits.length = 0; rw [hOld.waits]; rfl
  have hws := wreset_any w6 b6 d6 Pw6 Pd6 (DM.arm D1 n) ⟨1, old, old.length, false⟩ hB6.one ao1 c1 fresh (HL.out.2.1.keep hB6.keep) (by omega) (by omega)
  have hw2 := reset_waits (D := DM.arm D1 n) (by show D1.safe.length ≤ 2048; rw [hOld.size]; decide) ⟨1, old, old.length, false⟩ fresh
  rw [← hR2] at hsr1 hsr4 hsr5 hws hw2
  rw [← HL.out.2.2.2.2.2.2.1] at hws
  clear h0 h1 h2 h3 hf
  obtain ⟨h0, h1, h2, h3, hf, hb6⟩ := cells4 hB6.head
  have H6 := hid (And.intro hB6 (And.intro hR2 (And.intro hw1 hw2)))
  have HS := hid (And.intro hsr1 (And.intro hsr2 (And.intro hsr3 (And.intro hsr4 hsr5))))
  clear hB4 hOld hI4 a1 a2 a3 hra e1 e2 e3 hI6 hP6 hok1 hsr1 hsr2 hsr3 hsr4 hsr5 hB6 hR2 hw1 hw2
  go_wp2_with (at_builtin; refine stopAt ?_; intro q hq)
  refine hws.mono ?_
  rintro e w7 ⟨rfl, ht⟩
  obtain ⟨hB6, hR2, hw1, hw2⟩ := H6.out
  obtain ⟨Pw7, Pd7, hB7, -⟩ := hB6.toW ht
  have hLf : ∀ w', Keep (fun k => Qw6 k ∨ Qd6' k) w7 w' → Lists w' ao1 fresh := fun w' hk => HL.out.2.1.keep (hB7.keep.next hk (fun _ _ x => x) (fun k hk' x => by have := hB7.new k (.inr (.inl x)); omega))
  have hrs := rwreset_any w7 c6 m6 Qw6 Qd6' (DM.arm D1 n) ⟨1, old, old.length, false⟩ hB7.two ao1 c1 fresh (HL.out.2.1.keep hB7.keep) hLf (by omega) (by omega)
  rw [← hR2, ← HL.out.2.2.2.2.2.2.1] at hrs
  clear h0 h1 h2 h3 hf
  obtain ⟨h0, h1, h2, h3, hf, hb7⟩ := cells4 hB7.head
  have H7 := hid hB7
  clear hB6 hR2 hw1 hw2 ht hB7 hLf hws
  go_wp2_with (at_builtin; refine stopAt ?_; intro q hq)
  refine hrs.mono ?_
  rintro e w8 ⟨rfl, ht⟩
  obtain ⟨Qw8, Qd8, hB8, -⟩ := H7.out.toR ht
  have hD8 := hB8.duo
  clear h0 h1 h2 h3 hf
  obtain ⟨h0, h1, h2, h3, hf, hb8⟩ := cells4 hD8.head
  have hKc : ∀ w', Same w3 w' → Cells w' ao3 n3 1 (intsV keep) := fun w' hk => HL.out.2.2.1.keep hk fun _ _ x => x
  have hcr := crash_any w8 d6 Pd7 R2.2.1 ao3 n3 c3 keep hD8.disk (hKc w8 hD8.keep) (fun hp x hx y => by
    subst hx
    have h1 := HL.out.2.2.1.lt (by omega)
    have h2 := hD8.new _ (.inl y)
    omega) (by have := HL.out.2.2.2.2.1; have := HL.out.2.2.2.2.2.2.2; unfold maxLen at *; omega) HL.out.2.2.2.1 (by have := H6.out.2.2; omega)
  have H8 := hid hD8
  clear ht hB8 hD8 hrs hKc
  go_wp2_with (at_builtin; refine stopAt ?_; intro q hq)
  refine hcr.mono ?_
  rintro e w9 ⟨rfl, ht⟩
  obtain ⟨Pd9, D9⟩ := H8.out.toD ht
  clear h0 h1 h2 h3 hf
  obtain ⟨h0, h1, h2, h3, hf, hb9⟩ := cells4 D9.head
  have hcr := ref_crash w9 m6 Qd8 R2.2.1 ao3 n3 c3 keep D9.ref (HL.out.2.2.1.keep D9.keep fun _ _ x => x) (fun hp x hx y => by
    subst hx
    have h1 := HL.out.2.2.1.lt (by omega)
    have h2 := D9.new _ (.inr (.inl y))
    omega) (by have := HL.out.2.2.2.2.1; have := HL.out.2.2.2.2.2.2.2; unfold maxLen at *; omega) HL.out.2.2.2.1 (by have := H6.out.2.2; omega)
  have H9 := hid D9
  clear ht D9
  go_wp2_with (at_builtin; refine stopAt ?_; intro q hq)
  refine hcr.mono ?_
  rintro e wa ⟨rfl, ht⟩
  obtain ⟨Qda, Da⟩ := H9.out.toR ht
  have hop := popen_any w3 wa p _ Da.old (by simp [DM.crash])
  rw [HS.out.1] at hop
  clear h0 h1 h2 h3 hf ht Da hcr
  go_wp2_with (at_builtin; refine stopAt ?_; intro q hq)
  refine hop.mono ?_
  rintro e wb ⟨rfl, hPb⟩
  obtain ⟨db, mb, bb, cb, Pwb, Pdb, Qwb, Qdb, hBb⟩ := hPb.both
  obtain ⟨h0, h1, h2, h3, hf, hbb⟩ := cells4 hBb.head
  have hgn : gone D' G' = false := by unfold gone; rw [HS.out.2.1, HS.out.2.2.1.2]; rfl
  have hre := records_up wb bb db Pwb Pdb D' G' hBb.one hgn
  have Hb := hid hBb
  clear hPb hBb hop
  go_wp2_with (at_builtin; refine stopAt ?_; intro q hq)
  refine hre.mono ?_
  rintro e wc ⟨vc, rfl, hmc, hkc⟩
  obtain ⟨aoc, cc, rfl, hLc⟩ := hmc.form
  have hBc := Hb.out.later hkc
  clear h0 h1 h2 h3 hf
  obtain ⟨h0, h1, h2, h3, hf, hbc⟩ := cells4 hBc.head
  obtain ⟨aor, nr, clr, hcr, hnr, hLr⟩ := hBc.two.cells
  obtain ⟨r0, r1, r2, r3, r4, -, -⟩ := cells5w hcr
  have hcnt := hBc.one.ok.count
  obtain ⟨ng, hng⟩ : ∃ ng, ng = G'.l.length := ⟨_, rfl⟩
  rw [← hng] at r2 ⊢
  have Hc := hid (And.intro hBc (And.intro hLc (And.intro hLr (And.intro hcnt hng))))
  clear hmc hkc hLc hBc hcr hLr hcnt hng hre
  have hs1 := fun w' (hk : Same wc w') => samelists_any w' aor ao0 clr c0 G'.l old (Hc.out.2.2.1.keep hk) (HL.out.1.keep (Same.trans Hc.out.1.keep hk)) (by have := Hc.out.2.2.2.1; omega)
  have hs2 := fun w' (hk : Same wc w') => samelists_any w' aor ao1 clr c1 G'.l fresh (Hc.out.2.2.1.keep hk) (HL.out.2.1.keep (Same.trans Hc.out.1.keep hk)) (by have := Hc.out.2.2.2.1; omega)
  have hs3 := fun w' (hk : Same wc w') => samelists_any w' aoc ao0 cc c0 G'.l old (Hc.out.2.1.keep hk) (HL.out.1.keep (Same.trans Hc.out.1.keep hk)) (by have := Hc.out.2.2.2.1; omega)
  have hs4 := fun w' (hk : Same wc w') => samelists_any w' aoc ao1 cc c1 G'.l fresh (Hc.out.2.1.keep hk) (HL.out.2.1.keep (Same.trans Hc.out.1.keep hk)) (by have := Hc.out.2.2.2.1; omega)
  rw [← Hc.out.2.2.2.2, ← HL.out.2.2.2.2.2.1] at hs1 hs3
  rw [← Hc.out.2.2.2.2, ← HL.out.2.2.2.2.2.2.1] at hs2 hs4
  have S1 := hid hs1
  have S2 := hid hs2
  have S3 := hid hs3
  have S4 := hid hs4
  clear hs1 hs2 hs3 hs4
  go_upto_region 19 with fail
  clear h0 h1 h2 h3 hf r0 r1 r2 r3 r4
  have S1' := S1.out wc (Keep.refl _ _)
  by_cases ho : G'.l = old
  · rw [show decide (G'.l = old) = true from decide_eq_true ho] at S1'
    go_wp2_with (at_builtin; refine stopAt ?_; intro q hq)
    refine S1'.mono ?_
    rintro e wd ⟨rfl, hkd⟩
    have Hd := hid hkd
    clear S1' hkd
    by_cases hz : R2.1 = 0
    · have q2 : decide (R2.1 = 0) = true := decide_eq_true hz
      have hfz : G'.l = fresh := HS.out.2.2.2.1 hz
      have S4' := S4.out wd Hd.out
      rw [show decide (G'.l = fresh) = true from decide_eq_true hfz] at S4'
      rw [hz]
      clear ho q2 hfz hz
      go_wp2_with (at_builtin; refine stopAt ?_; intro q hq)
      refine S4'.mono ?_
      rintro e we ⟨rfl, hke⟩
      have He := hid (Same.trans Hc.out.1.keep (Same.trans Hd.out hke))
      clear S4' hke
      go_wp2_with (at_builtin; refine stopAt ?_; intro q hq)
      refine (known_any _).mono ?_
      rintro e wf ⟨rfl, hkf⟩
      have HZ := hid (Same.trans He.out hkf)
      clear hkf
      go_wp2_with (at_builtin; refine stopAt ?_; intro q hq)
      go_ret
      exact ⟨by rfl, HZ.out⟩
    · have q2 : decide (R2.1 = 0) = false := decide_eq_false hz
      have q3 : (R2.1 == 0) = false := by simpa using hz
      have S3' := S3.out wd Hd.out
      rw [show decide (G'.l = old) = true from decide_eq_true ho] at S3'
      clear ho hz
      go_wp2_with (at_builtin; refine stopAt ?_; intro q hq)
      refine S3'.mono ?_
      rintro e we ⟨rfl, hke⟩
      have He := hid (Same.trans Hc.out.1.keep (Same.trans Hd.out hke))
      clear S3' hke
      go_wp2_with (at_builtin; refine stopAt ?_; intro q hq)
      refine (known_any _).mono ?_
      rintro e wf ⟨rfl, hkf⟩
      have HZ := hid (Same.trans He.out hkf)
      clear hkf
      go_wp2_with (at_builtin; refine stopAt ?_; intro q hq)
      go_ret
      exact ⟨by rfl, HZ.out⟩
  · rw [show decide (G'.l = old) = false from decide_eq_false ho] at S1'
    go_wp2_with (at_builtin; refine stopAt ?_; intro q hq)
    refine S1'.mono ?_
    rintro e wd ⟨rfl, hkd⟩
    have Hd := hid hkd
    have S2' := S2.out wd hkd
    clear S1' hkd
    by_cases hfr : G'.l = fresh
    · rw [show decide (G'.l = fresh) = true from decide_eq_true hfr] at S2'
      go_wp2_with (at_builtin; refine stopAt ?_; intro q hq)
      refine S2'.mono ?_
      rintro e we ⟨rfl, hke⟩
      have He := hid (Same.trans Hd.out hke)
      clear S2' hke
      by_cases hz : R2.1 = 0
      · have S4' := S4.out we He.out
        rw [show decide (G'.l = fresh) = true from decide_eq_true hfr] at S4'
        rw [hz]
        clear ho hfr hz
        go_wp2_with (at_builtin; refine stopAt ?_; intro q hq)
        refine S4'.mono ?_
        rintro e wg ⟨rfl, hkg⟩
        have Hg := hid (Same.trans Hc.out.1.keep (Same.trans He.out hkg))
        clear S4' hkg
        go_wp2_with (at_builtin; refine stopAt ?_; intro q hq)
        refine (known_any _).mono ?_
        rintro e wf ⟨rfl, hkf⟩
        have HZ := hid (Same.trans Hg.out hkf)
        clear hkf
        go_wp2_with (at_builtin; refine stopAt ?_; intro q hq)
        go_ret
        exact ⟨by rfl, HZ.out⟩
      · have h6 : R2.1 = 6 := Classical.byContradiction fun h => ho (HS.out.2.2.2.2 hz h)
        have S3' := S3.out we He.out
        rw [show decide (G'.l = old) = false from decide_eq_false ho] at S3'
        rw [h6]
        clear ho hz h6
        go_wp2_with (at_builtin; refine stopAt ?_; intro q hq)
        refine S3'.mono ?_
        rintro e wg ⟨rfl, hkg⟩
        have hkg2 := Same.trans He.out hkg
        have S4' := S4.out wg hkg2
        rw [show decide (G'.l = fresh) = true from decide_eq_true hfr] at S4'
        have Hg := hid hkg2
        clear S3' hkg hkg2 hfr
        go_wp2_with (at_builtin; refine stopAt ?_; intro q hq)
        refine S4'.mono ?_
        rintro e wh ⟨rfl, hkh⟩
        have Hh := hid (Same.trans Hc.out.1.keep (Same.trans Hg.out hkh))
        clear S4' hkh
        go_wp2_with (at_builtin; refine stopAt ?_; intro q hq)
        refine (known_any _).mono ?_
        rintro e wf ⟨rfl, hkf⟩
        have HZ := hid (Same.trans Hh.out hkf)
        clear hkf
        go_wp2_with (at_builtin; refine stopAt ?_; intro q hq)
        go_ret
        exact ⟨by rfl, HZ.out⟩
    · rw [show decide (G'.l = fresh) = false from decide_eq_false hfr] at S2'
      clear ho hfr
      go_wp2_with (at_builtin; refine stopAt ?_; intro q hq)
      refine S2'.mono ?_
      rintro e we ⟨rfl, hke⟩
      have He := hid (Same.trans Hc.out.1.keep (Same.trans Hd.out hke))
      clear S2' hke
      go_wp2_with (at_builtin; refine stopAt ?_; intro q hq)
      refine (known_any _).mono ?_
      rintro e wf ⟨rfl, hkf⟩
      have HZ := hid (Same.trans He.out hkf)
      clear hkf
      go_wp2_with (at_builtin; refine stopAt ?_; intro q hq)
      go_ret
      exact ⟨by rfl, HZ.out⟩
end Go.Proofs.Yteemekckiafnfaa
/- What was synced is there behind a crash, whatever is kept: the log's disk, byte by byte. Conditions: as the laws name them. -/
namespace Go.Proofs.Yteemekckiafnfaa.WM
open DM BM Go.Proofs.Yteemekckiafnfaa

/-- A sector has what P has there. -/
def Agr (P : List UInt8) (i : Nat) (b : Sec) : Prop := ∀ k, k < 32 → 32 * i + k < P.length → b[k]? = P[32 * i + k]?

theorem agr_sec {P b : List UInt8} (h : ∀ q, q < P.length → b[q]? = P[q]?) (i : Nat) : Agr P i (secOf b i) := fun k hk hq => by
  rw [secOf_getD _ _ _ hk]
  exact h _ hq
theorem agr_torn {P : List UInt8} {i : Nat} {x y : Sec} (hx : Agr P i x) (hy : Agr P i y) (hl : x.length = 32) (z : Nat) (hz : z ≤ 32) : Agr P i (x.take z ++ y.drop z) := fun k hk hq => by
  by_cases h : k < z
  · rw [List.getElem?_append_left (by rw [List.length_take]; omega), List.getElem?_take, if_pos h]
    exact hx k hk hq
  · rw [List.getElem?_append_right (by rw [List.length_take]; omega), List.length_take, List.getElem?_drop, show z + (k - min z x.length) = k by omega]
    exact hy k hk hq

/-- The first bytes of an area are its records'. -/
theorem area_get (h : Nat) (l : List (List UInt8)) {q : Nat} (hq : q < (flat l).length) : (areaH h l)[q]? = (flat l)[q]? := by
  unfold areaH
  rw [List.getElem?_append_left hq]
theorem area_nought (h : Nat) (l : List (List UInt8)) {q : Nat} (hq : (flat l).length ≤ q) (hh : q < 32 * h) : (areaH h l)[q]? = some 0 := by
  unfold areaH
  rw [List.getElem?_append_right hq, List.getElem?_replicate, if_pos (by omega)]
theorem flat_pre (l : List (List UInt8)) (s : Nat) (t : List (List UInt8)) {q : Nat} (hq : q < (flat (l.take s)).length) : (flat (l ++ t))[q]? = (flat (l.take s))[q]? := by
  have h : flat (l ++ t) = flat (l.take s) ++ flat (l.drop s ++ t) := by rw [← flat_append, ← List.append_assoc, List.take_append_drop]
  rw [h, List.getElem?_append_left hq]

/-- Sectors, as what was synced wants them. -/
structure Fit (P : List UInt8) (h : Nat) (S : List Sec) : Prop where
  zero : ∀ p, p < 2 → S.getD p [] = DM.blank
  area : ∀ i, i < h → Agr P i (S.getD (2 + i) [])

theorem getD_set (S : List Sec) (i p : Nat) (x : Sec) : (S.set i x).getD p [] = if i = p ∧ p < S.length then x else S.getD p [] := by
  rw [List.getD_eq_getElem?_getD, List.getElem?_set, List.getD_eq_getElem?_getD]
  by_cases h : i = p
  · subst h
    by_cases h2 : i < S.length
    · simp [h2]
    · simp [h2]
  · rw [if_neg h, if_neg (fun e => h e.1)]

theorem fit_tear {P : List UInt8} {h : Nat} : ∀ (ws : List (Nat × Sec)) (ks : List Int) (S : List Sec), Fit P h S → (∀ x ∈ ws, ∃ i, i < h ∧ x.1 = 2 + i ∧ x.2.length = 32 ∧ Agr P i x.2) → Fit P h (tear S ws ks)
  | [], ks, S, hf, _ => by simpa [tear] using hf
  | x :: ws, [], S, hf, _ => by simpa [tear] using hf
  | x :: ws, k :: ks, S, hf, hw => by
    rw [tear]
    refine fit_tear ws ks _ ?_ fun y hy => hw y (by simp [hy])
    obtain ⟨i, hi, h1, h2, h3⟩ := hw x (by simp)
    unfold torn
    refine ⟨fun p hp => ?_, fun j hj => ?_⟩
    · rw [getD_set, if_neg (by omega)]
      exact hf.zero p hp
    · rw [getD_set]
      split
      · rename_i h4
        have : j = i := by omega
        subst this
        rw [h1]
        exact agr_torn h3 (hf.area j hj) h2 _ (clamp_le k)
      · exact hf.area j hj
theorem puts_other : ∀ (ws : List (Nat × Sec)) (S : List Sec) (p : Nat), (∀ x ∈ ws, x.1 ≠ p) → (puts S ws).getD p [] = S.getD p []
  | [], S, p, _ => rfl
  | x :: ws, S, p, h => by
    show (puts (S.set x.1 x.2) ws).getD p [] = _
    rw [puts_other ws _ p fun y hy => h y (by simp [hy]), getD_set, if_neg fun e => h x (by simp) e.1]

/-- What holds of a log and its disk, s of its records synced. -/
structure SInv (D : Dk) (G : Lg) (s : Nat) : Prop where
  size : D.safe.length = 30
  ep : G.ep = 0
  fit : (flat G.l).length ≤ 32 * 14
  small : ∀ r ∈ G.l, r.length ≤ 1024
  sl : s ≤ G.l.length
  safe : Fit (flat (G.l.take s)) 14 D.safe
  wts : ∀ x ∈ D.waits, ∃ i, i < 14 ∧ x.1 = 2 + i ∧ x.2.length = 32 ∧ Agr (flat (G.l.take s)) i x.2
  now : G.dead = false → ∀ i, i < 14 → nowAt D (2 + i) = secOf (areaH 14 G.l) i

theorem SInv.new : SInv (DM.new 30) ⟨0, [], 0, false⟩ 0 := by
  have h1 : ∀ p, p < 30 → (DM.new 30).safe.getD p [] = DM.blank := fun p hp => new_nowAt 30 p hp
  refine ⟨by simp [DM.new], rfl, by simp [flat], by simp, Nat.zero_le _, ⟨fun p hp => h1 p (by omega), fun i _ k _ hq => by simp [flat] at hq⟩, by simp [DM.new], fun _ i hi => ?_⟩
  rw [new_nowAt 30 _ (by omega)]
  apply List.ext_getElem?
  intro k
  have hal : (areaH 14 []).length = 32 * 14 := areaH_length (by simp [flat])
  by_cases hk : k < 32
  · rw [secOf_getD _ _ _ hk]
    unfold areaH flat DM.blank
    simp only [List.map_nil, List.flatten_nil, List.nil_append, List.length_nil]
    rw [List.getElem?_replicate, List.getElem?_replicate, if_pos hk, if_pos (by omega)]
  · rw [List.getElem?_eq_none (by unfold DM.blank; rw [List.length_replicate]; omega), List.getElem?_eq_none (by rw [secOf_len hal hi]; omega)]
theorem SInv.arm {D : Dk} {G : Lg} {s : Nat} (h : SInv D G s) (n : Int) : SInv (DM.arm D n) G s :=
  ⟨h.size, h.ep, h.fit, h.small, h.sl, h.safe, h.wts, fun hd i hi => by rw [arm_now]; exact h.now hd i hi⟩
theorem SInv.mark {D : Dk} {G : Lg} {s : Nat} (h : SInv D G s) : SInv D (WM.mark D G) s :=
  ⟨h.size, h.ep, h.fit, h.small, h.sl, h.safe, h.wts, fun hd i hi => by
    have : G.dead = false := by
      have h1 : gone D G = false := hd
      unfold gone at h1
      simp only [Bool.or_eq_false_iff] at h1
      exact h1.1
    exact h.now this i hi⟩

theorem SInv.append {D : Dk} {G : Lg} {s : Nat} (h : SInv D G s) (b : List UInt8) : SInv (WM.append D G b).2.1 (WM.append D G b).2.2 s := by
  have hH := half30 h.size
  have hF := (first30 h.size).1
  unfold WM.append
  split
  · exact h.mark
  · rename_i hg
    split
    · exact h
    · rename_i hlong
      split
      · exact h
      · rename_i hfull
        have hsn := flat_snoc G.l b
        unfold room at hfull
        rw [hH] at hfull
        have hfit : (flat (G.l ++ [b])).length ≤ 32 * 14 := by omega
        have hal : (areaH 14 (G.l ++ [b])).length = 32 * 14 := areaH_length hfit
        have hal0 : (areaH 14 G.l).length = 32 * 14 := areaH_length h.fit
        obtain ⟨a1, ⟨ws, a2, a3⟩, a4, a5⟩ := lay_waits_all G.ep (WM.area D (G.l ++ [b])) (((flat (G.l ++ [b])).length - 1) / 32 - (flat G.l).length / 32 + 1) ((flat G.l).length / 32) D (by rw [h.size]; decide) (by omega) (by unfold WM.area; rw [hH]; exact hal)
        have hA : WM.area D (G.l ++ [b]) = areaH 14 (G.l ++ [b]) := by unfold WM.area; rw [hH]; rfl
        simp only
        rw [hA] at a1 a2 a3 a4 a5 ⊢
        rw [h.ep, hF] at a3 a5
        obtain ⟨r, hr⟩ : ∃ r, r = lay G.ep (areaH 14 (G.l ++ [b])) ((flat G.l).length / 32) (((flat (G.l ++ [b])).length - 1) / 32 - (flat G.l).length / 32 + 1) D := ⟨_, rfl⟩
        rw [h.ep] at hr
        rw [h.ep] at a1 a2 a4
        rw [h.ep, ← hr]
        rw [← hr] at a1 a2 a4 a5
        have htk : (G.l ++ [b]).take s = G.l.take s := List.take_append_of_le_length h.sl
        refine ⟨by rw [a1]; exact h.size, rfl, hfit, fun x hx => ?_, by rw [List.length_append]; have := h.sl; omega, by rw [htk, a1]; exact h.safe, fun x hx => ?_, fun hd i hi => ?_⟩
        · rcases List.mem_append.1 hx with hx | hx
          · exact h.small x hx
          · have := List.mem_singleton.1 hx
            subst this
            omega
        · rw [htk]
          rw [a2] at hx
          rcases List.mem_append.1 hx with hx | hx
          · exact h.wts x hx
          · obtain ⟨j, j1, j2, rfl⟩ := a3 x hx
            refine ⟨j, by omega, rfl, secOf_len hal (by omega), agr_sec (fun q hq => ?_) j⟩
            have h1 := flat_pre G.l s [b] hq
            have h2 : q < (flat (G.l ++ [b])).length := by
              have := flat_take_le G.l s
              omega
            rw [area_get 14 _ h2, h1]
        · have hz : r.1 = 0 := by simpa using hd
          have hup : G.dead = false := by
            have h1 : gone D G = false := by simpa using hg
            unfold gone at h1
            simp only [Bool.or_eq_false_iff] at h1
            exact h1.1
          obtain ⟨b1, b2⟩ := a5 hz (2 + i)
          by_cases hin : (flat G.l).length / 32 ≤ i ∧ i < (flat G.l).length / 32 + (((flat (G.l ++ [b])).length - 1) / 32 - (flat G.l).length / 32 + 1)
          · exact b1 i hin.1 hin.2 rfl
          · rw [b2 (fun j j1 j2 => by omega), h.now hup i hi]
            refine secOf_ext hal0 hal hi fun k hk => ?_
            have hin' : i < (flat G.l).length / 32 ∨ ((flat (G.l ++ [b])).length - 1) / 32 < i := by omega
            rcases hin' with q | q
            · have hq1 : 32 * i + k < (flat G.l).length := by omega
              have hq2 : 32 * i + k < (flat (G.l ++ [b])).length := by omega
              rw [area_get 14 _ hq1, area_get 14 _ hq2]
              have := flat_pre G.l G.l.length [b] (q := 32 * i + k) (by rw [List.take_length]; exact hq1)
              rw [this, List.take_length]
            · have hq1 : (flat G.l).length ≤ 32 * i + k := by omega
              have hq2 : (flat (G.l ++ [b])).length ≤ 32 * i + k := by omega
              rw [area_nought 14 _ hq1 (by omega), area_nought 14 _ hq2 (by omega)]

theorem SInv.sync {D : Dk} {G : Lg} {s : Nat} (h : SInv D G s) : SInv (WM.syncW D G).2.1 (WM.syncW D G).2.2 (if (WM.syncW D G).1 = 0 then G.l.length else s) := by
  unfold WM.syncW
  by_cases hg : gone D G = true
  · rw [if_pos hg, if_neg (by simp)]
    exact h.mark
  · rw [if_neg hg]
    simp only
    have hup : G.dead = false := by
      have h1 : gone D G = false := by simpa using hg
      unfold gone at h1
      simp only [Bool.or_eq_false_iff] at h1
      exact h1.1
    by_cases h0 : (DM.sync D).1 = 0
    · simp only [if_pos h0, if_true]
      obtain ⟨s1, s2⟩ := sync_ok h0
      refine ⟨by rw [s1, now_length]; exact h.size, h.ep, h.fit, h.small, Nat.le_refl _, ?_, by rw [s2]; simp, fun _ i hi => by rw [nowAt_flat s1 s2]; exact h.now hup i hi⟩
      rw [s1, List.take_length]
      refine ⟨fun p hp => ?_, fun i hi => ?_⟩
      · show (puts D.safe D.waits).getD p [] = _
        rw [puts_other _ _ p fun x hx => by obtain ⟨i, _, h2, _⟩ := h.wts x hx; omega]
        exact h.safe.zero p hp
      · have := h.now hup i hi
        unfold nowAt at this
        rw [this]
        exact agr_sec (fun q hq => area_get 14 _ hq) i
    · simp only [if_neg h0]
      obtain ⟨-, s1, s2⟩ := sync_no h0
      exact ⟨by rw [s1]; exact h.size, h.ep, h.fit, h.small, h.sl, by rw [s1]; exact h.safe, by rw [s2]; exact h.wts, fun e => by cases e⟩

/-- Behind a crash all that was synced is found. -/
theorem SInv.crash {D : Dk} {G : Lg} {s : Nat} (h : SInv D G s) (ok : Ok D) (keep : List Int) :
    ∃ G' D', openW (DM.crash D keep) = (0, some G', D') ∧ G'.dead = false ∧ Calm D' ∧ s ≤ G'.l.length ∧ G'.safe = G'.l.length := by
  have hsz : (DM.crash D keep).safe.length = 30 := by
    show (tear _ _ _).length = _
    rw [tear_length]; exact h.size
  have hok := ok.crash keep
  have hf : Fit (flat (G.l.take s)) 14 (DM.crash D keep).safe := fit_tear _ _ _ h.safe h.wts
  obtain ⟨E, hE⟩ : ∃ E, E = DM.crash D keep := ⟨_, rfl⟩
  have hEc : Calm E := by rw [hE]; exact crash_calm _ _
  have hn : ∀ p, nowAt E p = E.safe.getD p [] := fun p => by rw [hE]; rfl
  rw [← hE] at hsz hok hf ⊢
  have hH := half30 hsz
  have hep : WM.epoch E = 0 := by
    unfold WM.epoch
    rw [head_blank hEc.2 (by omega) (by rw [hn]; exact hf.zero 0 (by decide)), head_blank hEc.2 (by omega) (by rw [hn]; exact hf.zero 1 (by decide))]
    rfl
  obtain ⟨D', hO⟩ := open_calm hEc hok (by omega)
  refine ⟨_, D', hO.eq, rfl, hO.calm, ?_, rfl⟩
  rw [hep]
  obtain ⟨hbl, hbs⟩ := bytes_get hEc.2 (by omega) hok 0
  rw [hH] at hbl hbs
  rw [(first30 hsz).1] at hbs
  obtain ⟨B, hB⟩ : ∃ B, B = WM.bytes E 0 := ⟨_, rfl⟩
  rw [← hB] at hbl hbs ⊢
  have hfl : (flat (G.l.take s)).length ≤ B.length := by have := flat_take_le G.l s; have := h.fit; omega
  have hpre : B.take (flat (G.l.take s)).length = flat (G.l.take s) := by
    apply List.ext_getElem?
    intro q
    by_cases hq : q < (flat (G.l.take s)).length
    · rw [List.getElem?_take, if_pos hq]
      have hfit := h.fit
      have h1 := hf.area (q / 32) (by have := flat_take_le G.l s; omega) (q % 32) (by omega) (by omega)
      have h2 := secOf_getD B (q / 32) (q % 32) (by omega)
      rw [hbs _ (by have := flat_take_le G.l s; omega), hn, h1, show 32 * (q / 32) + q % 32 = q by omega] at h2
      exact h2.symm
    · rw [List.getElem?_eq_none (by rw [List.length_take]; omega), List.getElem?_eq_none (by omega)]
  have hsplit : B = flat (G.l.take s) ++ B.drop (flat (G.l.take s)).length := by
    conv => lhs; rw [← List.take_append_drop (flat (G.l.take s)).length B, hpre]
  have hcnt := flat_ge (G.l.take s)
  have hsc := scan_found (G.l.take s) [] (B.drop (flat (G.l.take s)).length) (B.length + 1 - (G.l.take s).length) (fun r hr => h.small r (List.mem_of_mem_take hr))
  simp only [List.nil_append, List.length_nil] at hsc
  rw [← hsplit, show (G.l.take s).length + (B.length + 1 - (G.l.take s).length) = B.length + 1 by omega] at hsc
  rw [hsc]
  show s ≤ (G.l.take s ++ _).length
  rw [List.length_append, List.length_take]
  have := h.sl
  omega
end Go.Proofs.Yteemekckiafnfaa.WM
/- begins; what a log's player wants back. Conditions: as the contracts name them. -/
namespace Go.Proofs.Yteemekckiafnfaa
open Go.ChangeShapes Go.WideShapes Go.RowKit Go.Deep
open DM BM WM

set_option maxRecDepth 20000 in
theorem begins_any (w : World) (ao bo : Option Addr) (c d : Nat) (L M : List (List UInt8)) (h1 : Lists w ao L) (h2 : Lists w bo M) (hd : M.length ≤ d) (hn : L.length ≤ 1000000000) :
    Calls Try.prog 34 #[.slice ao L.length c, .slice bo M.length d] w fun e w' => e = .returned (.bool (decide (L.length ≤ M.length ∧ L = M.take L.length))) ∧ Keep (fun _ => False) w w' := by
  by_cases hle : L.length ≤ M.length
  · have hsm := samelists_any w ao bo c d L (M.take L.length) h1 (fun j hj => by
      rw [List.length_take] at hj
      have h := h2 j (by omega)
      simpa using h) hn
    have hsl := fun w => run_sliceAt_hi2 (P := Try.prog) ty_recs bo M.length d .i64 L.length (by omega) w
    obtain ⟨R, hR⟩ : ∃ R, R = decide (L.length ≤ M.length ∧ L = M.take L.length) := ⟨_, rfl⟩
    have hR2 : decide (L = M.take L.length) = R := by rw [hR]; simp [hle]
    rw [← hR]
    rw [hR2, show (M.take L.length).length = L.length by rw [List.length_take]; omega] at hsm
    obtain ⟨n, hnl⟩ : ∃ n, n = L.length := ⟨_, rfl⟩
    obtain ⟨m, hml⟩ : ∃ m, m = M.length := ⟨_, rfl⟩
    rw [← hnl] at hsm hsl hle ⊢
    rw [← hml] at hsl hle ⊢
    have q1 : (n : Int) ≤ (m : Int) := by omega
    clear h1 h2 hd hn hR hR2 hnl hml
    go_enter Try.func34, Try.ntmps34
    go_wp2_with (at_builtin; refine stopAt ?_; intro q hq)
    refine hsm.mono ?_
    rintro e w2 ⟨rfl, hk⟩
    have HK := hid hk
    clear hk
    go_wp2_with (at_builtin; refine stopAt ?_; intro q hq)
    go_ret
    exact ⟨by first | rfl | (cases R <;> rfl), HK.out⟩
  · rw [show decide (L.length ≤ M.length ∧ L = M.take L.length) = false from decide_eq_false fun h => hle h.1]
    obtain ⟨n, hnl⟩ : ∃ n, n = L.length := ⟨_, rfl⟩
    obtain ⟨m, hml⟩ : ∃ m, m = M.length := ⟨_, rfl⟩
    rw [← hnl] at hle ⊢
    rw [← hml] at hle ⊢
    have q1 : decide ((n : Int) ≤ (m : Int)) = false := decide_eq_false (by omega)
    have q2 : decide (n ≤ m) = false := decide_eq_false hle
    clear h1 h2 hd hn hnl hml
    go_enter Try.func34, Try.ntmps34
    go_wp2_with (at_builtin; refine stopAt ?_; intro q hq)
    go_ret
    exact ⟨by trivial, Keep.refl _ _⟩

/-! ### given flags -/
def BoolR (cs : List Value) (b : Bool) : Prop := cs = [.bool b]
abbrev Flags (w : World) (v : Value) (l : List Bool) : Prop := SliceOf w 1 BoolR v l
theorem rd_bools {H : Type} {enc : TypeId × Value → H} {w : World} {base : Nat} {held : Bool} {fuel : Nat} {v : Value} {x : DataW H × List MemPlace}
    (h : DataW.trod enc Try.prog w base (fun _ => true) held fuel 58 [v] = some x) : ∃ l, Flags w v l :=
  rd_slice Try.underlying58 (by kernel_rfl) (fun _ _ _ h => let ⟨b, h1, _⟩ := DataW.trod_bool Try.underlying4 h; ⟨b, h1⟩) h
theorem Flags.form {w : World} {v : Value} {l : List Bool} (h : Flags w v l) : ∃ ao c, v = .slice ao l.length c ∧ ∀ i, i < l.length → ∃ ad b, ao = some ad ∧ w.cell? (ad.add i) = some (.bool b) := by
  obtain ⟨ao, c, rfl, _, _, h3⟩ := h
  refine ⟨ao, c, rfl, fun i hi => ?_⟩
  obtain ⟨ad, rfl, h4⟩ := h3 (by omega)
  obtain ⟨cs, _, rfl, hc⟩ := h4 i hi
  have := hc 0 _ rfl
  rw [Nat.mul_one, Nat.add_zero] at this
  exact ⟨ad, _, rfl, this⟩

/-- Some of the given texts, in a row of the call's own. -/
structure Gathers (W w : World) (v : Value) (L : List (List UInt8)) (vs : List Value) (Pf : Nat → Prop) : Prop where
  row : Row w 36 1 v L.length vs
  own : ∀ x, v.ownBlock = some x → W.heap.size ≤ x ∧ ¬ Pf x
  each : ∀ j (hj : j < L.length), ∃ ao c, vs[j]? = some (.slice ao L[j].length c) ∧ L[j].length ≤ c ∧ Cells W ao L[j].length 1 (bytesV L[j])
theorem Gathers.step {W w w' : World} {v : Value} {L : List (List UInt8)} {vs : List Value} {Pf K Pf' : Nat → Prop} (h : Gathers W w v L vs Pf) (hk : Keep K w w') (hK : ∀ x, K x → Pf x) (hP : ∀ x, Pf' x → Pf x ∨ w.heap.size ≤ x) : Gathers W w' v L vs Pf' :=
  ⟨h.row.keep hk (fun x e y => (h.own x e).2 (hK x y)), fun x e => ⟨(h.own x e).1, fun y => (hP x y).elim (h.own x e).2 fun z => by have := h.row.lt e; omega⟩, h.each⟩
theorem Gathers.lists {W w : World} {ad : Option Addr} {n c : Nat} {L : List (List UInt8)} {vs : List Value} {Pf : Nat → Prop} (h : Gathers W w (.slice ad n c) L vs Pf) (hk : Same W w) : Lists w ad L := fun j hj => by
  obtain ⟨ao', c', h1, h2, h3⟩ := h.each j hj
  obtain ⟨g, cap, hv, hc⟩ := h.row.getCell h1
  cases hv
  exact ⟨⟨g, 0, none⟩, ao', c', rfl, by rw [addr_add, Nat.zero_add]; exact hc, h2, h3.keep hk fun _ _ x => x⟩
theorem Gathers.push {W w w' : World} {v v' u : Value} {L : List (List UInt8)} {x : List UInt8} {vs : List Value} {Pf : Nat → Prop} (h : Gathers W w v L vs Pf) (hW : W.heap.size ≤ w.heap.size) (hr : Row w' 36 1 v' (L.length + 1) (vs ++ [u]))
    (hv : ∀ x, v'.ownBlock = some x → v.ownBlock = some x ∨ w.heap.size ≤ x) (hlt : ∀ x, Pf x → x < w.heap.size) {ao : Option Addr} {c : Nat} (hu : u = .slice ao x.length c) (hc : x.length ≤ c) (hx : Cells W ao x.length 1 (bytesV x)) : Gathers W w' v' (L ++ [x]) (vs ++ [u]) Pf := by
  refine ⟨by rw [List.length_append, List.length_singleton]; exact hr, fun y e => ?_, fun j hj => ?_⟩
  · rcases hv y e with z | z
    · exact h.own y z
    · exact ⟨by omega, fun q => by have := hlt y q; omega⟩
  · have hl : vs.length = L.length := by have := h.row.1; rw [Nat.mul_one] at this; exact this
    by_cases hjl : j < L.length
    · obtain ⟨ao', c', h1, h2, h3⟩ := h.each j hjl
      refine ⟨ao', c', ?_, ?_, ?_⟩
      · rw [List.getElem?_append_left (by omega), h1]
        simp [List.getElem_append_left hjl]
      · simpa [List.getElem_append_left hjl] using h2
      · simpa [List.getElem_append_left hjl] using h3
    · have hje : j = L.length := by rw [List.length_append, List.length_singleton] at hj; omega
      subst hje
      refine ⟨ao, c, ?_, ?_, ?_⟩
      · rw [List.getElem?_append_right (by omega), hl]
        simp [hu]
      · simpa using hc
      · simpa using hx
end Go.Proofs.Yteemekckiafnfaa
/- The pair's open, told with what it changes. Conditions: as the contract names them. -/
namespace Go.Proofs.Yteemekckiafnfaa
open Go.RowKit
open DM BM WM

set_option maxRecDepth 20000 in
set_option maxHeartbeats 2000000 in
theorem popen_keep (W w : World) (p d m : Nat) (Pw Pd Qw Qd : Nat → Prop) (D : Dk) (wv rv : Value) (hI : Stem w p d m Pw Pd Qw Qd D wv rv) (hnew : ∀ k, (Pw k ∨ Pd k) ∨ (Qw k ∨ Qd k) ∨ k = p → W.heap.size ≤ k) (hkW : Keep (fun _ => False) W w) (hfew : D.waits.length ≤ 800000) :
    Calls Try.prog 33 #[.pointer (some ⟨p, 0, none⟩)] w fun e w' => e = .returned (.bool true) ∧ PairNew W w' p (openW D).2.2 (openW D).2.1 ∧ Keep (fun k => Pd k ∨ Qd k ∨ k = p) w w' := by
  obtain ⟨R, hR⟩ : ∃ R, R = openW D := ⟨_, rfl⟩
  have hop := open_any w d Pd D hI.disk hfew
  rw [← hR] at hop ⊢
  obtain ⟨h0, h1, h2, h3, hf, hb⟩ := cells4 hI.head
  have HI := hid hI
  have HN := hid (And.intro hnew hkW)
  have HR := hid hR
  clear hI hnew hkW hR
  go_enter Try.func33, Try.ntmps33
  go_wp2_with (at_builtin; refine stopAt ?_; intro q hq)
  refine hop.mono ?_
  intro e w1 hp
  have hPl := HI.out.disk.lt
  have hQl := HI.out.ref.lt
  have hplt := heap_lt HI.out.head
  have hpP : ¬ Pd p := fun x => HI.out.selfn.1 (.inr x)
  have hpQ : ¬ Qd p := fun x => HI.out.selfn.2 (.inr x)
  unfold OpenTo at hp
  cases hg : R.2.1 with
  | none =>
    rw [hg] at hp
    obtain ⟨rfl, hto⟩ := hp
    obtain ⟨Pd1, a1, a2, a3⟩ := hto
    have hh1 := a2.get HI.out.head hpP
    have href := HI.out.ref.keep a2 (fun k x y => HI.out.apart k (.inr y) (.inr x))
    have hrop := ropen_any w1 m Qd D href hfew
    rw [← HR.out] at hrop
    clear h0 h1 h2 h3 hf
    obtain ⟨h0, h1, h2, h3, hf, hb1⟩ := cells4 hh1
    have HA := hid (And.intro a1 (And.intro a2 (And.intro a3 hh1)))
    clear a1 a2 a3 hh1 href
    go_wp2_with (at_builtin; refine stopAt ?_; intro q hq)
    refine hrop.mono ?_
    intro e w2 hp
    unfold ROpenTo at hp
    rw [hg] at hp
    obtain ⟨rfl, Qd1, c1, c2, c3⟩ := hp
    obtain ⟨a1, a2, a3, hh1⟩ := HA.out
    have hh2 := c2.get hh1 hpQ
    clear h0 h1 h2 h3 hf
    obtain ⟨h0, h1, h2, h3, hf, hb2⟩ := cells4 hh2
    have s1 := a2.size
    have s2 := c2.size
    have hk3 : Keep (fun k => k = p) w2 ((w2.setCell ⟨p, 1, none⟩ (.pointer none)).setCell ⟨p, 3, none⟩ (.pointer none)) := by refine Keep.setCell (Keep.setCell (Keep.refl _ _) (.inl ?_) _) (.inl ?_) _ <;> rfl
    have hh3 := heap_setCell6 (heap_setCell6 hh2 1 (.pointer none)) 3 (.pointer none)
    have hq1 : ∀ k, Qd k → ¬ Pd1 k := fun k x y => (a3 k y).elim (fun z => HI.out.apart k (.inr z) (.inr x)) fun z => by have := hQl k x; omega
    have hpp : ¬ Pd1 p := fun x => (a3 p x).elim hpP fun z => by omega
    have hpq : ¬ Qd1 p := fun x => (c3 p x).elim hpQ fun z => by omega
    have HZ := hid (show PairNew W ((w2.setCell ⟨p, 1, none⟩ (.pointer none)).setCell ⟨p, 3, none⟩ (.pointer none)) p R.2.2 none from by
      have b2 : DiskAt w2 d Pd1 R.2.2 := a1.keep c2 (fun k x y => hq1 k y x)
      refine ⟨d, m, fun _ => False, Pd1, fun _ => False, Qd1, .pointer none, .pointer none, ⟨by rw [hh3]; rfl, b2.keep hk3 (fun k x y => by subst y; exact hpp x), c1.keep hk3 (fun k x y => by subst y; exact hpq x), ⟨rfl, rfl⟩, fun k x y => ?_, ⟨fun x => x.elim id hpp, fun x => x.elim id hpq⟩, fun k x => x.elim False.elim False.elim⟩, fun k x => ?_, ?_⟩
      · rcases x with x | x
        · exact x
        · rcases y with y | y
          · exact y
          · rcases c3 k y with z | z
            · exact hq1 k z x
            · have := a1.lt k x; omega
      · have s0 := HN.out.2.size
        rcases x with (x | x) | (x | x) | x
        · exact x.elim
        · rcases a3 k x with z | z
          · exact HN.out.1 k (.inl (.inr z))
          · omega
        · exact x.elim
        · rcases c3 k x with z | z
          · exact HN.out.1 k (.inr (.inl (.inr z)))
          · omega
        · exact HN.out.1 k (.inr (.inr x))
      · refine ((HN.out.2.next a2 (H := fun _ => False) (fun _ _ x => x) (fun k hk x => by have := HN.out.1 k (.inl (.inr x)); omega)).next c2 (H := fun _ => False) (fun _ _ x => x) (fun k hk x => by have := HN.out.1 k (.inr (.inl (.inr x))); omega)).next hk3 (fun _ _ x => x) (fun k hk x => by have := HN.out.1 k (.inr (.inr x)); omega))
    have HKK := hid (((a2.mono fun _ _ x => .inl x).next c2 (fun _ _ x => x) (fun _ _ x => .inr (.inl x))).next hk3 (H := fun k => Pd k ∨ Qd k ∨ k = p) (fun _ _ x => x) (fun _ _ x => .inr (.inr x)))
    clear a1 a2 a3 hh1 c1 c2 c3 hh2 hk3 hh3 hq1 hpp hpq
    go_wp2_with (at_builtin; refine stopAt ?_; intro q hq)
    go_ret
    rw [hg]
    exact ⟨by simp, HZ.out, HKK.out⟩
  | some G =>
    rw [hg] at hp
    obtain ⟨b, Pw1, Pd1, rfl, a1, a2, a4, a3⟩ := hp
    have hh1 := a2.get HI.out.head hpP
    have href := HI.out.ref.keep a2 (fun k x y => HI.out.apart k (.inr y) (.inr x))
    have hrop := ropen_any w1 m Qd D href hfew
    rw [← HR.out] at hrop
    clear h0 h1 h2 h3 hf
    obtain ⟨h0, h1, h2, h3, hf, hb1⟩ := cells4 hh1
    have HA := hid (And.intro a1 (And.intro a2 (And.intro a3 (And.intro hh1 a4))))
    clear a1 a2 a3 hh1 href a4
    go_wp2_with (at_builtin; refine stopAt ?_; intro q hq)
    refine hrop.mono ?_
    intro e w2 hp
    unfold ROpenTo at hp
    rw [hg] at hp
    obtain ⟨c, Qw1, Qd1, rfl, c1, c2, c4, c3⟩ := hp
    obtain ⟨a1, a2, a3, hh1, a4⟩ := HA.out
    have hh2 := c2.get hh1 hpQ
    clear h0 h1 h2 h3 hf
    obtain ⟨h0, h1, h2, h3, hf, hb2⟩ := cells4 hh2
    have s1 := a2.size
    have s2 := c2.size
    have hk3 : Keep (fun k => k = p) w2 ((w2.setCell ⟨p, 1, none⟩ (.pointer (some ⟨b, 0, none⟩))).setCell ⟨p, 3, none⟩ (.pointer (some ⟨c, 0, none⟩))) := by refine Keep.setCell (Keep.setCell (Keep.refl _ _) (.inl ?_) _) (.inl ?_) _ <;> rfl
    have hh3 := heap_setCell6 (heap_setCell6 hh2 1 (.pointer (some ⟨b, 0, none⟩))) 3 (.pointer (some ⟨c, 0, none⟩))
    have a1d : DiskAt w1 d Pd1 R.2.2 := by obtain ⟨_, _, _, _, h⟩ := a1; exact h.disk
    have a1l : ∀ k, Pw1 k → k < w1.heap.size := by obtain ⟨_, _, _, _, h⟩ := a1; exact h.wal.lt
    have c1d : RefAt w2 m Qd1 R.2.2 := by obtain ⟨_, _, h⟩ := c1; exact h.disk
    have c1l : ∀ k, Qw1 k → k < w2.heap.size := by obtain ⟨_, _, h⟩ := c1; exact h.wal.lt
    have hq1 : ∀ k, Qd k → ¬ Pd1 k := fun k x y => (a3 k y).elim (fun z => HI.out.apart k (.inr z) (.inr x)) fun z => by have := hQl k x; omega
    have hq2 : ∀ k, Qd k → ¬ Pw1 k := fun k x y => by have := hQl k x; have := a4 k y; omega
    have hpp : ¬ Pd1 p := fun x => (a3 p x).elim hpP fun z => by omega
    have hpp2 : ¬ Pw1 p := fun x => by have := a4 p x; omega
    have hpq : ¬ Qd1 p := fun x => (c3 p x).elim hpQ fun z => by omega
    have hpq2 : ¬ Qw1 p := fun x => by have := c4 p x; omega
    have HZ := hid (show PairNew W ((w2.setCell ⟨p, 1, none⟩ (.pointer (some ⟨b, 0, none⟩))).setCell ⟨p, 3, none⟩ (.pointer (some ⟨c, 0, none⟩))) p R.2.2 (some G) from by
      have b1 : LogAt w2 b d Pw1 Pd1 R.2.2 G := a1.keep c2 (fun k x y => hq2 k y x) (fun k x y => hq1 k y x)
      have b2 : DiskAt w2 d Pd1 R.2.2 := a1d.keep c2 (fun k x y => hq1 k y x)
      refine ⟨d, m, Pw1, Pd1, Qw1, Qd1, .pointer (some ⟨b, 0, none⟩), .pointer (some ⟨c, 0, none⟩), ⟨by rw [hh3]; rfl, b2.keep hk3 (fun k x y => by subst y; exact hpp x), c1d.keep hk3 (fun k x y => by subst y; exact hpq x),
        ⟨b, c, rfl, rfl, b1.keep hk3 (fun k x y => by subst y; exact hpp2 x) (fun k x y => by subst y; exact hpp x), c1.keep hk3 (fun k x y => by subst y; exact hpq2 x) (fun k x y => by subst y; exact hpq x)⟩, fun k x y => ?_, ⟨fun x => x.elim hpp2 hpp, fun x => x.elim hpq2 hpq⟩, fun k x => ?_⟩, fun k x => ?_, ?_⟩
      · have hk1 : k < w1.heap.size := x.elim (a1l k) (a1d.lt k)
        rcases y with y | y
        · have := c4 k y; omega
        · rcases c3 k y with z | z
          · exact x.elim (hq2 k z) (hq1 k z)
          · omega
      · have s3 := hk3.size
        rcases x with x | x
        · have := a1l k x; omega
        · have := c1l k x; omega
      · have s0 := HN.out.2.size
        rcases x with (x | x) | (x | x) | x
        · have := a4 k x; omega
        · rcases a3 k x with z | z
          · exact HN.out.1 k (.inl (.inr z))
          · omega
        · have := c4 k x; omega
        · rcases c3 k x with z | z
          · exact HN.out.1 k (.inr (.inl (.inr z)))
          · omega
        · exact HN.out.1 k (.inr (.inr x))
      · refine ((HN.out.2.next a2 (H := fun _ => False) (fun _ _ x => x) (fun k hk x => by have := HN.out.1 k (.inl (.inr x)); omega)).next c2 (H := fun _ => False) (fun _ _ x => x) (fun k hk x => by have := HN.out.1 k (.inr (.inl (.inr x))); omega)).next hk3 (fun _ _ x => x) (fun k hk x => by have := HN.out.1 k (.inr (.inr x)); omega))
    have HKK := hid (((a2.mono fun _ _ x => .inl x).next c2 (fun _ _ x => x) (fun _ _ x => .inr (.inl x))).next hk3 (H := fun k => Pd k ∨ Qd k ∨ k = p) (fun _ _ x => x) (fun _ _ x => .inr (.inr x)))
    clear a1 a2 a3 a4 hh1 c1 c2 c3 c4 hh2 hk3 hh3 hq1 hq2 hpp hpp2 hpq hpq2 a1d a1l c1d c1l
    go_wp2_with (at_builtin; refine stopAt ?_; intro q hq)
    go_ret
    rw [hg]
    exact ⟨by simp, HZ.out, HKK.out⟩
end Go.Proofs.Yteemekckiafnfaa
/- WalSafe: the walk. Conditions: none but that the arguments are texts, flags, an int and ints. -/
namespace Go.Proofs.Yteemekckiafnfaa
open Go.ChangeShapes Go.WideShapes Go.RowKit Go.Deep
open DM BM WM

theorem append_l {D : Dk} {G : Lg} {s : Nat} (h : SInv D G s) (b : List UInt8) : ((WM.append D G b).1 = 0 → (WM.append D G b).2.2.l = G.l ++ [b]) ∧ ((WM.append D G b).1 ≠ 0 → (WM.append D G b).1 ≠ 6 → (WM.append D G b).2.2.l = G.l) := by
  have hH := half30 h.size
  unfold WM.append
  by_cases hg : gone D G = true
  · rw [if_pos hg]
    exact ⟨fun e => (by cases e), fun _ e => absurd rfl e⟩
  · rw [if_neg hg]
    by_cases hlong : 1024 < b.length
    · rw [if_pos hlong]
      exact ⟨fun e => (by cases e), fun _ _ => rfl⟩
    · rw [if_neg hlong]
      by_cases hfull : room D G < b.length + 10
      · rw [if_pos hfull]
        exact ⟨fun e => (by cases e), fun _ _ => rfl⟩
      · rw [if_neg hfull]
        have hsn := flat_snoc G.l b
        unfold room at hfull
        have hfit : (flat (G.l ++ [b])).length ≤ 32 * half D := by omega
        have hal : (WM.area D (G.l ++ [b])).length = 32 * half D := areaH_length hfit
        obtain ⟨-, -, a4, -⟩ := lay_waits_all G.ep (WM.area D (G.l ++ [b])) (((flat (G.l ++ [b])).length - 1) / 32 - (flat G.l).length / 32 + 1) ((flat G.l).length / 32) D (by rw [h.size]; decide) (by omega) hal
        exact ⟨fun _ => rfl, fun e1 e2 => absurd (a4 e1) e2⟩

structure SafeRel (W : World) (p k : Nat) (sf : Nat) (av : Value) (wr : World) : Prop where
  ex : ∃ d m b c Pw Pd Qw Qd D G L vs, Both W wr p d m b c Pw Pd Qw Qd D G D G ∧ SInv D G sf ∧ D.waits.length ≤ 2048 * k ∧ Gathers W wr av L vs (foot Pw Pd Qw Qd p) ∧ L.length = G.l.length ∧ L.length ≤ k
structure SafeEnd (W : World) (p : Nat) (sf : Nat) (av : Value) (wr : World) : Prop where
  ex : ∃ d m b c Pw Pd Qw Qd D G L vs, Both W wr p d m b c Pw Pd Qw Qd D G D G ∧ SInv D G sf ∧ D.waits.length ≤ 100000 ∧ Gathers W wr av L vs (foot Pw Pd Qw Qd p) ∧ L.length ≤ 100

set_option maxRecDepth 20000 in
set_option maxHeartbeats 4000000 in
theorem safe_walk (w : World) (v0 : Value) (l : List (List UInt8)) (hl0 : Texts w v0 l) (v1 : Value) (fl : List Bool) (hl1 : Flags w v1 fl) (a : Int) (ha : -9223372036854775808 ≤ a) (hb : a ≤ 9223372036854775807)
    (v3 : Value) (keep : List Int) (hl3 : Ints w v3 keep) :
    Calls Try.prog 6 #[v0, v1, .int .i64 a, v3] w fun e w' => e = .returned (.bool true) ∧ Keep (fun _ => False) w w' := by
  obtain ⟨ao0, c0, rfl, -, -, hL0⟩ := hl0.lists
  obtain ⟨ao1, c1, rfl, hF1⟩ := hl1.form
  obtain ⟨ao3, c3, rfl, hc3, hm3, hcl3, hwf3⟩ := hl3.cells
  have hh0 := heavy_any w ao0 c0 l hL0
  obtain ⟨n0, hn0⟩ : ∃ n0, n0 = l.length := ⟨_, rfl⟩
  obtain ⟨n1, hn1⟩ : ∃ n1, n1 = fl.length := ⟨_, rfl⟩
  obtain ⟨n3, hn3⟩ : ∃ n3, n3 = keep.length := ⟨_, rfl⟩
  rw [← hn0] at hh0 ⊢
  rw [← hn1] at hF1 ⊢
  rw [← hn3] at hcl3 hc3 ⊢
  have HL := hid (And.intro hL0 (And.intro hcl3 (And.intro hwf3 (And.intro hm3 (And.intro hn0 hc3)))))
  have HF := hid hF1
  clear hl0 hl1 hl3 hL0 hF1 hcl3 hwf3 hm3 hn0 hn1 hn3 hc3
  by_cases hbad : 4000 < hv l 0 ∨ 30 < n0
  · have bad' : 4000 < hv l 0 ∨ (¬ 4000 < hv l 0 ∧ 30 < n0) := by omega
    clear hbad
    rcases bad' with q | ⟨q, q'⟩
    · rw [show decide (4000 < hv l 0) = true from decide_eq_true q] at hh0
      clear q
      go_enter Try.func6, Try.ntmps6
      go_wp2_with (at_builtin; refine stopAt ?_; intro q hq)
      refine hh0.mono ?_
      rintro e w3 ⟨rfl, rfl⟩
      go_wp2_with (at_builtin; refine stopAt ?_; intro q hq)
      refine (known_any _).mono ?_
      rintro e w4 ⟨rfl, hk4⟩
      go_wp2_with (at_builtin; refine stopAt ?_; intro q hq)
      go_ret
      exact ⟨by rfl, hk4⟩
    · rw [show decide (4000 < hv l 0) = false from decide_eq_false q] at hh0
      have q2 : (30 : Int) < (n0 : Int) := by omega
      clear q
      go_enter Try.func6, Try.ntmps6
      go_wp2_with (at_builtin; refine stopAt ?_; intro q hq)
      refine hh0.mono ?_
      rintro e w3 ⟨rfl, rfl⟩
      go_wp2_with (at_builtin; refine stopAt ?_; intro q hq)
      refine (known_any _).mono ?_
      rintro e w4 ⟨rfl, hk4⟩
      go_wp2_with (at_builtin; refine stopAt ?_; intro q hq)
      go_ret
      exact ⟨by rfl, hk4⟩
  have q0 : ¬ 4000 < hv l 0 := by omega
  have qn : n0 ≤ 30 := by omega
  have qn' : decide ((30 : Int) < (n0 : Int)) = false := decide_eq_false (by omega)
  rw [show decide (4000 < hv l 0) = false from decide_eq_false q0] at hh0
  have hsm := (light_len q0).2
  have HS := hid hsm
  clear hbad q0 hsm
  have hst := pstart_any w 30 (by decide) (by decide)
  rw [new_open 30 (by decide)] at hst
  go_enter Try.func6, Try.ntmps6
  go_wp2_with (at_builtin; refine stopAt ?_; intro q hq)
  refine hh0.mono ?_
  rintro e w3 ⟨rfl, rfl⟩
  clear hh0
  go_wp2_with (at_builtin; refine stopAt ?_; intro q hq)
  refine hst.mono ?_
  rintro e w1 ⟨p, rfl, hP1⟩
  have HP1 := hid hP1
  clear hP1 hst
  go_upto_if 36 with fail
  go_cut [] (fun wx => Hid (SafeRel w3 p 0 0 (.slice none 0 0) wx))
  case first =>
    have fin : ∀ (D : Dk) (wz : World), PairNew w3 wz p D (some ⟨0, [], 0, false⟩) → SInv D ⟨0, [], 0, false⟩ 0 → D.waits.length = 0 → SafeRel w3 p 0 0 (.slice none 0 0) wz := fun D wz hP hI hw => by
      obtain ⟨d, mm, b, c, Pw, Pd, Qw, Qd, hB⟩ := hP.both
      exact ⟨d, mm, b, c, Pw, Pd, Qw, Qd, D, _, [], [], hB, hI, by omega, ⟨Row.nil _ _ _, fun x e => by simp [Value.ownBlock] at e, fun j hj => absurd hj (Nat.not_lt_zero _)⟩, rfl, Nat.le_refl _⟩
    by_cases hneg : a < 0
    · have q1 : decide (0 ≤ a) = false := decide_eq_false (by omega)
      have HZ := hid (fin _ _ HP1.out SInv.new (by simp [DM.new]))
      clear fin
      go_wp2_with (at_builtin; refine stopAt ?_; intro q hq)
      go_meet
      exact HZ
    · obtain ⟨a, rfl⟩ : ∃ a' : Nat, (a' : Int) = a := ⟨a.toNat, by omega⟩
      obtain ⟨n, hn⟩ : ∃ n, n = a % 50 := ⟨_, rfl⟩
      have hmod : (a : Int) % 50 = (n : Int) := by omega
      have q1 : (0 : Int) ≤ (a : Int) := by omega
      have HFIN := hid fin
      have hpa := play_arm w3 w1 p _ _ n 0 (.slice none 0 0) (.slice none 0 0) HP1.out (by omega)
      clear hn hneg fin
      go_wp2_with (at_builtin; refine stopAt ?_; intro q hq)
      refine hpa.mono ?_
      rintro e w2 ⟨rfl, hP2⟩
      have HZ := hid (HFIN.out _ _ hP2 (SInv.new.arm _) (by simp [DM.new, DM.arm]))
      clear hP2 HFIN
      go_wp2_with (at_builtin; refine stopAt ?_; intro q hq)
      go_meet
      exact HZ
  case rest =>
    have HR1 := hcut
    clear hcut HP1
    go_upto_block 0 with fail
    go_cut [11, 12] (fun av sv wx => (∃ sf : Nat, sv = .int .i64 sf) ∧ ∃ n ad c, av = .slice ad n c ∧ Hid (SafeEnd w3 p (intOf sv).toNat av wx))
    case first =>
      go_wp2_with (at_builtin; refine stopAt ?_; intro q hq)
      go_loopw [11, 12, 13] (fun av sv iv wr => ∃ k : Nat, k ≤ n0 ∧ ∃ nz sf : Nat, iv = .int .i64 k ∧ sv = .int .i64 sf ∧ (∃ ad c, av = .slice ad nz c) ∧ Hid (SafeRel w3 p k sf av wr)) (fun _ _ iv _ => n0 - (intOf iv).toNat)
      case atStart => exact ⟨0, Nat.zero_le _, 0, 0, rfl, rfl, ⟨none, 0, rfl⟩, HR1⟩
      case round =>
        clear HR1
        obtain ⟨k, hk, nz, sf, rfl, rfl, ⟨adz, cz, rfl⟩, HR⟩ := hrel
        by_cases hkn : k < n0
        · have hkl : k < l.length := by rw [← HL.out.2.2.2.2.1]; exact hkn
          have g1 : (k : Int) < (n0 : Int) := by omega
          obtain ⟨ad, ao', cl, rfl, hi0, hcl, hcc⟩ := HL.out.1 k hkl
          obtain ⟨x, hx⟩ : ∃ x, x = l[k] := ⟨_, rfl⟩
          rw [← hx] at hi0 hcl hcc
          have hx4 : x.length ≤ 4000 := by rw [hx]; exact HS.out _ (List.getElem_mem hkl)
          obtain ⟨nx, hnx⟩ : ∃ nx, nx = x.length := ⟨_, rfl⟩
          rw [← hnx] at hi0 hcl hcc hx4
          obtain ⟨d, mm, b, c, Pw, Pd, Qw, Qd, D, G, L, vs, hB, hI, hw, hG, hLl, hLk⟩ := HR.out.ex
          obtain ⟨h0, h1, h2, h3, hf, hb1⟩ := cells4 hB.head
          have hi1 := cell_old hB.keep _ _ hi0
          have j1 := fun s : Later wr => s.cell h1
          have j2 := fun s : Later wr => s.cell hi1
          obtain ⟨R, hR⟩ : ∃ R, R = WM.append D G x := ⟨_, rfl⟩
          have hfar : ∀ y, 0 < nx → ao' = some y → y.block < w3.heap.size := fun y hp hy => by subst hy; exact hcc.lt (by omega)
          have HX := hid (And.intro hB (And.intro hI (And.intro hw (And.intro hG (And.intro hLl (And.intro hLk (And.intro hR (And.intro hcc (And.intro hfar (And.intro hnx (And.intro hi0 hcl)))))))))))
          clear hB hI hw hG hLl hLk hR hcc hfar hnx hcl hkl hx
          go_upto_region 13 with fail
          clear h0 h2 h3 hf
          (refine wp_region_tail 8 (by kernel_rfl) (by kernel_rfl) ?_; simp only [List.take_succ_cons, List.take_zero, List.drop_succ_cons, List.drop_zero]; (repeat (go_big_quiet_step ((fail)))); refine wpQuiet_nil ?_; rintro _ ⟨sq, rfl⟩)
          obtain ⟨w4, hw4⟩ : ∃ w4, w4 = sq.val := ⟨_, rfl⟩
          have hk4 := sq.keep
          rw [← hw4] at hk4 ⊢
          clear hw4 sq j1 j2 h1
          obtain ⟨hB, hI, hw, hG, hLl, hLk, hR, hcc, hfar, hnx, hi0, hcl⟩ := HX.out
          have hB4 := hB.later hk4
          have hap := wappend_any w4 b d Pw Pd D G hB4.one ao' nx cl x (hcc.keep hB4.keep fun _ _ x => x) (fun y hp hy => by
            have q1 := hfar y hp hy
            exact ⟨fun z => by have := hB.new _ (.inl (.inl z)); omega, fun z => by have := hB.new _ (.inl (.inr z)); omega⟩) (by omega) (by omega)
          rw [← hR] at hap
          have H4 := hid (And.intro hB4 (hG.step (K := fun _ => False) (Pf' := foot Pw Pd Qw Qd p) hk4 (fun _ q => q.elim) (fun _ q => .inl q)))
          clear hB hI hw hG hLl hLk hR hcc hfar hnx hcl hB4 hk4 hi1
          go_wp2_with (at_builtin; refine stopAt ?_; intro q hq)
          refine hap.mono ?_
          rintro e w5 ⟨rfl, ht⟩
          obtain ⟨hB, hI, hw, hG, hLl, hLk, hR, hcc, hfar, hnx, hi0, hcl⟩ := HX.out
          obtain ⟨hB4, hG4⟩ := H4.out
          obtain ⟨Pw5, Pd5, hB5, hs5⟩ := hB4.toW ht
          obtain ⟨-, -, -, hk5, -⟩ := ht
          have hG5 := hG4.step (Pf' := foot Pw5 Pd5 Qw Qd p) hk5 (fun x hx => .inl hx) (fun x hx => by
            rcases hx with z | z | z
            · exact (hs5 x z).imp .inl id
            · exact .inl (.inr (.inl z))
            · exact .inl (.inr (.inr z)))
          obtain ⟨h0, h1, h2, h3, hf, hb5⟩ := cells4 hB5.head
          have hi5 := cell_old hB5.keep _ _ hi0
          have H5 := hid (And.intro hB5 hG5)
          clear hB hI hw hG hLl hLk hR hcc hfar hnx hi0 hcl hB4 hG4 hB5 hs5 hk5 hG5 hap
          go_upto_region 14 with fail
          have j1 := fun s : Later w5 => s.cell h3
          have j2 := fun s : Later w5 => s.cell hi5
          clear h0 h1 h2 hf
          (refine wp_region_tail 8 (by kernel_rfl) (by kernel_rfl) ?_; simp only [List.take_succ_cons, List.take_zero, List.drop_succ_cons, List.drop_zero]; (repeat (go_big_quiet_step ((fail)))); refine wpQuiet_nil ?_; rintro _ ⟨sq, rfl⟩)
          obtain ⟨w6, hw6⟩ : ∃ w6, w6 = sq.val := ⟨_, rfl⟩
          have hk6 := sq.keep
          rw [← hw6] at hk6 ⊢
          clear hw6 sq j1 j2 h3 hi5
          obtain ⟨hB, hI, hw, hG, hLl, hLk, hR, hcc, hfar, hnx, hi0, hcl⟩ := HX.out
          obtain ⟨hB5, hG5⟩ := H5.out
          have hB6 := hB5.later hk6
          have hap := rappend_any' w6 c mm Qw Qd D G hB6.two ao' nx cl x (hcc.keep hB6.keep fun _ _ x => x) (fun y hp hy => by
            have q1 := hfar y hp hy
            exact ⟨fun z => by have := hB.new _ (.inr (.inl (.inl z))); omega, fun z => by have := hB.new _ (.inr (.inl (.inr z))); omega⟩) (by omega) (by omega)
          rw [← hR] at hap
          have H6 := hid (And.intro hB6 (hG5.step (K := fun _ => False) (Pf' := foot Pw5 Pd5 Qw Qd p) hk6 (fun _ q => q.elim) (fun _ q => .inl q)))
          clear hB hI hw hG hLl hLk hR hcc hfar hnx hi0 hcl hB5 hG5 hB6 hk6
          go_wp2_with (at_builtin; refine stopAt ?_; intro q hq)
          refine hap.mono ?_
          rintro e w7 ⟨rfl, ht⟩
          obtain ⟨hB, hI, hw, hG, hLl, hLk, hR, hcc, hfar, hnx, hi0, hcl⟩ := HX.out
          obtain ⟨hB6, hG6⟩ := H6.out
          obtain ⟨Qw7, Qd7, hB7, hs7⟩ := hB6.toR ht
          obtain ⟨-, -, -, hk7, -⟩ := ht
          have hG7 := hG6.step (Pf' := foot Pw5 Pd5 Qw7 Qd7 p) hk7 (fun x hx => .inr (.inl hx)) (fun x hx => by
            rcases hx with z | z | z
            · exact .inl (.inl z)
            · exact (hs7 x z).imp (fun q => .inr (.inl q)) id
            · exact .inl (.inr (.inr z)))
          have hI7 := hI.append x
          have hl7 := append_l hI x
          have hw7 := append_waits (D := D) (by rw [hI.size]; decide) G x
          rw [← hR] at hI7 hl7 hw7
          have hi7 := cell_old hB7.keep _ _ hi0
          have hnz : nz = L.length := by
            have h1 := hG.row.form
            obtain ⟨_, _, h2, _⟩ := h1
            cases h2
            rfl
          have H7 := hid (And.intro hB7 (And.intro hG7 (And.intro hI7 (And.intro hl7 (And.intro hw7 hnz)))))
          clear hB hI hw hG hLl hLk hR hcc hfar hnx hi0 hcl hB6 hG6 hB7 hs7 hk7 hG7 hap hI7 hl7 hw7 hnz
          by_cases hz : R.1 = 0 ∨ R.1 = 6
          · have HZ0 := hid hz
            have z0 : decide (R.1 = 0 ∨ R.1 = 6) = true := decide_eq_true hz
            clear z0
            rcases hz with hz | hz
            all_goals
              rw [hz]
              go_wp2_with (at_builtin; refine stopAt ?_; intro q hq)
              (refine hq.out ?_; clear hq q)
              obtain ⟨hB7, hG7, hI7, hl7, hw7, hnz⟩ := H7.out
              obtain ⟨hB, hI, hw, hG, hLl, hLk, hR, hcc, hfar, hnx, hi0, hcl⟩ := HX.out
              have kB : Same w7 (w7.alloc (.cells #[.slice ao' nx cl] 36)) := (Keep.refl _ _).alloc _
              have hnB := heap_alloc_new w7 (.cells #[.slice ao' nx cl] 36)
              obtain ⟨wB, hwB⟩ : ∃ wB, wB = w7.alloc (.cells #[.slice ao' nx cl] 36) := ⟨_, rfl⟩
              rw [← hwB] at kB hnB ⊢
              clear hwB
              have hGB := hG7.step (K := fun _ => False) (Pf' := foot Pw5 Pd5 Qw7 Qd7 p) kB (fun _ q => q.elim) (fun _ q => .inl q)
              have hBB := hB7.later kB
              have hrowB := hGB.row
              rw [← hnz] at hrowB
              refine wpList_plain rfl (fun K hK => ?_)
              refine wp_append ty_lists _ _ rfl rfl hrowB (some ⟨w7.heap.size, 0, none⟩) 1 1 [.slice ao' nx cl] rfl
                ⟨rfl, fun _ => ⟨_, rfl, fun j u hu => by rw [addr_add, Nat.zero_add, cell_of_row _ _ _ _ _ _ hnB]; simpa using hu⟩⟩ (by intro u hu; simp at hu; subst hu; rfl) (by unfold maxLen; omega) (by omega) ?_
              intro vA wA hrA hkA hvA
              obtain ⟨adA, cA, rfl, -⟩ := hrA.form
              refine hK _ _ ?_
              clear hK K
              have hGA := hGB.push (x := x) (v' := .slice adA (nz + 1) cA) (w' := wA) hBB.keep.size (by rw [← hnz]; exact hrA) (fun y e => by
                rcases hvA with ⟨_, q⟩ | ⟨k', q1, q2⟩
                · omega
                · rw [e] at q1; cases q1
                  rcases q2 with q2 | q2
                  · exact .inl q2
                  · exact .inr (by omega)) hBB.foot_lt (by rw [hnx]) (by omega) (by rw [← hnx]; exact hcc)
              have hBA := hBB.step hkA (fun y e => by
                have q1 := hGB.own y e
                exact ⟨fun z => q1.2 (.inl z), fun z => q1.2 (.inr (.inl z)), fun z => q1.2 (.inr (.inr z)), q1.1⟩)
              have HA := hid (And.intro hBA hGA)
              clear hB7 hG7 hI7 hl7 hw7 hB hI hw hG hLl hLk hR hcc hfar hi0 hcl kB hnB hGB hBB hrowB hrA hkA hvA hGA hBA hnx hi7
            · have HMid : SafeRel w3 p (k + 1) sf (.slice adA (nz + 1) cA) wA := by
                obtain ⟨hB7, hG7, hI7, hl7, hw7, hnz⟩ := H7.out
                obtain ⟨hB, hI, hw, hG, hLl, hLk, -⟩ := HX.out
                exact ⟨d, mm, b, c, Pw5, Pd5, Qw7, Qd7, _, _, _, _, HA.out.1, hI7, by omega, HA.out.2, by rw [hl7.1 hz, List.length_append, List.length_append, hLl], by rw [List.length_append, List.length_singleton]; omega⟩
              have hnA : ∀ L' vs' Pf', Gathers w3 wA (.slice adA (nz + 1) cA) L' vs' Pf' → L'.length = nz + 1 := fun L' vs' Pf' h => by
                obtain ⟨_, _, h2, _⟩ := h.row.form
                injection h2 with _ h3 _
                exact h3.symm
              have HNA := hid hnA
              clear hnA hz hnz HZ0
              -- shall it be synced?
              have HM := hid HMid
              clear HMid
              by_cases hik : k < n1
              · obtain ⟨ad1, fb, rfl, hfc⟩ := HF.out k hik
                have hfc' := cell_old (by obtain ⟨d, mm, b, c, Pw, Pd, Qw, Qd, D, G, L, vs, hB, -⟩ := HM.out.ex; exact hB.keep) _ _ hfc
                have g5 : (k : Int) < (n1 : Int) := by omega
                cases fb with
                | true =>
                  obtain ⟨d, mm, b, c, Pw, Pd, Qw, Qd, D, G, L, vs, hB, hI, hw, hG, hLl, hLk⟩ := HM.out.ex
                  obtain ⟨h0, h1, h2, h3, hf, hb1⟩ := cells4 hB.head
                  obtain ⟨Y, hY⟩ : ∃ Y, Y = WM.syncW D G := ⟨_, rfl⟩
                  have hsy := hI.sync
                  have hsw := syncW_waits D G
                  have hws := wsync_any wA b d Pw Pd D G hB.one (by omega)
                  rw [← hY] at hsy hsw hws
                  have HB := hid (And.intro hB (And.intro hI (And.intro hw (And.intro hG (And.intro hLl (And.intro hLk (And.intro hY (And.intro hsy hsw))))))))
                  clear hB hI hw hG hLl hLk hY hsy hsw hfc hik
                  go_wp2_with (at_builtin; refine stopAt ?_; intro q hq)
                  refine hws.mono ?_
                  rintro e w8 ⟨rfl, ht⟩
                  obtain ⟨hB, hI, hw, hG, hLl, hLk, hY, hsy, hsw⟩ := HB.out
                  obtain ⟨Pw8, Pd8, hB8, hs8⟩ := hB.toW ht
                  obtain ⟨-, -, -, hk8, -⟩ := ht
                  have hG8 := hG.step (Pf' := foot Pw8 Pd8 Qw Qd p) hk8 (fun x hx => .inl hx) (fun x hx => by
                    rcases hx with z | z | z
                    · exact (hs8 x z).imp .inl id
                    · exact .inl (.inr (.inl z))
                    · exact .inl (.inr (.inr z)))
                  have hrs := rwsync_any w8 c mm Qw Qd D G hB8.two (by omega)
                  rw [← hY] at hrs
                  clear h0 h1 h2 h3 hf
                  obtain ⟨h0, h1, h2, h3, hf, hb8⟩ := cells4 hB8.head
                  have H8 := hid (And.intro hB8 hG8)
                  clear hB hI hw hG hLl hLk hY hsy hsw hB8 hs8 hk8 hG8 hws hfc'
                  go_wp2_with (at_builtin; refine stopAt ?_; intro q hq)
                  refine hrs.mono ?_
                  rintro e w9 ⟨rfl, ht⟩
                  obtain ⟨hB, hI, hw, hG, hLl, hLk, hY, hsy, hsw⟩ := HB.out
                  obtain ⟨hB8, hG8⟩ := H8.out
                  obtain ⟨Qw9, Qd9, hB9, hs9⟩ := hB8.toR ht
                  obtain ⟨-, -, -, hk9, -⟩ := ht
                  have hG9 := hG8.step (Pf' := foot Pw8 Pd8 Qw9 Qd9 p) hk9 (fun x hx => .inr (.inl hx)) (fun x hx => by
                    rcases hx with z | z | z
                    · exact .inl (.inl z)
                    · exact (hs9 x z).imp (fun q => .inr (.inl q)) id
                    · exact .inl (.inr (.inr z)))
                  by_cases hz : Y.1 = 0
                  · rw [if_pos hz] at hsy
                    have hll : (nz + 1) = G.l.length := by rw [← hLl]; exact (HNA.out _ _ _ hG).symm
                    have HZ := hid (show SafeRel w3 p (k + 1) (nz + 1) (.slice adA (nz + 1) cA) w9 from ⟨d, mm, b, c, Pw8, Pd8, Qw9, Qd9, _, _, L, vs, hB9, by rw [hll]; exact hsy, by omega, hG9, by rw [hLl, hY]; unfold WM.syncW; split; rfl; simp only; split <;> rfl, by omega⟩)
                    rw [hz]
                    clear hB hI hw hG hLl hLk hY hsy hsw hB8 hG8 hB9 hs9 hk9 hG9 hz h0 h1 h2 h3 hf hrs hll
                    go_wp2_with (at_builtin; refine stopAt ?_; intro q hq)
                    exact ⟨⟨k + 1, by omega, (nz + 1), (nz + 1), by go_num, rfl, ⟨adA, cA, rfl⟩, HZ⟩, by simp [intOf]; omega⟩
                  · rw [if_neg hz] at hsy
                    have HZ := hid (show SafeEnd w3 p sf (.slice adA (nz + 1) cA) w9 from ⟨d, mm, b, c, Pw8, Pd8, Qw9, Qd9, _, _, L, vs, hB9, hsy, by omega, hG9, by omega⟩)
                    have z1 : decide (Y.1 = 0) = false := decide_eq_false hz
                    have z2 : (Y.1 == 0) = false := by simpa using hz
                    have z3 : (Y.1 != 0) = true := by simpa using hz
                    clear hB hI hw hG hLl hLk hY hsy hsw hB8 hG8 hB9 hs9 hk9 hG9 hz h0 h1 h2 h3 hf hrs
                    go_wp2_with (at_builtin; refine stopAt ?_; intro q hq)
                    go_meet
                    exact ⟨⟨sf, rfl⟩, (nz + 1), adA, cA, rfl, HZ⟩
                | false =>
                  clear hfc hik
                  go_wp2_with (at_builtin; refine stopAt ?_; intro q hq)
                  exact ⟨⟨k + 1, by omega, (nz + 1), sf, by go_num, rfl, ⟨adA, cA, rfl⟩, HM⟩, by simp [intOf]; omega⟩
              · have g5 : decide ((k : Int) < (n1 : Int)) = false := decide_eq_false (by omega)
                have g6 : decide (k < n1) = false := decide_eq_false hik
                clear hik
                go_wp2_with (at_builtin; refine stopAt ?_; intro q hq)
                exact ⟨⟨k + 1, by omega, (nz + 1), sf, by go_num, rfl, ⟨adA, cA, rfl⟩, HM⟩, by simp [intOf]; omega⟩
            · have HZ := hid (show SafeEnd w3 p sf (.slice adA (nz + 1) cA) wA from by
                obtain ⟨hB7, hG7, hI7, hl7, hw7, hnz⟩ := H7.out
                obtain ⟨hB, hI, hw, hG, hLl, hLk, -⟩ := HX.out
                exact ⟨d, mm, b, c, Pw5, Pd5, Qw7, Qd7, _, _, _, _, HA.out.1, hI7, by omega, HA.out.2, by rw [List.length_append, List.length_singleton]; omega⟩)
              clear hz hnz HZ0
              go_wp2_with (at_builtin; refine stopAt ?_; intro q hq)
              go_meet
              exact ⟨⟨sf, rfl⟩, nz + 1, adA, cA, rfl, HZ⟩
          · have z1 : decide (R.1 = 0) = false := decide_eq_false fun h => hz (.inl h)
            have z2 : (R.1 == 0) = false := by simpa using fun h => hz (.inl h)
            have z3 : decide (R.1 = 6) = false := decide_eq_false fun h => hz (.inr h)
            have z4 : (R.1 == 6) = false := by simpa using fun h => hz (.inr h)
            have HMid : SafeRel w3 p (k + 1) sf (.slice adz nz cz) w7 := by
              obtain ⟨hB7, hG7, hI7, hl7, hw7, hnz⟩ := H7.out
              obtain ⟨hB, hI, hw, hG, hLl, hLk, -⟩ := HX.out
              exact ⟨d, mm, b, c, Pw5, Pd5, Qw7, Qd7, _, _, _, _, hB7, hI7, by omega, hG7, by rw [hl7.2 (fun h => hz (.inl h)) (fun h => hz (.inr h)), hLl], by omega⟩
            have hnA : ∀ L' vs' Pf', Gathers w3 w7 (.slice adz nz cz) L' vs' Pf' → L'.length = nz := fun L' vs' Pf' h => by
              obtain ⟨_, _, h2, _⟩ := h.row.form
              injection h2 with _ h3 _
              exact h3.symm
            have HNA := hid hnA
            clear hnA hz hi7
            -- shall it be synced?
            have HM := hid HMid
            clear HMid
            by_cases hik : k < n1
            · obtain ⟨ad1, fb, rfl, hfc⟩ := HF.out k hik
              have hfc' := cell_old (by obtain ⟨d, mm, b, c, Pw, Pd, Qw, Qd, D, G, L, vs, hB, -⟩ := HM.out.ex; exact hB.keep) _ _ hfc
              have g5 : (k : Int) < (n1 : Int) := by omega
              cases fb with
              | true =>
                obtain ⟨d, mm, b, c, Pw, Pd, Qw, Qd, D, G, L, vs, hB, hI, hw, hG, hLl, hLk⟩ := HM.out.ex
                obtain ⟨h0, h1, h2, h3, hf, hb1⟩ := cells4 hB.head
                obtain ⟨Y, hY⟩ : ∃ Y, Y = WM.syncW D G := ⟨_, rfl⟩
                have hsy := hI.sync
                have hsw := syncW_waits D G
                have hws := wsync_any w7 b d Pw Pd D G hB.one (by omega)
                rw [← hY] at hsy hsw hws
                have HB := hid (And.intro hB (And.intro hI (And.intro hw (And.intro hG (And.intro hLl (And.intro hLk (And.intro hY (And.intro hsy hsw))))))))
                clear hB hI hw hG hLl hLk hY hsy hsw hfc hik
                go_wp2_with (at_builtin; refine stopAt ?_; intro q hq)
                refine hws.mono ?_
                rintro e w8 ⟨rfl, ht⟩
                obtain ⟨hB, hI, hw, hG, hLl, hLk, hY, hsy, hsw⟩ := HB.out
                obtain ⟨Pw8, Pd8, hB8, hs8⟩ := hB.toW ht
                obtain ⟨-, -, -, hk8, -⟩ := ht
                have hG8 := hG.step (Pf' := foot Pw8 Pd8 Qw Qd p) hk8 (fun x hx => .inl hx) (fun x hx => by
                  rcases hx with z | z | z
                  · exact (hs8 x z).imp .inl id
                  · exact .inl (.inr (.inl z))
                  · exact .inl (.inr (.inr z)))
                have hrs := rwsync_any w8 c mm Qw Qd D G hB8.two (by omega)
                rw [← hY] at hrs
                clear h0 h1 h2 h3 hf
                obtain ⟨h0, h1, h2, h3, hf, hb8⟩ := cells4 hB8.head
                have H8 := hid (And.intro hB8 hG8)
                clear hB hI hw hG hLl hLk hY hsy hsw hB8 hs8 hk8 hG8 hws hfc'
                go_wp2_with (at_builtin; refine stopAt ?_; intro q hq)
                refine hrs.mono ?_
                rintro e w9 ⟨rfl, ht⟩
                obtain ⟨hB, hI, hw, hG, hLl, hLk, hY, hsy, hsw⟩ := HB.out
                obtain ⟨hB8, hG8⟩ := H8.out
                obtain ⟨Qw9, Qd9, hB9, hs9⟩ := hB8.toR ht
                obtain ⟨-, -, -, hk9, -⟩ := ht
                have hG9 := hG8.step (Pf' := foot Pw8 Pd8 Qw9 Qd9 p) hk9 (fun x hx => .inr (.inl hx)) (fun x hx => by
                  rcases hx with z | z | z
                  · exact .inl (.inl z)
                  · exact (hs9 x z).imp (fun q => .inr (.inl q)) id
                  · exact .inl (.inr (.inr z)))
                by_cases hz : Y.1 = 0
                · rw [if_pos hz] at hsy
                  have hll : nz = G.l.length := by rw [← hLl]; exact (HNA.out _ _ _ hG).symm
                  have HZ := hid (show SafeRel w3 p (k + 1) nz (.slice adz nz cz) w9 from ⟨d, mm, b, c, Pw8, Pd8, Qw9, Qd9, _, _, L, vs, hB9, by rw [hll]; exact hsy, by omega, hG9, by rw [hLl, hY]; unfold WM.syncW; split; rfl; simp only; split <;> rfl, by omega⟩)
                  rw [hz]
                  clear hB hI hw hG hLl hLk hY hsy hsw hB8 hG8 hB9 hs9 hk9 hG9 hz h0 h1 h2 h3 hf hrs hll
                  go_wp2_with (at_builtin; refine stopAt ?_; intro q hq)
                  exact ⟨⟨k + 1, by omega, nz, nz, by go_num, rfl, ⟨adz, cz, rfl⟩, HZ⟩, by simp [intOf]; omega⟩
                · rw [if_neg hz] at hsy
                  have HZ := hid (show SafeEnd w3 p sf (.slice adz nz cz) w9 from ⟨d, mm, b, c, Pw8, Pd8, Qw9, Qd9, _, _, L, vs, hB9, hsy, by omega, hG9, by omega⟩)
                  have z1 : decide (Y.1 = 0) = false := decide_eq_false hz
                  have z2 : (Y.1 == 0) = false := by simpa using hz
                  have z3 : (Y.1 != 0) = true := by simpa using hz
                  clear hB hI hw hG hLl hLk hY hsy hsw hB8 hG8 hB9 hs9 hk9 hG9 hz h0 h1 h2 h3 hf hrs
                  go_wp2_with (at_builtin; refine stopAt ?_; intro q hq)
                  go_meet
                  exact ⟨⟨sf, rfl⟩, nz, adz, cz, rfl, HZ⟩
              | false =>
                clear hfc hik
                go_wp2_with (at_builtin; refine stopAt ?_; intro q hq)
                exact ⟨⟨k + 1, by omega, nz, sf, by go_num, rfl, ⟨adz, cz, rfl⟩, HM⟩, by simp [intOf]; omega⟩
            · have g5 : decide ((k : Int) < (n1 : Int)) = false := decide_eq_false (by omega)
              have g6 : decide (k < n1) = false := decide_eq_false hik
              clear hik
              go_wp2_with (at_builtin; refine stopAt ?_; intro q hq)
              exact ⟨⟨k + 1, by omega, nz, sf, by go_num, rfl, ⟨adz, cz, rfl⟩, HM⟩, by simp [intOf]; omega⟩
        · have g1 : ¬ (k : Int) < (n0 : Int) := by omega
          have HZ := hid (show SafeEnd w3 p sf (.slice adz nz cz) wr from by
            obtain ⟨d, mm, b, c, Pw, Pd, Qw, Qd, D, G, L, vs, hB, hI, hw, hG, hLl, hLk⟩ := HR.out.ex
            exact ⟨d, mm, b, c, Pw, Pd, Qw, Qd, D, G, L, vs, hB, hI, by omega, hG, by omega⟩)
          go_wp2_with (at_builtin; refine stopAt ?_; intro q hq)
          go_meet
          exact ⟨⟨sf, rfl⟩, nz, adz, cz, rfl, HZ⟩
    case rest =>
      obtain ⟨⟨sf, rfl⟩, nz, adz, cz, rfl, HE⟩ := hcut
      rw [show (intOf (.int .i64 (sf : Nat))).toNat = sf by simp [intOf]] at HE
      obtain ⟨d, mm, b, c, Pw, Pd, Qw, Qd, D, G, L, vs, hB, hI, hw, hG, hLk⟩ := HE.out.ex
      have hD := hB.duo
      have hok := hB.one.diskOk
      obtain ⟨G', D', hop, hg1, hg2, hg3, hg4⟩ := hI.crash hok keep
      obtain ⟨h0, h1, h2, h3, hf, hb1⟩ := cells4 hB.head
      have hcr := crash_any _ d Pd D ao3 n3 c3 keep hD.disk (HL.out.2.1.keep hD.keep fun _ _ x => x) (fun hp x hx y => by
        subst hx
        have h1 := HL.out.2.1.lt (by omega)
        have h2 := hD.new _ (.inl y)
        omega) (by have := HL.out.2.2.2.1; have := HL.out.2.2.2.2.2; unfold maxLen at *; omega) HL.out.2.2.1 (by omega)
      have HX := hid (And.intro hD (And.intro hG (And.intro hw hLk)))
      have HS2 := hid (And.intro hop (And.intro hg1 (And.intro hg2 (And.intro hg3 hg4))))
      clear HE hB hI hw hG hLk hD hok hop hg1 hg2 hg3 hg4
      go_wp2_with (at_builtin; refine stopAt ?_; intro q hq)
      refine hcr.mono ?_
      rintro e w4 ⟨rfl, ht⟩
      obtain ⟨hD, hG, hw, hLk⟩ := HX.out
      obtain ⟨Pd4, D4, hk4, hs4⟩ := hD.crashD ht
      have hG4 := hG.step (Pf' := fun x => Pd4 x ∨ Qd x ∨ x = p) hk4 (fun x hx => .inl (.inr hx)) (fun x hx => by
        rcases hx with z | z | z
        · exact (hs4 x z).imp (fun q => .inl (.inr q)) id
        · exact .inl (.inr (.inl (.inr z)))
        · exact .inl (.inr (.inr z)))
      clear h0 h1 h2 h3 hf
      obtain ⟨h0, h1, h2, h3, hf, hb4⟩ := cells4 D4.head
      have hcr := ref_crash w4 mm Qd D ao3 n3 c3 keep D4.ref (HL.out.2.1.keep D4.keep fun _ _ x => x) (fun hp x hx y => by
        subst hx
        have h1 := HL.out.2.1.lt (by omega)
        have h2 := D4.new _ (.inr (.inl y))
        omega) (by have := HL.out.2.2.2.1; have := HL.out.2.2.2.2.2; unfold maxLen at *; omega) HL.out.2.2.1 (by omega)
      have H4 := hid (And.intro D4 hG4)
      clear hD hG hw hLk ht D4 hk4 hs4 hG4
      go_wp2_with (at_builtin; refine stopAt ?_; intro q hq)
      refine hcr.mono ?_
      rintro e w5 ⟨rfl, ht⟩
      obtain ⟨D4, hG4⟩ := H4.out
      obtain ⟨Qd5, c1', c2', c3'⟩ := ht
      obtain ⟨hgk, hgs⟩ := And.intro c2' c3'
      have hG5 := hG4.step (Pf' := fun x => Pd4 x ∨ Qd5 x ∨ x = p) c2' (fun x hx => .inr (.inl hx)) (fun x hx => by
        rcases hx with z | z | z
        · exact .inl (.inl z)
        · exact (c3' x z).imp (fun q => .inr (.inl q)) id
        · exact .inl (.inr (.inr z)))
      have hl4 := heap_lt D4.head
      have hst : Stem w5 p d mm (fun _ => False) Pd4 (fun _ => False) Qd5 (DM.crash D keep) (.pointer (some ⟨b, 0, none⟩)) (.pointer (some ⟨c, 0, none⟩)) := by
        refine ⟨c2'.get D4.head D4.selfn.2, D4.disk.keep c2' (fun k x y => D4.apart k x y), c1', fun k x y => x.elim id fun x => y.elim id fun y => ?_, ⟨fun x => x.elim id D4.selfn.1, fun x => x.elim id fun x => ?_⟩⟩
        · rcases c3' k y with z | z
          · exact D4.apart k x z
          · have := D4.disk.lt k x; omega
        · rcases c3' p x with z | z
          · exact D4.selfn.2 z
          · omega
      have s4 := D4.keep.size
      have hopn := popen_keep w3 w5 p d mm _ _ _ _ _ _ _ hst (fun k x => by
        rcases x with (x | x) | (x | x) | x
        · exact x.elim
        · exact D4.new k (.inl x)
        · exact x.elim
        · rcases c3' k x with z | z
          · exact D4.new k (.inr (.inl z))
          · omega
        · exact D4.new k (.inr (.inr x))) (D4.keep.next c2' (fun _ _ x => x) (fun k hk x => by have := D4.new k (.inr (.inl x)); omega)) (by simp [DM.crash])
      rw [HS2.out.1] at hopn
      have H5 := hid hG5
      clear D4 hG4 c1' c2' c3' hgk hgs hG5 hl4 hst s4 h0 h1 h2 h3 hf hcr
      go_wp2_with (at_builtin; refine stopAt ?_; intro q hq)
      refine hopn.mono ?_
      rintro e w6 ⟨rfl, hP6, hk6⟩
      have hG6 := H5.out.step (Pf' := fun _ => False) hk6 (fun x hx => hx) (fun x hx => hx.elim)
      obtain ⟨d6, m6, b6, c6, Pw6, Pd6, Qw6, Qd6, hB6⟩ := hP6.both
      obtain ⟨h0, h1, h2, h3, hf, hbb⟩ := cells4 hB6.head
      have hgn : gone D' G' = false := by unfold gone; rw [HS2.out.2.1, HS2.out.2.2.1.2]; rfl
      have hre := records_up w6 b6 d6 Pw6 Pd6 D' G' hB6.one hgn
      have H6 := hid (And.intro hB6 hG6)
      clear hP6 hk6 hG6 hB6 hopn
      go_wp2_with (at_builtin; refine stopAt ?_; intro q hq)
      refine hre.mono ?_
      rintro e w7 ⟨v7, rfl, hm7, hk7⟩
      obtain ⟨ao7, c7, rfl, hL7⟩ := hm7.form
      obtain ⟨hB6, hG6⟩ := H6.out
      have hB7 := hB6.later hk7
      have hG7 := hG6.step (K := fun _ => False) (Pf' := fun _ => False) hk7 (fun _ x => x) (fun _ x => x.elim)
      clear h0 h1 h2 h3 hf
      obtain ⟨h0, h1, h2, h3, hf, hb7⟩ := cells4 hB7.head
      obtain ⟨aor, nr, clr, hcr, hnr, hLr⟩ := hB7.two.cells
      obtain ⟨r0, r1, r2, r3, r4, -, -⟩ := cells5w hcr
      have hcnt := hB7.one.ok.count
      obtain ⟨ng, hng⟩ : ∃ ng, ng = G'.l.length := ⟨_, rfl⟩
      have hgs : G'.safe = ng := by rw [hng]; exact HS2.out.2.2.2.2
      have hsf : sf ≤ ng := by rw [hng]; exact HS2.out.2.2.2.1
      rw [← hng] at r2 ⊢
      have hLz := hG7.lists hB7.keep
      have hnzL : nz = L.length ∧ L.length ≤ cz := by
        obtain ⟨_, _, h2, h3, _⟩ := hG7.row.form
        injection h2 with _ h4 h5
        exact ⟨h4, by omega⟩
      obtain ⟨bb, hbb⟩ : ∃ bb, bb = decide (G'.l.length ≤ L.length ∧ G'.l = L.take G'.l.length) := ⟨_, rfl⟩
      have hs1 := fun w' (hk : Same w7 w') => begins_any w' aor adz clr cz G'.l L (hLr.keep hk) (hLz.keep hk) hnzL.2 (by omega)
      have hs2 := fun w' (hk : Same w7 w') => begins_any w' ao7 adz c7 cz G'.l L (hL7.keep hk) (hLz.keep hk) hnzL.2 (by omega)
      rw [← hbb, ← hng, ← hnzL.1] at hs1 hs2
      have S1 := hs1 w7 (Keep.refl _ _)
      have S2 := hid hs2
      have H7 := hid hB7
      clear hs1 hs2 hm7 hk7 hL7 hB6 hG6 hB7 hG7 hcr hnr hLr hcnt hng hLz hnzL hre hbb
      have q9 : (sf : Int) ≤ (ng : Int) := by omega
      go_upto_region 32 with fail
      go_wp2_with (at_builtin; refine stopAt ?_; intro q hq)
      refine S1.mono ?_
      rintro e w8 ⟨rfl, hk8⟩
      have H8 := hid hk8
      clear S1 hk8
      cases bb with
      | false =>
        go_wp2_with (at_builtin; refine stopAt ?_; intro q hq)
        refine (known_any _).mono ?_
        rintro e w9 ⟨rfl, hk9⟩
        have HZ := hid (Same.trans H7.out.keep (Same.trans H8.out hk9))
        clear hk9
        go_wp2_with (at_builtin; refine stopAt ?_; intro q hq)
        go_ret
        exact ⟨by rfl, HZ.out⟩
      | true =>
        have S2' := S2.out w8 H8.out
        have hB8 := H7.out.later H8.out
        clear h0 h1 h2 h3 hf r0 r1 r2 r3 r4
        obtain ⟨h0, h1, h2, h3, hf, hb8⟩ := cells4 hB8.head
        clear hB8
        go_wp2_with (at_builtin; refine stopAt ?_; intro q hq)
        refine S2'.mono ?_
        rintro e w9 ⟨rfl, hk9⟩
        have hB9 := H7.out.later (Same.trans H8.out hk9)
        have hsa := safe_up w9 b6 d6 Pw6 Pd6 D' G' hB9.one hgn
        rw [hgs] at hsa
        clear h0 h1 h2 h3 hf S2'
        obtain ⟨h0, h1, h2, h3, hf, hb9⟩ := cells4 hB9.head
        have H9 := hid hB9.keep
        clear hB9 hk9
        go_wp2_with (at_builtin; refine stopAt ?_; intro q hq)
        refine hsa.mono ?_
        rintro e w10 ⟨rfl, rfl⟩
        go_wp2_with (at_builtin; refine stopAt ?_; intro q hq)
        refine (known_any _).mono ?_
        rintro e w11 ⟨rfl, hk11⟩
        have HZ := hid (Same.trans H9.out hk11)
        clear hk11
        go_wp2_with (at_builtin; refine stopAt ?_; intro q hq)
        go_ret
        exact ⟨by rfl, HZ.out⟩
end Go.Proofs.Yteemekckiafnfaa
