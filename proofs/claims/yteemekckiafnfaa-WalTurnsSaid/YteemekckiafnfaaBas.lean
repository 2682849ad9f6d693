/- Texts WsA, WsB, WsC, WsD, WsE, WsF in one. Conditions: as each law names them. -/
import Derived.Test.YteemekckiafnfaaBar
/- The log's disk, sector by sector: what is written, wiped, opened again. Conditions: as the laws name them. -/
namespace Go.Proofs.Yteemekckiafnfaa.WM
open DM BM Go.Proofs.Yteemekckiafnfaa

/-- A sector as it is read. -/
def nowAt (D : Dk) (p : Nat) : Sec := (now D).getD p []

theorem now_snoc {D E : Dk} {i : Nat} {b : Sec} (hs : E.safe = D.safe) (hw : E.waits = D.waits ++ [(i, b)]) : now E = (now D).set i b := by
  unfold now
  rw [hs, hw, puts_append]
  rfl
theorem nowAt_snoc {D E : Dk} {i : Nat} {b : Sec} (hs : E.safe = D.safe) (hw : E.waits = D.waits ++ [(i, b)]) (hi : i < D.safe.length) (p : Nat) : nowAt E p = if p = i then b else nowAt D p := by
  have hl := now_length D
  unfold nowAt
  rw [now_snoc hs hw, List.getD_eq_getElem?_getD, List.getElem?_set]
  by_cases h : i = p
  · subst h
    rw [if_pos rfl, if_pos (by omega), if_pos rfl]
    rfl
  · rw [if_neg h, if_neg (fun e => h e.symm), List.getD_eq_getElem?_getD]
theorem nowAt_same {D E : Dk} (hs : E.safe = D.safe) (hw : E.waits = D.waits) (p : Nat) : nowAt E p = nowAt D p := by
  unfold nowAt now
  rw [hs, hw]
theorem nowAt_flat {D E : Dk} (hs : E.safe = now D) (hw : E.waits = []) (p : Nat) : nowAt E p = nowAt D p := by
  unfold nowAt now
  rw [hs, hw]
  rfl
theorem read_nowAt {D : Dk} (hd : D.down = false) (i : Nat) (hi : i < D.safe.length) : DM.read D (i : Int) = (nowAt D i, 0) := by
  unfold DM.read nowAt
  rw [hd, if_neg (by simp), if_neg (by omega)]
  simp
theorem nowAt_len {D : Dk} (ok : Ok D) (i : Nat) (hi : i < D.safe.length) : (nowAt D i).length = 32 := by
  have hl := now_length D
  have := ok.now _ (List.getElem_mem (l := now D) (n := i) (by omega))
  unfold nowAt
  rw [List.getD_eq_getElem?_getD, List.getElem?_eq_getElem (by omega)]
  exact this

theorem write_ok {D : Dk} {i : Nat} {b : Sec} (h : (DM.write D (i : Int) b).1 = 0) : i < D.safe.length ∧ b.length = 32 ∧ (DM.write D (i : Int) b).2.safe = D.safe ∧ (DM.write D (i : Int) b).2.waits = D.waits ++ [(i, b)] := by
  unfold DM.write at h ⊢
  split at h
  · cases h
  · rename_i h1
    rw [if_neg h1]
    split at h
    · cases h
    · rename_i h2
      rw [if_neg h2]
      split at h
      · rename_i h3
        rw [if_pos h3]
        refine ⟨by omega, by omega, act_safe D, ?_⟩
        show (DM.act D).2.waits ++ [((i : Int).toNat, b)] = _
        rw [act_waits]
        simp
      · cases h
theorem write_no {D : Dk} {i : Nat} {b : Sec} (hi : i < D.safe.length) (hb : b.length = 32) (h : (DM.write D (i : Int) b).1 ≠ 0) : (DM.write D (i : Int) b).1 = 6 ∧ (DM.write D (i : Int) b).2.safe = D.safe ∧ (DM.write D (i : Int) b).2.waits = D.waits := by
  unfold DM.write at h ⊢
  split
  · exact ⟨rfl, rfl, rfl⟩
  · rename_i h1
    rw [if_neg h1] at h
    rw [if_neg (by omega)] at h ⊢
    split
    · rename_i h3
      rw [if_pos h3] at h
      exact absurd rfl h
    · exact ⟨rfl, act_safe D, act_waits D⟩
theorem sync_ok {D : Dk} (h : (DM.sync D).1 = 0) : (DM.sync D).2.safe = now D ∧ (DM.sync D).2.waits = [] := by
  unfold DM.sync at h ⊢
  split at h
  · rename_i h3
    rw [if_pos h3]
    refine ⟨?_, rfl⟩
    show now (DM.act D).2 = _
    unfold now
    rw [act_safe, act_waits]
  · cases h
theorem sync_no {D : Dk} (h : (DM.sync D).1 ≠ 0) : (DM.sync D).1 = 6 ∧ (DM.sync D).2.safe = D.safe ∧ (DM.sync D).2.waits = D.waits := by
  unfold DM.sync at h ⊢
  split
  · rename_i h3
    rw [if_pos h3] at h
    exact absurd rfl h
  · exact ⟨rfl, act_safe D, act_waits D⟩

theorem first_eq {D E : Dk} (h : E.safe = D.safe) (ep : Nat) : WM.first E ep = WM.first D ep := by unfold WM.first half; rw [h]
theorem half_eq {D E : Dk} (h : E.safe.length = D.safe.length) : half E = half D := by unfold half; rw [h]

/-- Sectors of an area that are written: what waits then; what is read, if all went well. -/
theorem lay_waits_all (ep : Nat) (b : List UInt8) : ∀ k i (D : Dk), 6 ≤ D.safe.length → i + k ≤ half D → b.length = 32 * half D →
    (lay ep b i k D).2.safe = D.safe ∧ (∃ ws, (lay ep b i k D).2.waits = D.waits ++ ws ∧ ∀ x ∈ ws, ∃ j, i ≤ j ∧ j < i + k ∧ x = (WM.first D ep + j, secOf b j)) ∧ ((lay ep b i k D).1 ≠ 0 → (lay ep b i k D).1 = 6) ∧
    ((lay ep b i k D).1 = 0 → ∀ p, (∀ j, i ≤ j → j < i + k → p = WM.first D ep + j → nowAt (lay ep b i k D).2 p = secOf b j) ∧ ((∀ j, i ≤ j → j < i + k → p ≠ WM.first D ep + j) → nowAt (lay ep b i k D).2 p = nowAt D p))
  | 0, i, D, _, _, _ => ⟨rfl, ⟨[], by simp [lay], by simp⟩, fun h => absurd rfl h, fun _ p => ⟨fun j h1 h2 => by omega, fun _ => rfl⟩⟩
  | k + 1, i, D, h6, hik, hb => by
    have hfl := first_lt (D := D) ep i h6 (by omega)
    have hsl : (secOf b i).length = 32 := by unfold secOf; rw [List.length_take, List.length_drop]; omega
    unfold lay
    simp only
    by_cases h0 : (DM.write D ((WM.first D ep + i : Nat) : Int) (secOf b i)).1 = 0
    · rw [if_pos h0]
      obtain ⟨_, _, w1, w2⟩ := write_ok h0
      have hn := fun p => nowAt_snoc w1 w2 hfl p
      have hF := first_eq w1 ep
      have hH : half (DM.write D ((WM.first D ep + i : Nat) : Int) (secOf b i)).2 = half D := half_eq (by rw [w1])
      obtain ⟨i1, ⟨ws, i2, i3⟩, i4, i5⟩ := lay_waits_all ep b k (i + 1) _ (by rw [w1]; exact h6) (by rw [hH]; omega) (by rw [hH]; exact hb)
      generalize (DM.write D ((WM.first D ep + i : Nat) : Int) (secOf b i)).2 = E at *
      rw [hF] at i3 i5
      refine ⟨i1.trans w1, ⟨(WM.first D ep + i, secOf b i) :: ws, by rw [i2, w2]; simp, fun x hx => ?_⟩, i4, fun h p => ?_⟩
      · rcases List.mem_cons.1 hx with rfl | hx
        · exact ⟨i, Nat.le_refl _, by omega, rfl⟩
        · obtain ⟨j, j1, j2, j3⟩ := i3 x hx
          exact ⟨j, by omega, by omega, j3⟩
      · obtain ⟨q1, q2⟩ := i5 h p
        refine ⟨fun j j1 j2 j3 => ?_, fun hne => ?_⟩
        · by_cases hj : j = i
          · subst hj
            rw [q2 (fun j' a1 a2 a3 => by omega), hn, if_pos j3]
          · exact q1 j (by omega) (by omega) j3
        · rw [q2 (fun j a1 a2 => hne j (by omega) (by omega)), hn, if_neg (hne i (Nat.le_refl _) (by omega))]
    · rw [if_neg h0]
      obtain ⟨w0, w1, w2⟩ := write_no hfl hsl h0
      exact ⟨w1, ⟨[], by rw [w2, List.append_nil], by simp⟩, fun _ => w0, fun h => absurd h h0⟩
end Go.Proofs.Yteemekckiafnfaa.WM
/- A log is opened on a disk that is up and not armed, and opened once more. Conditions: as the laws name them. -/
namespace Go.Proofs.Yteemekckiafnfaa.WM
open DM BM Go.Proofs.Yteemekckiafnfaa

theorem gd0 (l : List UInt8) (k : Nat) : l.getD k 0 = (l[k]?).getD 0 := List.getD_eq_getElem?_getD

/-- A sector of bytes, place by place. -/
theorem secOf_getD (b : List UInt8) (i k : Nat) (hk : k < 32) : (secOf b i)[k]? = b[32 * i + k]? := by
  unfold secOf
  rw [List.getElem?_take, if_pos hk, List.getElem?_drop]
theorem secOf_len {b : List UInt8} {h : Nat} (hb : b.length = 32 * h) {i : Nat} (hi : i < h) : (secOf b i).length = 32 := by
  unfold secOf; rw [List.length_take, List.length_drop]; omega
theorem secOf_ext {a b : List UInt8} {h i : Nat} (ha : a.length = 32 * h) (hb : b.length = 32 * h) (hi : i < h) (he : ∀ k, k < 32 → a[32 * i + k]? = b[32 * i + k]?) : secOf a i = secOf b i := by
  apply List.ext_getElem?
  intro k
  by_cases hk : k < 32
  · rw [secOf_getD _ _ _ hk, secOf_getD _ _ _ hk, he k hk]
  · rw [List.getElem?_eq_none (by rw [secOf_len ha hi]; omega), List.getElem?_eq_none (by rw [secOf_len hb hi]; omega)]

theorem clean_len (B : List UInt8) (en : Nat) : (clean B en).length = B.length := by unfold clean; rw [List.length_append, List.length_take, List.length_replicate]; omega
theorem clean_get {B : List UInt8} {en j : Nat} (hj : j < B.length) : (clean B en)[j]? = some (if j < en then B.getD j 0 else 0) := by
  unfold clean
  by_cases h : j < en
  · rw [List.getElem?_append_left (by rw [List.length_take]; omega), List.getElem?_take, if_pos h, if_pos h, gd _ _ hj]
  · rw [List.getElem?_append_right (by rw [List.length_take]; omega), List.length_take, List.getElem?_replicate, if_pos (by omega), if_neg h]
theorem dirty_no {B : List UInt8} {en i : Nat} (h : dirty B en i = false) {k : Nat} (hk : k < 32) (he : en ≤ 32 * i + k) : B.getD (32 * i + k) 0 = 0 := by
  unfold dirty at h
  have h1 := List.any_eq_false.1 h k (List.mem_range.2 hk)
  simp only [Bool.and_eq_true, decide_eq_true_eq, not_and, Decidable.not_not] at h1
  exact h1 he
theorem clean_same {B : List UInt8} {en h i : Nat} (hb : B.length = 32 * h) (hi : i < h) (hd : dirty B en i = false) : secOf (clean B en) i = secOf B i :=
  secOf_ext (by rw [clean_len]; exact hb) hb hi fun k hk => by
    rw [clean_get (by omega), gd B _ (by omega)]
    split
    · rfl
    · rw [dirty_no hd hk (by omega)]
theorem clean_clean {B : List UInt8} {en h i : Nat} (hb : B.length = 32 * h) (hi : i < h) : dirty (clean B en) en i = false := by
  unfold dirty
  rw [List.any_eq_false]
  intro k hk
  rw [List.mem_range] at hk
  simp only [Bool.and_eq_true, decide_eq_true_eq, not_and, Decidable.not_not]
  intro he
  rw [gd0, clean_get (by omega), if_neg (by omega)]
  rfl

/-- Wiping: all goes well; each sector is clean. -/
theorem wipe_calm (ep : Nat) (B : List UInt8) (en : Nat) : ∀ k i wr (D : Dk), Calm D → Ok D → 6 ≤ D.safe.length → i + k ≤ half D → B.length = 32 * half D →
    (wipe ep B en i k wr D).1 = 0 ∧ Calm (wipe ep B en i k wr D).2.2 ∧ Ok (wipe ep B en i k wr D).2.2 ∧ (wipe ep B en i k wr D).2.2.safe = D.safe ∧ ((wipe ep B en i k wr D).2.1 = false → (wipe ep B en i k wr D).2.2 = D) ∧
    ∀ p, (∀ j, i ≤ j → j < i + k → p = WM.first D ep + j → nowAt (wipe ep B en i k wr D).2.2 p = if dirty B en j then secOf (clean B en) j else nowAt D p) ∧ ((∀ j, i ≤ j → j < i + k → p ≠ WM.first D ep + j) → nowAt (wipe ep B en i k wr D).2.2 p = nowAt D p)
  | 0, i, wr, D, hc, ok, _, _, _ => ⟨rfl, hc, ok, rfl, fun _ => rfl, fun p => ⟨fun j h1 h2 => by omega, fun _ => rfl⟩⟩
  | k + 1, i, wr, D, hc, ok, h6, hik, hb => by
    have hfl := first_lt (D := D) ep i h6 (by omega)
    have hcl : (clean B en).length = 32 * half D := by rw [clean_len]; exact hb
    have hsl := secOf_len hcl (i := i) (by omega)
    unfold wipe
    by_cases hd : dirty B en i = true
    · rw [if_pos hd]
      have hw := write_calm hc (WM.first D ep + i) hfl (secOf (clean B en) i) hsl
      have hok := ok.write ((WM.first D ep + i : Nat) : Int) (secOf (clean B en) i)
      simp only
      rw [hw] at hok ⊢
      simp only [if_true]
      obtain ⟨E, hE⟩ : ∃ E : Dk, E = { D with waits := D.waits ++ [(WM.first D ep + i, secOf (clean B en) i)] } := ⟨_, rfl⟩
      rw [← hE] at hok ⊢
      have hEs : E.safe = D.safe := by rw [hE]
      have hn := fun p => nowAt_snoc (D := D) (E := E) hEs (by rw [hE]) hfl p
      have hF := first_eq hEs ep
      have hH : half E = half D := half_eq (by rw [hEs])
      obtain ⟨a1, a2, a3, a4, a5, a6⟩ := wipe_calm ep B en k (i + 1) true E (by rw [hE]; exact hc) hok (by rw [hEs]; exact h6) (by rw [hH]; omega) (by rw [hH]; exact hb)
      rw [hF] at a6
      refine ⟨a1, a2, a3, a4.trans hEs, fun h => ?_, fun p => ?_⟩
      · exfalso
        have : ∀ k i (D : Dk), (wipe ep B en i k true D).2.1 = true := by
          intro k
          induction k with
          | zero => intro i D; rfl
          | succ k ih =>
            intro i D
            unfold wipe
            split
            · simp only
              split
              · exact ih _ _
              · rfl
            · exact ih _ _
        rw [this] at h
        cases h
      · obtain ⟨q1, q2⟩ := a6 p
        refine ⟨fun j j1 j2 j3 => ?_, fun hne => ?_⟩
        · by_cases hj : j = i
          · subst hj
            rw [q2 (fun j' b1 b2 b3 => by omega), hn, if_pos j3, if_pos hd]
          · have he : nowAt E p = nowAt D p := by rw [hn, if_neg (by omega)]
            rw [q1 j (by omega) (by omega) j3, he]
        · rw [q2 (fun j b1 b2 => hne j (by omega) (by omega)), hn, if_neg (hne i (Nat.le_refl _) (by omega))]
    · rw [if_neg hd]
      obtain ⟨a1, a2, a3, a4, a5, a6⟩ := wipe_calm ep B en k (i + 1) wr D hc ok h6 (by omega) hb
      refine ⟨a1, a2, a3, a4, a5, fun p => ?_⟩
      obtain ⟨q1, q2⟩ := a6 p
      refine ⟨fun j j1 j2 j3 => ?_, fun hne => q2 (fun j b1 b2 => hne j (by omega) (by omega))⟩
      by_cases hj : j = i
      · subst hj
        rw [q2 (fun j' b1 b2 b3 => by omega), if_neg hd]
      · exact q1 j (by omega) (by omega) j3

/-- An area's bytes, sector by sector. -/
theorem bytes_flat {D : Dk} (hd : D.down = false) (h6 : 6 ≤ D.safe.length) (ep : Nat) : WM.bytes D ep = ((List.range (half D)).map fun i => nowAt D (WM.first D ep + i)).flatten := by
  unfold WM.bytes
  congr 1
  apply List.map_congr_left
  intro i hi
  rw [List.mem_range] at hi
  rw [read_nowAt hd _ (first_lt ep i h6 hi)]
theorem flat_secs (f : Nat → Sec) (hf : ∀ i, (f i).length = 32) : ∀ h, ((List.range h).map f).flatten.length = 32 * h ∧ ∀ i k, i < h → k < 32 → ((List.range h).map f).flatten[32 * i + k]? = (f i)[k]?
  | 0 => ⟨rfl, fun i k h => by omega⟩
  | h + 1 => by
    obtain ⟨h1, h2⟩ := flat_secs f hf h
    rw [List.range_succ, List.map_append, List.flatten_append]
    simp only [List.map_cons, List.map_nil, List.flatten_cons, List.flatten_nil, List.append_nil]
    refine ⟨by rw [List.length_append, h1, hf]; omega, fun i k hi hk => ?_⟩
    by_cases hih : i < h
    · rw [List.getElem?_append_left (by omega)]
      exact h2 i k hih hk
    · have : i = h := by omega
      subst this
      rw [List.getElem?_append_right (by omega), h1]
      congr 1
      omega
theorem bytes_get {D : Dk} (hd : D.down = false) (h6 : 6 ≤ D.safe.length) (ok : Ok D) (ep : Nat) : (WM.bytes D ep).length = 32 * half D ∧ ∀ i, i < half D → secOf (WM.bytes D ep) i = nowAt D (WM.first D ep + i) := by
  have hg : ∀ h, h ≤ half D → ((List.range h).map fun i => nowAt D (WM.first D ep + i)) = (List.range h).map fun i => if i < half D then nowAt D (WM.first D ep + i) else List.replicate 32 0 := fun h hh => by
    apply List.map_congr_left
    intro i hi
    rw [List.mem_range] at hi
    rw [if_pos (by omega)]
  have hl : ∀ i, (if i < half D then nowAt D (WM.first D ep + i) else List.replicate 32 0 : List UInt8).length = 32 := fun i => by
    split
    · exact nowAt_len ok _ (first_lt ep i h6 (by assumption))
    · simp
  obtain ⟨h1, h2⟩ := flat_secs _ hl (half D)
  rw [bytes_flat hd h6, hg _ (Nat.le_refl _)]
  refine ⟨h1, fun i hi => ?_⟩
  apply List.ext_getElem?
  intro k
  by_cases hk : k < 32
  · rw [secOf_getD _ _ _ hk, h2 i k hi hk, if_pos hi]
  · rw [List.getElem?_eq_none (by rw [secOf_len h1 hi]; omega), List.getElem?_eq_none (by rw [nowAt_len ok _ (first_lt ep i h6 hi)]; omega)]

/-- A head depends on its sector alone. -/
theorem head_eq {D E : Dk} (hD : D.down = false) (hE : E.down = false) {i : Nat} (h1 : i < D.safe.length) (h2 : i < E.safe.length) (h : nowAt E i = nowAt D i) : WM.head E i = WM.head D i := by
  unfold WM.head
  rw [read_nowAt hD i h1, read_nowAt hE i h2, h]
theorem epoch_eq {D E : Dk} (hD : D.down = false) (hE : E.down = false) (h1 : 2 ≤ D.safe.length) (h2 : E.safe.length = D.safe.length) (h : ∀ i, i < 2 → nowAt E i = nowAt D i) : epoch E = epoch D := by
  unfold epoch
  rw [head_eq hD hE (by omega) (by omega) (h 0 (by omega)), head_eq hD hE (by omega) (by omega) (h 1 (by omega))]
theorem first_ge (D : Dk) (ep : Nat) : 2 ≤ WM.first D ep := by unfold WM.first; omega

/-- What opening leaves. -/
structure Opened (D D' : Dk) (ep : Nat) (l : List (List UInt8)) : Prop where
  eq : openW D = (0, some ⟨ep, l, l.length, false⟩, D')
  calm : Calm D'
  ok : Ok D'
  size : D'.safe.length = D.safe.length
  area : ∀ i, i < half D → nowAt D' (WM.first D ep + i) = secOf (areaH (half D) l) i
  rest : ∀ p, (∀ i, i < half D → p ≠ WM.first D ep + i) → nowAt D' p = nowAt D p
  none : D.waits = [] → D'.waits = []
  small : ∀ r ∈ l, r.length ≤ 1024
  fit : (flat l).length ≤ 32 * half D

theorem open_calm {D : Dk} (hc : Calm D) (ok : Ok D) (h6 : 6 ≤ D.safe.length) :
    ∃ D', Opened D D' (epoch D) (scan (WM.bytes D (epoch D)) ((WM.bytes D (epoch D)).length + 1) 0).1 := by
  obtain ⟨ep, hep⟩ : ∃ ep, ep = epoch D := ⟨_, rfl⟩
  obtain ⟨hbl, hbs⟩ := bytes_get hc.2 h6 ok ep
  obtain ⟨B, hB⟩ : ∃ B, B = WM.bytes D ep := ⟨_, rfl⟩
  rw [← hB] at hbl hbs
  obtain ⟨s1, s2, s3, s4⟩ := scan_spec B (B.length + 1) 0 (Nat.zero_le _)
  have hca := clean_area hbl
  obtain ⟨r, hr⟩ : ∃ r, r = scan B (B.length + 1) 0 := ⟨_, rfl⟩
  rw [← hr] at s1 s2 s3 s4 hca
  obtain ⟨a1, a2, a3, a4, a5, a6⟩ := wipe_calm ep B r.2 (half D) 0 false D hc ok h6 (by omega) hbl
  obtain ⟨W, hW⟩ : ∃ W, W = wipe ep B r.2 0 (half D) false D := ⟨_, rfl⟩
  rw [← hW] at a1 a2 a3 a4 a5 a6
  have har : ∀ i, i < half D → nowAt W.2.2 (WM.first D ep + i) = secOf (areaH (half D) r.1) i := fun i hi => by
    rw [(a6 _).1 i (Nat.zero_le _) (by omega) rfl, ← hca]
    split
    · rfl
    · rename_i hd
      rw [← hbs i hi, clean_same hbl hi (by simpa using hd)]
  have hre : ∀ p, (∀ i, i < half D → p ≠ WM.first D ep + i) → nowAt W.2.2 p = nowAt D p := fun p hp => (a6 p).2 fun j _ h2 => hp j (by omega)
  have hop : openW D = if W.2.1 then (0, some ⟨ep, r.1, r.1.length, false⟩, (DM.sync W.2.2).2) else (0, some ⟨ep, r.1, r.1.length, false⟩, W.2.2) := by
    unfold openW
    rw [if_neg (by omega), if_neg (by simp [hc.2]), ← hep, ← hB]
    simp only
    rw [← hr, ← hW, a1, if_neg (by simp)]
    split
    · rw [show (DM.sync W.2.2).1 = 0 by rw [sync_calm a2], if_neg (by simp)]
    · rfl
  rw [← hep, ← hB, ← hr]
  have hfit : (flat r.1).length ≤ 32 * half D := by omega
  by_cases hw : W.2.1 = true
  · rw [if_pos hw] at hop
    have hsy := sync_calm a2
    have hok := a3.sync
    rw [hsy] at hop hok
    have hn := fun p => nowAt_flat (D := W.2.2) (E := { W.2.2 with safe := now W.2.2, waits := [] }) rfl rfl p
    refine ⟨_, hop, a2, hok, by show (now W.2.2).length = _; rw [now_length, a4], fun i hi => by rw [hn, har i hi], fun p hp => by rw [hn, hre p hp], fun _ => rfl, s4, hfit⟩
  · rw [if_neg hw] at hop
    refine ⟨_, hop, a2, a3, by rw [a4], har, hre, fun h => by rw [a5 (by simpa using hw)]; exact h, s4, hfit⟩

/-- A disk whose area is known is opened as it is. -/
theorem open_known {D : Dk} (hc : Calm D) (ok : Ok D) (h6 : 6 ≤ D.safe.length) {ep : Nat} (hep : epoch D = ep) {l : List (List UInt8)} (hl : ∀ r ∈ l, r.length ≤ 1024) (hf : (flat l).length ≤ 32 * half D)
    (ha : ∀ i, i < half D → nowAt D (WM.first D ep + i) = secOf (areaH (half D) l) i) : openW D = (0, some ⟨ep, l, l.length, false⟩, D) := by
  obtain ⟨hbl, hbs⟩ := bytes_get hc.2 h6 ok ep
  have hal := areaH_length hf
  have hB : WM.bytes D ep = areaH (half D) l := by
    apply List.ext_getElem?
    intro q
    by_cases hq : q < 32 * half D
    · have h1 := secOf_getD (WM.bytes D ep) (q / 32) (q % 32) (by omega)
      have h2 := secOf_getD (areaH (half D) l) (q / 32) (q % 32) (by omega)
      rw [hbs _ (by omega), ha _ (by omega), h2, show 32 * (q / 32) + q % 32 = q by omega] at h1
      exact h1.symm
    · rw [List.getElem?_eq_none (by omega), List.getElem?_eq_none (by omega)]
  have hln : l.length < (areaH (half D) l).length + 1 := by have := flat_ge l; omega
  have hs : scan (areaH (half D) l) ((areaH (half D) l).length + 1) 0 = (l, (flat l).length) := by
    unfold areaH at hln ⊢
    exact scan_area l _ _ hl hln
  have hd : ∀ j, j < half D → dirty (areaH (half D) l) (flat l).length j = false := fun j hj => by
    have h1 : areaH (half D) l = clean (areaH (half D) l) (flat l).length := by
      unfold clean
      rw [hal]
      show flat l ++ _ = (flat l ++ _).take (flat l).length ++ _
      rw [List.take_left]
    rw [h1]
    exact clean_clean hal hj
  have hw : wipe ep (areaH (half D) l) (flat l).length 0 (half D) false D = (0, false, D) := by
    have := wipe_skip ep (areaH (half D) l) (flat l).length (half D) 0 0 false D (fun j _ h => hd j (by omega))
    rw [Nat.add_zero] at this
    rw [this]
    rfl
  unfold openW
  rw [if_neg (by omega), if_neg (by simp [hc.2]), hep, hB]
  simp only
  rw [hs]
  simp only
  rw [hw]
  simp

/-- Opening once more changes nothing. -/
theorem Opened.again {D D' : Dk} {l : List (List UInt8)} (hc : Calm D) (h6 : 6 ≤ D.safe.length) (h : Opened D D' (epoch D) l) : openW D' = (0, some ⟨epoch D, l, l.length, false⟩, D') := by
  have hh : half D' = half D := half_eq h.size
  have hF : WM.first D' (epoch D) = WM.first D (epoch D) := by unfold WM.first; rw [hh]
  refine open_known h.calm h.ok (by rw [h.size]; exact h6) (epoch_eq hc.2 h.calm.2 (by omega) h.size fun i hi => h.rest i fun j _ e => ?_) h.small (by rw [hh]; exact h.fit) (fun i hi => ?_)
  · have := first_ge D (epoch D); omega
  · rw [hF, hh]
    exact h.area i (by omega)
theorem crash_calm (D : Dk) (keep : List Int) : Calm (DM.crash D keep) := ⟨rfl, rfl⟩
theorem crash_same {D : Dk} (hc : Calm D) (hw : D.waits = []) (keep : List Int) : DM.crash D keep = D := by
  obtain ⟨s, w, lf, dn⟩ := D
  obtain ⟨h1, h2⟩ := hc
  simp only at h1 h2 hw
  subst h1 h2 hw
  cases keep <;> rfl
end Go.Proofs.Yteemekckiafnfaa.WM
/- Several logs over one disk, one behind the other; what was read of them. Conditions: as the laws name them. -/
namespace Go.Proofs.Yteemekckiafnfaa
open Go.RowKit
open DM BM WM

theorem openW_len (D : Dk) : (openW D).2.2.safe.length = D.safe.length := by
  unfold openW
  split
  · rfl
  · split
    · rfl
    · simp only
      have h1 := wipe_len (epoch D) (WM.bytes D (epoch D)) (scan (WM.bytes D (epoch D)) ((WM.bytes D (epoch D)).length + 1) 0).2 (half D) 0 false D
      split
      · exact h1
      · split
        · split
          · exact (sync_len _).trans h1
          · exact (sync_len _).trans h1
        · exact h1
theorem append_len (D : Dk) (G : Lg) (b : List UInt8) : (WM.append D G b).2.1.safe.length = D.safe.length := by
  unfold WM.append
  split
  · rfl
  · split
    · rfl
    · split
      · rfl
      · exact lay_len _ _ _ _ _
theorem syncW_len (D : Dk) (G : Lg) : (WM.syncW D G).2.1.safe.length = D.safe.length := by
  unfold WM.syncW
  split
  · rfl
  · simp only
    split <;> exact sync_len _
theorem reset_len (D : Dk) (G : Lg) (L : List (List UInt8)) : (WM.reset D G L).2.1.safe.length = D.safe.length := by
  unfold WM.reset
  split
  · rfl
  · split
    · rfl
    · split
      · rfl
      · simp only
        split <;> exact turnW_len _ _ _
theorem step_len (D : Dk) (g : Option Lg) (x : Act4) : (step D g x).1.safe.length = D.safe.length := by
  unfold step
  split
  · show (openW _).2.2.safe.length = _
    rw [openW_len]
    show (tear _ _ _).length = _
    rw [tear_length]
  · split
    · rfl
    · split
      · rfl
      · split
        · exact append_len _ _ _
        · split
          · exact syncW_len _ _
          · split
            · exact reset_len _ _ _
            · rfl

/-- A log whose disk goes on without it. -/
def Idle (w : World) (b d : Nat) (F : Nat → Prop) (h : Nat) (G : Lg) : Prop := ∃ ga ca vl vs, WalIs w b d F h G ga ca vl vs
theorem LogAt.idle {w : World} {b d : Nat} {F Fd : Nat → Prop} {D : Dk} {G : Lg} (h : LogAt w b d F Fd D G) : Idle w b d F (half D) G ∧ (∀ k, F k → ¬ Fd k) ∧ ∀ k, F k → k < w.heap.size := by
  obtain ⟨ga, ca, vl, vs, hI⟩ := h
  exact ⟨⟨ga, ca, vl, vs, hI.wal⟩, hI.apart, hI.wal.lt⟩
theorem Idle.keep {w w' : World} {b d h : Nat} {F K : Nat → Prop} {G : Lg} (H : Idle w b d F h G) (hk : Keep K w w') (hn : ∀ k, F k → ¬ K k) : Idle w' b d F h G := by
  obtain ⟨ga, ca, vl, vs, hI⟩ := H
  exact ⟨ga, ca, vl, vs, hI.keep hk hn⟩
theorem Idle.back {w : World} {b d : Nat} {F Fd : Nat → Prop} {D : Dk} {G : Lg} (H : Idle w b d F (half D) G) (hD : DiskAt w d Fd D) (ha : ∀ k, F k → ¬ Fd k) : LogAt w b d F Fd D G := by
  obtain ⟨ga, ca, vl, vs, hI⟩ := H
  exact ⟨ga, ca, vl, vs, hI, hD, ha⟩

/-- What was read. -/
def Pile (w : World) (B : Nat → Prop) (v : Value) (L : List (List UInt8)) : Prop := (∃ vs, Recs w B (fun _ => False) v L vs) ∧ ∀ k, B k → k < w.heap.size
theorem Made.pile {w0 w : World} {v : Value} {L : List (List UInt8)} (h : Made w0 v L w) : Pile w (fun k => w0.heap.size ≤ k ∧ k < w.heap.size) v L := by
  obtain ⟨vs, hr⟩ := h
  refine ⟨⟨vs, hr.row, fun k e => ⟨⟨(hr.own k e).1, hr.row.lt e⟩, (hr.own k e).2⟩, fun j hj => ?_⟩, fun k x => x.2⟩
  obtain ⟨u, h1, h2, h3⟩ := hr.each j hj
  exact ⟨u, h1, h2, fun k e => ⟨⟨(h3 k e).1, h2.lt e⟩, (h3 k e).2⟩⟩
theorem Pile.keep {w w' : World} {B K : Nat → Prop} {v : Value} {L : List (List UInt8)} (h : Pile w B v L) (hk : Keep K w w') (hn : ∀ k, B k → ¬ K k) : Pile w' B v L := by
  obtain ⟨⟨vs, hr⟩, hl⟩ := h
  exact ⟨⟨vs, hr.keep hk fun k x _ => hn k x⟩, fun k x => Nat.lt_of_lt_of_le (hl k x) hk.size⟩
theorem Pile.form {w : World} {B : Nat → Prop} {v : Value} {L : List (List UInt8)} (h : Pile w B v L) : ∃ ao cl, v = .slice ao L.length cl ∧ Lists w ao L := by
  obtain ⟨⟨vs, hr⟩, _⟩ := h
  obtain ⟨ao, cl, rfl, -⟩ := hr.row.form
  exact ⟨ao, cl, rfl, hr.lists⟩

/-- What lies apart from a disk's blocks lies apart from what they become. -/
theorem apart_to {w : World} {F Pd Pd' : Nat → Prop} (h1 : ∀ k, F k → ¬ Pd k) (h2 : ∀ k, F k → k < w.heap.size) (h3 : ∀ k, Pd' k → Pd k ∨ w.heap.size ≤ k) : ∀ k, F k → ¬ Pd' k := fun k x y => by
  rcases h3 k y with z | z
  · exact h1 k x z
  · have := h2 k x; omega

theorem Duo.opens {W w w' : World} {p d m : Nat} {Pd Qd : Nat → Prop} {D E D' : Dk} {wv rv : Value} {e : Ending} {g : Lg} {z : Int} (h : Duo W w p d m Pd Qd D E wv rv) (hp : OpenTo d Pd w (z, some g, D') e w') :
    ∃ b F Pd', e = .returned (.tuple #[.pointer (some ⟨b, 0, none⟩), .int .i64 z]) ∧ Duo W w' p d m Pd' Qd D' E wv rv ∧ LogAt w' b d F Pd' D' g ∧ (∀ k, F k → w.heap.size ≤ k) ∧ Keep Pd w w' ∧ ∀ k, Pd' k → Pd k ∨ w.heap.size ≤ k := by
  obtain ⟨b, F, Pd', he, h1, h2, h3, h4⟩ := hp
  have s := h.keep.size
  have lp := heap_lt h.head
  refine ⟨b, F, Pd', he, ⟨h2.get h.head h.selfn.1, h1.diskAt, h.ref.keep h2 (fun k x y => h.apart k y x), fun k x y => ?_, ⟨fun x => ?_, h.selfn.2⟩, fun k x => ?_, h.keep.next h2 (fun _ _ x => x) (fun k hk x => by have := h.new k (.inl x); omega)⟩, h1, h3, h2, h4⟩
  · rcases h4 k x with z | z
    · exact h.apart k z y
    · have := h.ref.lt k y; omega
  · rcases h4 p x with z | z
    · exact h.selfn.1 z
    · omega
  · rcases x with x | x
    · rcases h4 k x with z | z
      · exact h.new k (.inl z)
      · omega
    · exact h.new k (.inr x)
/-- A crash, told with what has changed. -/
theorem Duo.crashD {W w w' : World} {p d m : Nat} {Pd Qd : Nat → Prop} {D E D' : Dk} {wv rv : Value} (h : Duo W w p d m Pd Qd D E wv rv) (ht : DiskTo d Pd w D' w') :
    ∃ Pd', Duo W w' p d m Pd' Qd D' E wv rv ∧ Keep Pd w w' ∧ ∀ k, Pd' k → Pd k ∨ w.heap.size ≤ k := by
  obtain ⟨Pd', a1, a2, a3⟩ := ht
  have s := h.keep.size
  have lp := heap_lt h.head
  refine ⟨Pd', ⟨a2.get h.head h.selfn.1, a1, h.ref.keep a2 (fun k x y => h.apart k y x), fun k x y => ?_, ⟨fun x => ?_, h.selfn.2⟩, fun k x => ?_, h.keep.next a2 (fun _ _ x => x) (fun k hk x => by have := h.new k (.inl x); omega)⟩, a2, a3⟩
  · rcases a3 k x with z | z
    · exact h.apart k z y
    · have := h.ref.lt k y; omega
  · rcases a3 p x with z | z
    · exact h.selfn.1 z
    · omega
  · rcases x with x | x
    · rcases a3 k x with z | z
      · exact h.new k (.inl z)
      · omega
    · exact h.new k (.inr x)
end Go.Proofs.Yteemekckiafnfaa
/- WalAgain: the walk. Conditions: none but that the argument is a slice of acts. -/
namespace Go.Proofs.Yteemekckiafnfaa
open Go.ChangeShapes Go.WideShapes Go.RowKit Go.Deep
open DM BM WM

structure AgRel (W : World) (p : Nat) (k : Nat) (wr : World) : Prop where
  ex : ∃ D g, PairNew W wr p D g ∧ D.waits.length ≤ 2048 * k ∧ D.safe.length = 12

set_option maxRecDepth 20000 in
set_option maxHeartbeats 4000000 in
theorem again_walk (w : World) (v : Value) (l : List Act4) (hl : Acts4 w v l) :
    Calls Try.prog 8 #[v] w fun e w' => e = .returned (.bool true) ∧ Keep (fun _ => False) w w' := by
  obtain ⟨ao, c, rfl, hlc, hcm⟩ := hl.form
  have HL := hid hl
  clear hl hcm
  obtain ⟨m, hm⟩ : ∃ m, m = l.length := ⟨_, rfl⟩
  rw [← hm] at HL hlc ⊢
  have Hm := hid hm
  clear hm
  have hst := pstart_any w 12 (by decide) (by decide)
  rw [new_open 12 (by decide)] at hst
  go_enter Try.func8, Try.ntmps8
  go_wp2_with (at_builtin; refine stopAt ?_; intro q hq)
  refine hst.mono ?_
  rintro e w1 ⟨p, rfl, hP1⟩
  have HR1 := hid (AgRel.mk (k := 0) ⟨_, _, hP1, by simp [DM.new], by simp [DM.new]⟩)
  clear hP1 hst
  go_wp2_with (at_builtin; refine stopAt ?_; intro q hq)
  go_loopw [5] (fun i wr => ∃ k : Nat, k ≤ m ∧ k ≤ 40 ∧ i = .int .i64 k ∧ Hid (AgRel w p k wr)) (fun i _ => 40 - (intOf i).toNat)
  case atStart => exact ⟨0, Nat.zero_le _, Nat.zero_le _, rfl, HR1⟩
  case round =>
    clear HR1
    obtain ⟨k, hk, hk40, rfl, HR⟩ := hrel
    by_cases hgo : k < m ∧ k < 40
    · have h2 : (k : Int) < m := by omega
      have h1 : (k : Int) < 40 := by omega
      have hkl : k < l.length := by rw [← Hm.out]; exact hgo.1
      obtain ⟨D, g, hP, hw, hsz⟩ := HR.out.ex
      obtain ⟨ad, lv, kv, rfl, hrow, hlv, hkv, b0, b1⟩ := Acts4.row HL.out hP.keep k hkl
      have a1 := hrow 1 _ rfl
      have a3 := hrow 3 _ rfl
      rw [add_pos _ _ (by decide)] at a1 a3
      have Hrow := hid hrow
      have hgo1 := hgo.1
      have hgo2 := hgo.2
      clear hgo hrow
      obtain ⟨aol, cl, rfl, -, -, hLL⟩ := hlv.lists
      have hhe := heavy_any wr aol cl _ (hLL.keep hP.keep)
      obtain ⟨ll, hll⟩ : ∃ ll, ll = (l[k]).list.length := ⟨_, rfl⟩
      obtain ⟨nn, hnn⟩ : ∃ nn, nn = (l[k]).n := ⟨_, rfl⟩
      have HQ := hid (And.intro hP (And.intro hw (And.intro hlv (And.intro hkv (And.intro b0 (And.intro b1 hsz))))))
      have HE := hid (And.intro hll hnn)
      clear hP hw hlv hkv b0 b1 hLL hsz
      by_cases hv4 : 4000 < hv (l[k]).list 0
      · rw [show decide (4000 < hv (l[k]).list 0) = true from decide_eq_true hv4] at hhe
        rw [← hll] at hhe a3
        clear hv4 hll hnn
        go_wp2_with (at_builtin; refine stopAt ?_; intro q hq)
        refine hhe.mono ?_
        rintro e w3 ⟨rfl, rfl⟩
        go_wp2_with (at_builtin; refine stopAt ?_; intro q hq)
        refine (known_any _).mono ?_
        rintro e w4 ⟨rfl, hk4⟩
        have HZ := hid (Same.trans HQ.out.1.keep hk4)
        clear hk4
        go_wp2_with (at_builtin; refine stopAt ?_; intro q hq)
        go_ret
        exact ⟨by rfl, HZ.out⟩
      · rw [show decide (4000 < hv (l[k]).list 0) = false from decide_eq_false hv4] at hhe
        have hlen := (light_len hv4).1
        rw [← hll] at hhe a3 hlen
        rw [← hnn] at a1
        clear hv4 hll hnn
        by_cases hN : 1030 < nn
        · go_wp2_with (at_builtin; refine stopAt ?_; intro q hq)
          refine hhe.mono ?_
          rintro e w3 ⟨rfl, rfl⟩
          go_wp2_with (at_builtin; refine stopAt ?_; intro q hq)
          refine (known_any _).mono ?_
          rintro e w4 ⟨rfl, hk4⟩
          have HZ := hid (Same.trans HQ.out.1.keep hk4)
          clear hk4
          go_wp2_with (at_builtin; refine stopAt ?_; intro q hq)
          go_ret
          exact ⟨by rfl, HZ.out⟩
        · go_wp2_with (at_builtin; refine stopAt ?_; intro q hq)
          refine hhe.mono ?_
          rintro e w3 ⟨rfl, rfl⟩
          go_wp2_with (first | (at_builtin; refine stopAt ?_; intro q hq) | (refine stopOp (.load 50 _) rfl ?_; intro q hq))
          (refine hq.out ?_; clear hq q)
          refine wpList_plain rfl (fun K hK => ?_)
          refine wp_load_any 50 (.tmp 53) rfl (ad.add (k * 5)) rfl _ Hrow.out _ Try.underlying50 rfl (by kernel_rfl) ?_
          refine hK _ _ ?_
          clear hK K
          obtain ⟨hP, hw, hlv, hkv, b0, b1, hsz⟩ := HQ.out
          have hpl := play_any w _ p D g l[k] _ _ hP hlv hkv b1 (by have := HE.out.1; omega) (by omega)
          have hsw := step_waits hP.few g l[k]
          have HW := hid (And.intro hw (And.intro hsw hsz))
          clear hP hw hlv hkv b0 b1 hsw hsz
          go_wp2_with (at_builtin; refine stopAt ?_; intro q hq)
          refine hpl.mono ?_
          rintro e w4 ⟨rfl, hP4⟩
          have HZ := hid (AgRel.mk (k := k + 1) ⟨_, _, hP4, by have := HW.out; omega, by rw [step_len]; exact HW.out.2.2⟩)
          clear hP4 hpl
          go_wp2_with (at_builtin; refine stopAt ?_; intro q hq)
          go_roundw
          case rel => exact ⟨k + 1, by omega, by omega, by go_num, HZ⟩
          case measure => simp [intOf]; omega
    · obtain ⟨D, g, hP, hw, hsz⟩ := HR.out.ex
      obtain ⟨d, mm, Pd, Qd, wv, rv, hD⟩ := hP.duo
      obtain ⟨h0, h1, h2, h3, hf, hb1⟩ := cells4 hD.head
      have hok1 := hD.disk.ok.crash []
      have hs1 : (DM.crash D []).safe.length = 12 := by show (tear _ _ _).length = _; rw [tear_length]; exact hsz
      obtain ⟨D2, hO⟩ := open_calm (crash_calm D []) hok1 (by omega)
      obtain ⟨L, hLL⟩ : ∃ L, L = (scan (WM.bytes (DM.crash D []) (epoch (DM.crash D []))) ((WM.bytes (DM.crash D []) (epoch (DM.crash D []))).length + 1) 0).1 := ⟨_, rfl⟩
      rw [← hLL] at hO
      have hAg := hO.again (crash_calm D []) (by omega)
      have hw2 := hO.none rfl
      have hcs := crash_same hO.calm hw2 []
      obtain ⟨G, hG⟩ : ∃ G : Lg, G = ⟨epoch (DM.crash D []), L, L.length, false⟩ := ⟨_, rfl⟩
      have hop := hO.eq
      rw [← hG] at hAg hop
      have hgn : gone D2 G = false := by unfold gone; rw [hG, hO.calm.2]; rfl
      have hGl : G.l = L := by rw [hG]
      have hGs : G.safe = L.length := by rw [hG]
      have hL9 : L.length ≤ 1000000 := by
        have h1 := flat_ge L
        have h2 := hO.fit
        have h3 : half (DM.crash D []) = 5 := by unfold half; omega
        omega
      have hw9 : D.waits.length ≤ 200000 := by omega
      have k0 : ∀ w : World, Cells w none 0 1 (intsV []) := fun w => ⟨rfl, fun h => by omega⟩
      have hcr := crash_any wr d Pd D none 0 0 [] hD.disk (k0 _) (fun h => by omega) (by decide) (by simp) (by omega)
      have HD := hid hD
      have HM := hid (And.intro hAg (And.intro hop (And.intro hcs (And.intro hw2 (And.intro hGl hGs)))))
      clear hP hD hok1 hs1 hO hLL hAg hw2 hcs hG hop hGl hGs hw hsz
      have cut : (¬ (k : Int) < m) ∨ ((k : Int) < m ∧ ¬ (k : Int) < 40) := by omega
      clear hgo
      rcases cut with c1 | ⟨c0, c1⟩
      all_goals
        go_wp2_with (at_builtin; refine stopAt ?_; intro q hq)
        refine hcr.mono ?_
        rintro e w3 ⟨rfl, ht⟩
        obtain ⟨Pd3, D3, -, -⟩ := HD.out.crashD ht
        clear hcr ht h0 h1 h2 h3 hf
        obtain ⟨h0, h1, h2, h3, hf, hb3⟩ := cells4 D3.head
        have hoA := open_any w3 d Pd3 _ D3.disk (by simp [DM.crash])
        rw [HM.out.2.1] at hoA
        have H3 := hid D3
        clear D3
        go_wp2_with (at_builtin; refine stopAt ?_; intro q hq)
        refine hoA.mono ?_
        intro e w4 hp
        obtain ⟨b, F, Pd4, rfl, D4, hlog, -, -, -⟩ := H3.out.opens hp
        clear hp hoA h0 h1 h2 h3 hf
        obtain ⟨h0, h1, h2, h3, hf, hb4⟩ := cells4 D4.head
        have hre := records_up w4 b d F Pd4 D2 G hlog hgn
        rw [HM.out.2.2.2.2.1] at hre
        have H4 := hid (And.intro D4 hlog)
        clear D4 hlog
        go_wp2_with (at_builtin; refine stopAt ?_; intro q hq)
        refine hre.mono ?_
        rintro e w5 ⟨va, rfl, hmA, hk5⟩
        have hpA := hmA.pile
        obtain ⟨aoA, cA, rfl, -⟩ := hmA.form
        have hroA := room_up w5 b d F Pd4 D2 G (H4.out.2.keep hk5 (fun _ _ x => x) (fun _ _ x => x)) hgn
        have H5 := hid (And.intro (H4.out.1.later hk5) (And.intro hpA (show ∀ k, (w4.heap.size ≤ k ∧ k < w5.heap.size) → ¬ Pd4 k from fun k x y => by have := H4.out.1.disk.lt k y; omega)))
        clear hmA hk5 hpA hre h0 h1 h2 h3 hf
        obtain ⟨n, hn⟩ : ∃ n, n = L.length := ⟨_, rfl⟩
        rw [← hn]
        have Hn := hid hn
        clear hn
        go_wp2_with (at_builtin; refine stopAt ?_; intro q hq)
        refine hroA.mono ?_
        rintro e w6 ⟨rfl, rfl⟩
        obtain ⟨w6, hw6⟩ : ∃ w6, w6 = w5.drew := ⟨_, rfl⟩
        have hk6 : Same w5 w6 := by rw [hw6]; exact (Keep.refl _ _).drew
        rw [← hw6]
        obtain ⟨D5, hpA, hnA⟩ := H5.out
        have D6 := D5.later hk6
        obtain ⟨h0, h1, h2, h3, hf, hb6⟩ := cells4 D6.head
        have hoB := open_any w6 d Pd4 D2 D6.disk (by have := HM.out.2.2.2.1; rw [this]; simp)
        rw [HM.out.1] at hoB
        have H6 := hid (And.intro D6 (And.intro (hpA.keep hk6 fun _ _ x => x) hk6))
        clear D5 hpA hnA D6 hk6 hw6 hroA
        go_wp2_with (at_builtin; refine stopAt ?_; intro q hq)
        refine hoB.mono ?_
        intro e w7 hp
        obtain ⟨D6, hpA, hk6⟩ := H6.out
        obtain ⟨b2, F2, Pd7, rfl, D7, hlog7, -, hk7, hs7⟩ := D6.opens hp
        have hnA := H5.out.2.2
        have hpA7 := hpA.keep hk7 hnA
        have hnA7 := apart_to hnA hpA.2 hs7
        obtain ⟨hid7, hap7, hlt7⟩ := hlog7.idle
        have hwt := waiting_any w7 d Pd7 D2 D7.disk
        rw [HM.out.2.2.2.1] at hwt
        clear h0 h1 h2 h3 hf
        obtain ⟨h0, h1, h2, h3, hf, hb7⟩ := cells4 D7.head
        have hcr := crash_any w7 d Pd7 D2 none 0 0 [] D7.disk (k0 _) (fun h => by omega) (by decide) (by simp) (by have := HM.out.2.2.2.1; rw [this]; simp)
        rw [HM.out.2.2.1] at hcr
        have H7 := hid (And.intro D7 (And.intro hpA7 (And.intro hnA7 (And.intro hid7 (And.intro hap7 hlt7)))))
        clear D6 hpA hk6 hp hoB D7 hlog7 hk7 hs7 hnA hpA7 hnA7 hid7 hap7 hlt7
        go_wp2_with (at_builtin; refine stopAt ?_; intro q hq)
        refine hwt.mono ?_
        rintro e w7 ⟨rfl, rfl⟩
        go_wp2_with (at_builtin; refine stopAt ?_; intro q hq)
        refine hcr.mono ?_
        rintro e w8 ⟨rfl, ht⟩
        obtain ⟨D7, hpA7, hnA7, hid7, hap7, hlt7⟩ := H7.out
        obtain ⟨Pd8, D8, hk8, hs8⟩ := D7.crashD ht
        have hpA8 := hpA7.keep hk8 hnA7
        have hnA8 := apart_to hnA7 hpA7.2 hs8
        have hid8 := hid7.keep hk8 hap7
        have hap8 := apart_to hap7 hlt7 hs8
        have hlt8 : ∀ k, F2 k → k < w8.heap.size := fun k x => Nat.lt_of_lt_of_le (hlt7 k x) hk8.size
        clear h0 h1 h2 h3 hf
        obtain ⟨h0, h1, h2, h3, hf, hb8⟩ := cells4 D8.head
        have hoC := open_any w8 d Pd8 D2 D8.disk (by have := HM.out.2.2.2.1; rw [this]; simp)
        rw [HM.out.1] at hoC
        have H8 := hid (And.intro D8 (And.intro hpA8 (And.intro hnA8 (And.intro hid8 (And.intro hap8 hlt8)))))
        clear D7 hpA7 hnA7 hid7 hap7 hlt7 hwt hcr ht D8 hk8 hs8 hpA8 hnA8 hid8 hap8 hlt8
        go_wp2_with (at_builtin; refine stopAt ?_; intro q hq)
        refine hoC.mono ?_
        intro e w9 hp
        obtain ⟨D8, hpA8, hnA8, hid8, hap8, hlt8⟩ := H8.out
        obtain ⟨b3, F3, Pd9, rfl, D9, hlog9, -, hk9, hs9⟩ := D8.opens hp
        have hpA9 := hpA8.keep hk9 hnA8
        have hlogB : LogAt w9 b2 d F2 Pd9 D2 G := (hid8.keep hk9 hap8).back D9.disk (apart_to hap8 hlt8 hs9)
        have hreB := records_up w9 b2 d F2 Pd9 D2 G hlogB hgn
        rw [HM.out.2.2.2.2.1] at hreB
        have H9 := hid (And.intro D9.keep (And.intro hlogB (And.intro hlog9 hpA9)))
        clear h0 h1 h2 h3 hf D8 hpA8 hnA8 hid8 hap8 hlt8 hoC hp D9 hlog9 hk9 hs9 hpA9 hlogB
        go_wp2_with (at_builtin; refine stopAt ?_; intro q hq)
        refine hreB.mono ?_
        rintro e wa ⟨vb, rfl, hmB, hka⟩
        obtain ⟨aoB, cB, rfl, hLB⟩ := hmB.form
        obtain ⟨hkW, hlogB, hlog9, hpA9⟩ := H9.out
        obtain ⟨aoA', cA', he, hLA⟩ := (hpA9.keep hka fun _ _ x => x).form
        cases he
        have hsm := samelists_any wa aoB aoA cB cA L L hLB hLA (by omega)
        rw [show decide (L = L) = true from decide_eq_true rfl, ← Hn.out] at hsm
        rw [← Hn.out]
        have Ha := hid hka
        clear hreB hmB hka hLB hkW hlogB hlog9 hpA9 hLA
        go_wp2_with (at_builtin; refine stopAt ?_; intro q hq)
        refine hsm.mono ?_
        rintro e wb ⟨rfl, hkb⟩
        obtain ⟨hkW, hlogB, hlog9, hpA9⟩ := H9.out
        have hkb2 := Same.trans Ha.out hkb
        have hroB := room_up wb b2 d F2 Pd9 D2 G (hlogB.keep hkb2 (fun _ _ x => x) (fun _ _ x => x)) hgn
        have Hb := hid hkb2
        clear hkW hlogB hlog9 hpA9 hkb hkb2 hsm
        go_wp2_with (at_builtin; refine stopAt ?_; intro q hq)
        refine hroB.mono ?_
        rintro e wc ⟨rfl, rfl⟩
        obtain ⟨hkW, hlogB, hlog9, hpA9⟩ := H9.out
        have hkc : Same w9 wb.drew := Same.trans Hb.out (Keep.refl _ _).drew
        have hreC := records_up wb.drew b3 d F3 Pd9 D2 G (hlog9.keep hkc (fun _ _ x => x) (fun _ _ x => x)) hgn
        rw [HM.out.2.2.2.2.1] at hreC
        have Hc := hid hkc
        clear hkW hlogB hlog9 hpA9 hkc hroB
        go_wp2_with (at_builtin; refine stopAt ?_; intro q hq)
        refine hreC.mono ?_
        rintro e wd ⟨vc, rfl, hmC, hkd⟩
        obtain ⟨aoC, cC, rfl, hLC⟩ := hmC.form
        obtain ⟨hkW, hlogB, hlog9, hpA9⟩ := H9.out
        have hkd2 := Same.trans Hc.out hkd
        obtain ⟨aoA', cA', he, hLA⟩ := (hpA9.keep hkd2 fun _ _ x => x).form
        cases he
        have hsm := samelists_any wd aoC aoA cC cA L L hLC hLA (by omega)
        rw [show decide (L = L) = true from decide_eq_true rfl, ← Hn.out] at hsm
        rw [← Hn.out]
        have Hd := hid hkd2
        clear hreC hmC hkd hLC hkW hlogB hlog9 hpA9 hLA hkd2
        go_wp2_with (at_builtin; refine stopAt ?_; intro q hq)
        refine hsm.mono ?_
        rintro e we ⟨rfl, hke⟩
        obtain ⟨hkW, hlogB, hlog9, hpA9⟩ := H9.out
        have hke2 := Same.trans Hd.out hke
        have hsaC := safe_up we b3 d F3 Pd9 D2 G (hlog9.keep hke2 (fun _ _ x => x) (fun _ _ x => x)) hgn
        rw [HM.out.2.2.2.2.2, ← Hn.out] at hsaC
        have He := hid (Same.trans hkW hke2)
        clear hkW hlogB hlog9 hpA9 hke hke2 hsm
        go_wp2_with (at_builtin; refine stopAt ?_; intro q hq)
        refine hsaC.mono ?_
        rintro e wf ⟨rfl, rfl⟩
        go_wp2_with (at_builtin; refine stopAt ?_; intro q hq)
        refine (known_any _).mono ?_
        rintro e wg ⟨rfl, hkg⟩
        have HZ := hid (Same.trans He.out hkg)
        clear hkg
        go_wp2_with (at_builtin; refine stopAt ?_; intro q hq)
        go_ret
        exact ⟨by rfl, HZ.out⟩
end Go.Proofs.Yteemekckiafnfaa
/- A new log takes the old one's place, and the power goes: what is opened behind it. Conditions: as the laws name them. -/
namespace Go.Proofs.Yteemekckiafnfaa.WM
open DM BM Go.Proofs.Yteemekckiafnfaa

theorem arm_now (D : Dk) (n : Int) (p : Nat) : nowAt (DM.arm D n) p = nowAt D p := nowAt_same rfl rfl p

/-- What a turn that went well leaves; else the power is gone. -/
theorem turn_all {D : Dk} (h6 : 6 ≤ D.safe.length) (ep : Nat) (b : List UInt8) (hb : b.length = 32 * half D) (hh : (headSec ep).length = 32) :
    ((turnW ep b D).1 ≠ 0 → (turnW ep b D).1 = 6) ∧ ((turnW ep b D).1 = 0 → (turnW ep b D).2.waits = [] ∧ (∀ i, i < half D → nowAt (turnW ep b D).2 (WM.first D ep + i) = secOf b i) ∧ nowAt (turnW ep b D).2 (ep % 2) = headSec ep ∧
      ∀ p, p ≠ ep % 2 → (∀ i, i < half D → p ≠ WM.first D ep + i) → nowAt (turnW ep b D).2 p = nowAt D p) := by
  obtain ⟨a1, -, a3, a4⟩ := lay_waits_all ep b (half D) 0 D h6 (by omega) hb
  unfold turnW
  generalize lay ep b 0 (half D) D = r at *
  simp only
  by_cases h0 : r.1 = 0
  · rw [if_neg (by simpa using h0)]
    by_cases h1 : (DM.sync r.2).1 = 0
    · rw [if_neg (by simpa using h1)]
      obtain ⟨s1, s2⟩ := sync_ok h1
      have hn1 := fun p => nowAt_flat s1 s2 p
      have hsl : (DM.sync r.2).2.safe.length = D.safe.length := by rw [sync_len, a1]
      generalize (DM.sync r.2).2 = y at *
      have hep : ep % 2 < y.safe.length := by omega
      by_cases h2 : (DM.write y ((ep % 2 : Nat) : Int) (headSec ep)).1 = 0
      · rw [if_neg (by simpa using h2)]
        obtain ⟨-, -, w1, w2⟩ := write_ok h2
        have hn2 := fun p => nowAt_snoc w1 w2 hep p
        generalize (DM.write y ((ep % 2 : Nat) : Int) (headSec ep)).2 = z at *
        refine ⟨fun h => (sync_no h).1, fun h => ?_⟩
        obtain ⟨t1, t2⟩ := sync_ok h
        have hn3 := fun p => nowAt_flat t1 t2 p
        have hall : ∀ p, nowAt (DM.sync z).2 p = if p = ep % 2 then headSec ep else nowAt r.2 p := fun p => by rw [hn3, hn2, hn1]
        have hfg := first_ge D ep
        refine ⟨t2, fun i hi => ?_, by rw [hall, if_pos rfl], fun p p1 p2 => ?_⟩
        · rw [hall, if_neg (by omega)]
          exact ((a4 h0 _).1 i (Nat.zero_le _) (by omega) rfl)
        · rw [hall, if_neg p1]
          exact (a4 h0 p).2 fun j _ hj => p2 j (by omega)
      · rw [if_pos (by simpa using h2)]
        exact ⟨fun _ => (write_no hep hh h2).1, fun h => absurd h h2⟩
    · rw [if_pos (by simpa using h1)]
      exact ⟨fun _ => (sync_no h1).1, fun h => absurd h h1⟩
  · rw [if_pos (by simpa using h0)]
    exact ⟨a3, fun h => absurd h h0⟩
theorem turn_calm {D : Dk} (hc : Calm D) (h6 : 6 ≤ D.safe.length) (ep : Nat) (b : List UInt8) (hb : b.length = 32 * half D) (hh : (headSec ep).length = 32) : (turnW ep b D).1 = 0 ∧ Calm (turnW ep b D).2 := by
  obtain ⟨l1, l2, l3⟩ := lay_calm ep b h6 hb (half D) 0 D hc rfl (by show 0 + half D ≤ half D; omega)
  unfold turnW
  simp only
  rw [if_neg (by simpa using l1), sync_calm l2]
  simp only
  rw [if_neg (by simp)]
  have hsl : (now (lay ep b 0 (half D) D).2).length = D.safe.length := by rw [now_length, l3]
  have hc2 : Calm { (lay ep b 0 (half D) D).2 with safe := now (lay ep b 0 (half D) D).2, waits := [] } := l2
  rw [write_calm hc2 (ep % 2) (by show ep % 2 < (now _).length; omega) (headSec ep) hh]
  simp only
  rw [if_neg (by simp)]
  rw [sync_calm (D := { (lay ep b 0 (half D) D).2 with safe := now (lay ep b 0 (half D) D).2, waits := [] ++ [(ep % 2, headSec ep)] }) l2]
  exact ⟨rfl, l2⟩

theorem headSec_1 : (headSec 1).length = 32 := by kernel_rfl
theorem headSec_2 : (headSec 2).length = 32 := by kernel_rfl
theorem head_at {D : Dk} (hd : D.down = false) {i : Nat} (hi : i < D.safe.length) (s : Sec) (h : nowAt D i = s) : WM.head D i = (match BM.get s 0 with
    | .no _ => none
    | .yes k body _ => if k ≠ 1 then none else match uint body 0 with | .no _ => none | .yes n t => if t = body.length ∧ n < 4611686018427387904 ∧ n % 2 = i then some n else none) := by
  unfold WM.head
  rw [read_nowAt hd i hi, h]
  rfl
theorem head_blank {D : Dk} (hd : D.down = false) {i : Nat} (hi : i < D.safe.length) (h : nowAt D i = DM.blank) : WM.head D i = none := by
  rw [head_at hd hi _ h, show BM.get DM.blank 0 = BM.Got.no 20 by kernel_rfl]
theorem head_one {D : Dk} (hd : D.down = false) (hi : 1 < D.safe.length) (h : nowAt D 1 = headSec 1) : WM.head D 1 = some 1 := by
  rw [head_at hd hi _ h]
  kernel_rfl
theorem head_two {D : Dk} (hd : D.down = false) (hi : 0 < D.safe.length) (h : nowAt D 0 = headSec 2) : WM.head D 0 = some 2 := by
  rw [head_at hd hi _ h]
  kernel_rfl

/-- Whether a reset is done at all. -/
theorem reset_cases (D : Dk) (G : Lg) (L : List (List UInt8)) (hg : gone D G = false) (hep : G.ep + 1 ≠ 4611686018427387904) :
    ((WM.reset D G L).1 ≠ 0 ∧ (WM.reset D G L).1 ≠ 6 ∧ (WM.reset D G L).2.1 = D ∧ L ≠ []) ∨
    ((∀ r ∈ L, r.length ≤ 1024) ∧ (flat L).length ≤ 32 * half D ∧ (WM.reset D G L).1 = (turnW (G.ep + 1) (area D L) D).1 ∧ (WM.reset D G L).2.1 = (turnW (G.ep + 1) (area D L) D).2 ∧
      ((WM.reset D G L).1 = 0 → (WM.reset D G L).2.2 = ⟨G.ep + 1, L, L.length, false⟩)) := by
  unfold WM.reset
  rw [hg, if_neg (by simp)]
  by_cases h1 : (L.any fun b => decide (1024 < b.length)) = true
  · rw [if_pos h1]
    refine .inl ⟨by simp, by simp, rfl, fun e => ?_⟩
    subst e
    simp at h1
  · rw [if_neg h1]
    by_cases h2 : 32 * half D < (flat L).length ∨ G.ep + 1 = 4611686018427387904
    · rw [if_pos h2]
      refine .inl ⟨by simp, by simp, rfl, fun e => ?_⟩
      subst e
      simp only [flat, List.map_nil, List.flatten_nil, List.length_nil] at h2
      exact h2.elim (fun h => by omega) hep
    · rw [if_neg h2]
      have hsm : ∀ r ∈ L, r.length ≤ 1024 := fun r hr => by
        have h1' : (L.any fun b => decide (1024 < b.length)) = false := by simpa only [Bool.not_eq_true] using h1
        have := List.any_eq_false.1 h1' r hr
        simpa using this
      refine .inr ⟨hsm, by omega, ?_⟩
      simp only
      split
      · rename_i h3
        exact ⟨h3.symm, rfl, fun _ => rfl⟩
      · exact ⟨rfl, rfl, fun h => absurd h (by assumption)⟩

/-- The old log, as it lies there. -/
structure Old (D : Dk) (old : List (List UInt8)) : Prop where
  calm : Calm D
  waits : D.waits = []
  size : D.safe.length = 30
  zero : nowAt D 0 = DM.blank
  one : nowAt D 1 = headSec 1
  area : ∀ i, i < 14 → nowAt D (16 + i) = secOf (areaH 14 old) i
  small : ∀ r ∈ old, r.length ≤ 1024
  fit : (flat old).length ≤ 32 * 14

theorem half30 {D : Dk} (h : D.safe.length = 30) : half D = 14 := by unfold half; rw [h]
theorem first30 {D : Dk} (h : D.safe.length = 30) : WM.first D 0 = 2 ∧ WM.first D 1 = 16 ∧ WM.first D 2 = 2 := by unfold WM.first; rw [half30 h]; exact ⟨rfl, rfl, rfl⟩
theorem new_nowAt (n p : Nat) (h : p < n) : nowAt (DM.new n) p = DM.blank := by
  have h1 := new_read n p h
  rw [read_nowAt rfl p (by simp [DM.new]; exact h)] at h1
  simpa using h1

theorem first_reset (old : List (List UInt8)) : ((WM.reset (DM.new 30) ⟨0, [], 0, false⟩ old).1 ≠ 0 ∧ old ≠ []) ∨
    ((WM.reset (DM.new 30) ⟨0, [], 0, false⟩ old).1 = 0 ∧ (WM.reset (DM.new 30) ⟨0, [], 0, false⟩ old).2.2 = ⟨1, old, old.length, false⟩ ∧ Old (WM.reset (DM.new 30) ⟨0, [], 0, false⟩ old).2.1 old) := by
  have hsz : (DM.new 30).safe.length = 30 := by simp [DM.new]
  have hH := half30 hsz
  have hF := (first30 hsz).2.1
  rcases reset_cases (DM.new 30) ⟨0, [], 0, false⟩ old rfl (by decide) with ⟨h1, -, -, h4⟩ | ⟨h1, h2, h3, h4, h5⟩
  · exact .inl ⟨h1, h4⟩
  · have hal : (WM.area (DM.new 30) old).length = 32 * half (DM.new 30) := areaH_length h2
    obtain ⟨c1, c2⟩ := turn_calm (D := DM.new 30) ⟨rfl, rfl⟩ (by omega) 1 (WM.area (DM.new 30) old) hal headSec_1
    obtain ⟨t1, t2, t3, t4⟩ := (turn_all (D := DM.new 30) (by omega) 1 (WM.area (DM.new 30) old) hal headSec_1).2 c1
    have h3' : (WM.reset (DM.new 30) ⟨0, [], 0, false⟩ old).1 = 0 := h3.trans c1
    rw [hH, hF] at t2 t4
    refine .inr ⟨h3', h5 h3', ?_⟩
    rw [h4]
    refine ⟨c2, t1, by rw [turnW_len, hsz], ?_, t3, fun i hi => ?_, h1, by omega⟩
    · rw [t4 0 (by decide) (fun i _ => by omega)]
      exact new_nowAt 30 0 (by decide)
    · have := t2 i hi
      rw [this]
      unfold WM.area
      rw [hH]
      rfl

theorem Old.epoch {D : Dk} {old : List (List UInt8)} (h : Old D old) : WM.epoch D = 1 := by
  have hs := h.size
  unfold WM.epoch
  rw [head_blank h.calm.2 (by omega) h.zero, head_one h.calm.2 (by omega) h.one]
  rfl
theorem Old.opens {D : Dk} {old : List (List UInt8)} (h : Old D old) (ok : Ok D) : openW D = (0, some ⟨1, old, old.length, false⟩, D) := by
  have hs := h.size
  refine open_known h.calm ok (by omega) h.epoch h.small (by rw [half30 hs]; exact h.fit) (fun i hi => ?_)
  rw [half30 hs] at hi ⊢
  rw [(first30 hs).2.1]
  exact h.area i hi
theorem Old.crash {D : Dk} {old : List (List UInt8)} (h : Old D old) (n : Int) (keep : List Int) : DM.crash (DM.arm D n) keep = D := by
  obtain ⟨s, w, lf, dn⟩ := D
  obtain ⟨h1, h2⟩ := h.calm
  have hw := h.waits
  simp only at h1 h2 hw
  subst h1 h2 hw
  cases keep <;> rfl

/-- Behind the second reset, and a crash. -/
theorem second_reset {D : Dk} {old fresh : List (List UInt8)} (h : Old D old) (ok : Ok D) (n : Int) (hn : n < 9223372036854775808) (keep : List Int) :
    ∃ G' D', openW (DM.crash (WM.reset (DM.arm D n) ⟨1, old, old.length, false⟩ fresh).2.1 keep) = (0, some G', D') ∧ G'.dead = false ∧ Calm D' ∧
      ((WM.reset (DM.arm D n) ⟨1, old, old.length, false⟩ fresh).1 = 0 → G'.l = fresh) ∧ ((WM.reset (DM.arm D n) ⟨1, old, old.length, false⟩ fresh).1 ≠ 0 → (WM.reset (DM.arm D n) ⟨1, old, old.length, false⟩ fresh).1 ≠ 6 → G'.l = old) := by
  have hs : (DM.arm D n).safe.length = 30 := h.size
  have hH := half30 hs
  have hF := (first30 hs).2.2
  have oka := ok.arm n hn
  rcases reset_cases (DM.arm D n) ⟨1, old, old.length, false⟩ fresh (by show (false || D.down) = false; rw [h.calm.2]; rfl) (by show (1 : Nat) + 1 ≠ _; decide) with ⟨h1, h2, h3, -⟩ | ⟨h1, h2, h3, h4, h5⟩
  · rw [h3, h.crash, h.opens ok]
    exact ⟨_, _, rfl, rfl, h.calm, fun e => absurd e h1, fun _ _ => rfl⟩
  · have hal : (WM.area (DM.arm D n) fresh).length = 32 * half (DM.arm D n) := areaH_length h2
    obtain ⟨t1, t2⟩ := turn_all (D := DM.arm D n) (by omega) 2 (WM.area (DM.arm D n) fresh) hal headSec_2
    obtain ⟨R, hR⟩ : ∃ R, R = WM.reset (DM.arm D n) ⟨1, old, old.length, false⟩ fresh := ⟨_, rfl⟩
    rw [← hR] at h3 h4 h5 ⊢
    by_cases hz : R.1 = 0
    · obtain ⟨q1, q2, q3, q4⟩ := t2 (h3.symm.trans hz)
      rw [← show R.2.1 = (turnW 2 (WM.area (DM.arm D n) fresh) (DM.arm D n)).2 from h4] at q1 q2 q3 q4
      rw [hH, hF] at q2 q4
      have hRs : R.2.1.safe.length = 30 := by rw [hR, reset_len]; exact hs
      have hok : Ok R.2.1 := by
        rw [h4]
        have hl : ∀ k i (E : Dk), Ok E → Ok (lay 2 (WM.area (DM.arm D n) fresh) i k E).2 := by
          intro k
          induction k with
          | zero => intro i E hE; exact hE
          | succ k ih =>
            intro i E hE
            unfold lay
            simp only
            split
            · exact ih _ _ (hE.write _ _)
            · exact hE.write _ _
        show Ok (turnW 2 (WM.area (DM.arm D n) fresh) (DM.arm D n)).2
        unfold turnW
        simp only
        split
        · exact hl _ _ _ oka
        · split
          · exact (hl _ _ _ oka).sync
          · split
            · exact ((hl _ _ _ oka).sync).write _ _
            · exact (((hl _ _ _ oka).sync).write _ _).sync
      obtain ⟨E, hE⟩ : ∃ E, E = DM.crash R.2.1 keep := ⟨_, rfl⟩
      have hEs : E.safe = R.2.1.safe := by
        rw [hE]
        show tear R.2.1.safe R.2.1.waits keep = _
        rw [q1]
        cases keep <;> rfl
      have hEn : ∀ p, nowAt E p = nowAt R.2.1 p := fun p => nowAt_same hEs (by rw [hE, q1]; rfl) p
      have hEc : Calm E := by rw [hE]; exact crash_calm _ _
      have hEl : E.safe.length = 30 := by rw [hEs]; exact hRs
      have hEo : Ok E := by rw [hE]; exact hok.crash keep
      have e0 : nowAt E 0 = headSec 2 := by rw [hEn]; exact q3
      have e1 : nowAt E 1 = headSec 1 := by rw [hEn, q4 1 (by decide) (fun i _ => by omega), arm_now]; exact h.one
      have hep : WM.epoch E = 2 := by
        unfold WM.epoch
        rw [head_two hEc.2 (by omega) e0, head_one hEc.2 (by omega) e1]
        rfl
      have hop := open_known hEc hEo (by omega) hep h1 (by rw [half30 hEl]; omega) (fun i hi => by
        rw [half30 hEl] at hi ⊢
        rw [(first30 hEl).2.2, hEn, q2 i hi]
        unfold WM.area
        rw [hH]
        rfl)
      rw [← hE, hop]
      exact ⟨_, _, rfl, rfl, hEc, fun _ => rfl, fun h _ => absurd hz h⟩
    · have h6 := t1 (fun e => hz (h3.trans e))
      have hRok : Ok (DM.crash R.2.1 keep) := by
        have hl : ∀ k i (E : Dk), Ok E → Ok (lay 2 (WM.area (DM.arm D n) fresh) i k E).2 := by
          intro k
          induction k with
          | zero => intro i E hE; exact hE
          | succ k ih =>
            intro i E hE
            unfold lay
            simp only
            split
            · exact ih _ _ (hE.write _ _)
            · exact hE.write _ _
        have hok : Ok R.2.1 := by
          rw [h4]
          show Ok (turnW 2 (WM.area (DM.arm D n) fresh) (DM.arm D n)).2
          unfold turnW
          simp only
          split
          · exact hl _ _ _ oka
          · split
            · exact (hl _ _ _ oka).sync
            · split
              · exact ((hl _ _ _ oka).sync).write _ _
              · exact (((hl _ _ _ oka).sync).write _ _).sync
        exact hok.crash keep
      have hcs : (DM.crash R.2.1 keep).safe.length = 30 := by
        show (tear _ _ _).length = _
        rw [tear_length, hR, reset_len]
        exact hs
      obtain ⟨D', hO⟩ := open_calm (crash_calm R.2.1 keep) hRok (by omega)
      exact ⟨_, _, hO.eq, rfl, hO.calm, fun e => absurd e hz, fun _ h7 => absurd (h3.trans h6) h7⟩
end Go.Proofs.Yteemekckiafnfaa.WM
/- WalTurns: the walk. Conditions: none but that the arguments are texts, an int and ints. -/
namespace Go.Proofs.Yteemekckiafnfaa
open Go.ChangeShapes Go.WideShapes Go.RowKit Go.Deep
open DM BM WM

theorem Both.few {W w : World} {p d m b c : Nat} {Pw Pd Qw Qd : Nat → Prop} {D E : Dk} {G J : Lg} (h : Both W w p d m b c Pw Pd Qw Qd D G E J) : Ok D := h.one.diskOk

set_option maxRecDepth 20000 in
set_option maxHeartbeats 4000000 in
theorem turns_walk (w : World) (v0 : Value) (old : List (List UInt8)) (hl0 : Texts w v0 old) (v1 : Value) (fresh : List (List UInt8)) (hl1 : Texts w v1 fresh) (a : Int) (ha : -9223372036854775808 ≤ a) (hb : a ≤ 9223372036854775807)
    (v3 : Value) (keep : List Int) (hl3 : Ints w v3 keep) :
    Calls Try.prog 7 #[v0, v1, .int .i64 a, v3] w fun e w' => e = .returned (.bool true) ∧ Keep (fun _ => False) w w' := by
  obtain ⟨ao0, c0, rfl, -, -, hL0⟩ := hl0.lists
  obtain ⟨ao1, c1, rfl, -, -, hL1⟩ := hl1.lists
  obtain ⟨ao3, c3, rfl, hc3, hm3, hcl3, hwf3⟩ := hl3.cells
  have hh0 := heavy_any w ao0 c0 old hL0
  have hh1 := heavy_any w ao1 c1 fresh hL1
  obtain ⟨n0, hn0⟩ : ∃ n0, n0 = old.length := ⟨_, rfl⟩
  obtain ⟨n1, hn1⟩ : ∃ n1, n1 = fresh.length := ⟨_, rfl⟩
  obtain ⟨n3, hn3⟩ : ∃ n3, n3 = keep.length := ⟨_, rfl⟩
  rw [← hn0] at hh0 ⊢
  rw [← hn1] at hh1 ⊢
  rw [← hn3] at hcl3 hc3 ⊢
  have HL := hid (And.intro hL0 (And.intro hL1 (And.intro hcl3 (And.intro hwf3 (And.intro hm3 (And.intro hn0 (And.intro hn1 hc3)))))))
  clear hl0 hl1 hl3 hL0 hL1 hcl3 hwf3 hm3 hn0 hn1 hn3 hc3
  by_cases hbad : 4000 < hv old 0 ∨ 4000 < hv fresh 0 ∨ a < 0
  · have bad' : 4000 < hv old 0 ∨ (¬ 4000 < hv old 0 ∧ 4000 < hv fresh 0) ∨ (¬ 4000 < hv old 0 ∧ ¬ 4000 < hv fresh 0 ∧ a < 0) := by omega
    clear hbad
    rcases bad' with q | ⟨q, q'⟩ | ⟨q, q', q''⟩
    · rw [show decide (4000 < hv old 0) = true from decide_eq_true q] at hh0
      clear q
      go_enter Try.func7, Try.ntmps7
      go_wp2_with (at_builtin; refine stopAt ?_; intro q hq)
      refine hh0.mono ?_
      rintro e w3 ⟨rfl, rfl⟩
      go_wp2_with (at_builtin; refine stopAt ?_; intro q hq)
      refine (known_any _).mono ?_
      rintro e w4 ⟨rfl, hk4⟩
      go_wp2_with (at_builtin; refine stopAt ?_; intro q hq)
      go_ret
      exact ⟨by rfl, hk4⟩
    all_goals
      rw [show decide (4000 < hv old 0) = false from decide_eq_false q] at hh0
      first | rw [show decide (4000 < hv fresh 0) = true from decide_eq_true q'] at hh1 | rw [show decide (4000 < hv fresh 0) = false from decide_eq_false q'] at hh1
      clear q q'
      go_enter Try.func7, Try.ntmps7
      go_wp2_with (at_builtin; refine stopAt ?_; intro q hq)
      refine hh0.mono ?_
      rintro e w3 ⟨rfl, rfl⟩
      go_wp2_with (at_builtin; refine stopAt ?_; intro q hq)
      refine hh1.mono ?_
      rintro e w3 ⟨rfl, rfl⟩
      go_wp2_with (at_builtin; refine stopAt ?_; intro q hq)
      refine (known_any _).mono ?_
      rintro e w4 ⟨rfl, hk4⟩
      go_wp2_with (at_builtin; refine stopAt ?_; intro q hq)
      go_ret
      exact ⟨by rfl, hk4⟩
  have q0 : ¬ 4000 < hv old 0 := by omega
  have q1 : ¬ 4000 < hv fresh 0 := by omega
  have qa : ¬ a < 0 := by omega
  rw [show decide (4000 < hv old 0) = false from decide_eq_false q0] at hh0
  rw [show decide (4000 < hv fresh 0) = false from decide_eq_false q1] at hh1
  have hlen0 := (light_len q0).1
  have hlen1 := (light_len q1).1
  clear hbad q0 q1
  obtain ⟨a, rfl⟩ : ∃ a' : Nat, (a' : Int) = a := ⟨a.toNat, by omega⟩
  obtain ⟨n, hn⟩ : ∃ n, n = a % 30 := ⟨_, rfl⟩
  have hmod : (a : Int) % 30 = (n : Int) := by omega
  have hn30 : n < 30 := by omega
  have hst := pstart_any w 30 (by decide) (by decide)
  rw [new_open 30 (by decide)] at hst
  clear hn
  go_enter Try.func7, Try.ntmps7
  go_wp2_with (at_builtin; refine stopAt ?_; intro q hq)
  refine hh0.mono ?_
  rintro e w3 ⟨rfl, rfl⟩
  go_wp2_with (at_builtin; refine stopAt ?_; intro q hq)
  refine hh1.mono ?_
  rintro e w3 ⟨rfl, rfl⟩
  clear hh0 hh1
  go_wp2_with (at_builtin; refine stopAt ?_; intro q hq)
  refine hst.mono ?_
  rintro e w1 ⟨p, rfl, hP1⟩
  obtain ⟨d, mm, b, c, Pw, Pd, Qw, Qd, hB⟩ := hP1.both
  obtain ⟨h0, h1, h2, h3, hf, hb1⟩ := cells4 hB.head
  obtain ⟨R1, hR1⟩ : ∃ R1, R1 = WM.reset (DM.new 30) ⟨0, [], 0, false⟩ old := ⟨_, rfl⟩
  have hws := wreset_any w1 b d Pw Pd (DM.new 30) ⟨0, [], 0, false⟩ hB.one ao0 c0 old (HL.out.1.keep hB.keep) (by omega) (by simp [DM.new])
  have hfr := first_reset old
  rw [← hR1] at hws hfr
  rw [← HL.out.2.2.2.2.2.1] at hws
  have HB := hid (And.intro hB hR1)
  clear hP1 hst hB hR1
  go_wp2_with (at_builtin; refine stopAt ?_; intro q hq)
  refine hws.mono ?_
  rintro e w2 ⟨rfl, ht⟩
  obtain ⟨hB, hR1⟩ := HB.out
  obtain ⟨Pw2, Pd2, hB2, -⟩ := hB.toW ht
  have hLf : ∀ w', Keep (fun k => Qw k ∨ Qd k) w2 w' → Lists w' ao0 old := fun w' hk => HL.out.1.keep (hB2.keep.next hk (fun _ _ x => x) (fun k hk' x => by have := hB2.new k (.inr (.inl x)); omega))
  rcases hfr with ⟨hz, hne⟩ | ⟨hz, hg1, hOld⟩
  · have hpos : 0 < n0 := by rw [HL.out.2.2.2.2.2.1]; exact List.length_pos_iff.2 hne
    have q2 : decide (R1.1 = 0) = false := decide_eq_false hz
    have q3 : (R1.1 == 0) = false := by simpa using hz
    have q4 : (R1.1 != 0) = true := by simpa using hz
    have q5 : (0 : Int) < (n0 : Int) := by omega
    have HK := hid hB2.keep
    clear hB hR1 hB2 hLf ht hz hne hpos hws
    go_wp2_with (at_builtin; refine stopAt ?_; intro q hq)
    refine (known_any _).mono ?_
    rintro e w4 ⟨rfl, hk4⟩
    have HZ := hid (Same.trans HK.out hk4)
    clear hk4
    go_wp2_with (at_builtin; refine stopAt ?_; intro q hq)
    go_ret
    exact ⟨by rfl, HZ.out⟩
  rw [hz]
  have hrs := rwreset_any w2 c mm Qw Qd (DM.new 30) ⟨0, [], 0, false⟩ hB2.two ao0 c0 old (HL.out.1.keep hB2.keep) hLf (by omega) (by simp [DM.new])
  rw [← hR1, ← HL.out.2.2.2.2.2.1] at hrs
  clear h0 h1 h2 h3 hf
  obtain ⟨h0, h1, h2, h3, hf, hb2⟩ := cells4 hB2.head
  have H2 := hid (And.intro hB2 (And.intro hg1 (And.intro hOld hz)))
  clear hB hR1 hB2 hLf ht hz hg1 hOld hws
  go_wp2_with (at_builtin; refine stopAt ?_; intro q hq)
  refine hrs.mono ?_
  rintro e w4 ⟨rfl, ht⟩
  obtain ⟨hB2, hg1, hOld, hz⟩ := H2.out
  obtain ⟨Qw4, Qd4, hB4, -⟩ := hB2.toR ht
  rw [hg1] at hB4
  obtain ⟨D1, hD1⟩ : ∃ D1, D1 = R1.2.1 := ⟨_, rfl⟩
  rw [← hD1] at hB4 hOld
  clear h0 h1 h2 h3 hf
  obtain ⟨h0, h1, h2, h3, hf, hb4⟩ := cells4 hB4.head
  have har := arm_any w4 d Pd2 D1 n (by omega) hB4.one.diskAt
  have H4 := hid (And.intro hB4 hOld)
  clear hB2 hg1 hOld hz ht hB4 hrs hD1
  go_wp2_with (at_builtin; refine stopAt ?_; intro q hq)
  refine har.mono ?_
  rintro e w5 ⟨rfl, Pd5, a1, a2, a3⟩
  obtain ⟨hB4, hOld⟩ := H4.out
  have hI4 : PairIs w4 p d mm Pw2 Pd2 Qw4 Qd4 D1 (.pointer (some ⟨b, 0, none⟩)) (.pointer (some ⟨c, 0, none⟩)) (some ⟨1, old, old.length, false⟩) :=
    ⟨hB4.head, hB4.one.diskAt, hB4.two.diskAt, ⟨b, c, rfl, rfl, hB4.one, hB4.two⟩, hB4.apart, hB4.selfn, fun k x => x.elim (fun y => hB4.lt k (.inl (.inl y))) (fun y => hB4.lt k (.inr (.inl y)))⟩
  clear h0 h1 h2 h3 hf
  obtain ⟨h0, h1, h2, h3, hf, hb5⟩ := cells4 (a2.get hI4.head (fun x => hI4.selfn.1 (.inr x)))
  have hra := ref_arm w5 mm Qd4 D1 n (by omega) (hI4.ref.keep a2 (fun k x y => hI4.apart k (.inr y) (.inr x)))
  have H5 := hid (And.intro hI4 (And.intro a1 (And.intro a2 a3)))
  clear hB4 hOld hI4 a1 a2 a3 har
  go_wp2_with (at_builtin; refine stopAt ?_; intro q hq)
  refine hra.mono ?_
  rintro e w6 ⟨rfl, Qd6, e1, e2, e3⟩
  obtain ⟨hI4, a1, a2, a3⟩ := H5.out
  obtain ⟨hB4, hOld⟩ := H4.out
  have hI6 := hI4.arm a1 a2 a3 (Keep.refl (fun _ => False) w5) e1 e2 e3 (Keep.refl (fun _ => False) w6)
  have hP6 : PairNew w3 w6 p (DM.arm D1 n) (some ⟨1, old, old.length, false⟩) := by
    have s0 := hB4.keep.size
    have s2 := a2.size
    have hk5 : Keep (fun k => Pd2 k ∨ Qd4 k) w4 w6 := (a2.mono fun _ _ x => .inl x).next e2 (fun _ _ x => x) (fun _ _ x => .inr x)
    refine ⟨d, mm, Pw2, Pd5, Qw4, Qd6, _, _, hI6, fun k x => ?_, hB4.keep.next hk5 (fun _ _ x => x) (fun k hk x => by have := hB4.new k (x.elim (fun y => .inl (.inr y)) (fun y => .inr (.inl (.inr y)))); omega)⟩
    rcases x with (x | x) | (x | x) | x
    · exact hB4.new k (.inl (.inl x))
    · rcases a3 k x with z | z
      · exact hB4.new k (.inl (.inr z))
      · omega
    · exact hB4.new k (.inr (.inl (.inl x)))
    · rcases e3 k x with z | z
      · exact hB4.new k (.inr (.inl (.inr z)))
      · omega
    · exact hB4.new k (.inr (.inr x))
  obtain ⟨d6, m6, b6, c6, Pw6, Pd6, Qw6, Qd6', hB6⟩ := hP6.both
  have hok1 := hB4.one.diskOk
  obtain ⟨G', D', hsr1, hsr2, hsr3, hsr4, hsr5⟩ := second_reset (fresh := fresh) hOld hok1 n (by omega) keep
  obtain ⟨R2, hR2⟩ : ∃ R2, R2 = WM.reset (DM.arm D1 n) ⟨1, old, old.length, false⟩ fresh := ⟨_, rfl⟩
  have hw1 : (DM.arm D1 n).waits.length = 0 := by show D1.waits.length = 0; rw [hOld.waits]; rfl
  have hws := wreset_any w6 b6 d6 Pw6 Pd6 (DM.arm D1 n) ⟨1, old, old.length, false⟩ hB6.one ao1 c1 fresh (HL.out.2.1.keep hB6.keep) (by omega) (by omega)
  have hw2 := reset_waits (D := DM.arm D1 n) (by show D1.safe.length ≤ 2048; rw [hOld.size]; decide) ⟨1, old, old.length, false⟩ fresh
  rw [← hR2] at hsr1 hsr4 hsr5 hws hw2
  rw [← HL.out.2.2.2.2.2.2.1] at hws
  clear h0 h1 h2 h3 hf
  obtain ⟨h0, h1, h2, h3, hf, hb6⟩ := cells4 hB6.head
  have H6 := hid (And.intro hB6 (And.intro hR2 (And.intro hw1 hw2)))
  have HS := hid (And.intro hsr1 (And.intro hsr2 (And.intro hsr3 (And.intro hsr4 hsr5))))
  clear hB4 hOld hI4 a1 a2 a3 hra e1 e2 e3 hI6 hP6 hok1 hsr1 hsr2 hsr3 hsr4 hsr5 hB6 hR2 hw1 hw2
  go_wp2_with (at_builtin; refine stopAt ?_; intro q hq)
  refine hws.mono ?_
  rintro e w7 ⟨rfl, ht⟩
  obtain ⟨hB6, hR2, hw1, hw2⟩ := H6.out
  obtain ⟨Pw7, Pd7, hB7, -⟩ := hB6.toW ht
  have hLf : ∀ w', Keep (fun k => Qw6 k ∨ Qd6' k) w7 w' → Lists w' ao1 fresh := fun w' hk => HL.out.2.1.keep (hB7.keep.next hk (fun _ _ x => x) (fun k hk' x => by have := hB7.new k (.inr (.inl x)); omega))
  have hrs := rwreset_any w7 c6 m6 Qw6 Qd6' (DM.arm D1 n) ⟨1, old, old.length, false⟩ hB7.two ao1 c1 fresh (HL.out.2.1.keep hB7.keep) hLf (by omega) (by omega)
  rw [← hR2, ← HL.out.2.2.2.2.2.2.1] at hrs
  clear h0 h1 h2 h3 hf
  obtain ⟨h0, h1, h2, h3, hf, hb7⟩ := cells4 hB7.head
  have H7 := hid hB7
  clear hB6 hR2 hw1 hw2 ht hB7 hLf hws
  go_wp2_with (at_builtin; refine stopAt ?_; intro q hq)
  refine hrs.mono ?_
  rintro e w8 ⟨rfl, ht⟩
  obtain ⟨Qw8, Qd8, hB8, -⟩ := H7.out.toR ht
  have hD8 := hB8.duo
  clear h0 h1 h2 h3 hf
  obtain ⟨h0, h1, h2, h3, hf, hb8⟩ := cells4 hD8.head
  have hKc : ∀ w', Same w3 w' → Cells w' ao3 n3 1 (intsV keep) := fun w' hk => HL.out.2.2.1.keep hk fun _ _ x => x
  have hcr := crash_any w8 d6 Pd7 R2.2.1 ao3 n3 c3 keep hD8.disk (hKc w8 hD8.keep) (fun hp x hx y => by
    subst hx
    have h1 := HL.out.2.2.1.lt (by omega)
    have h2 := hD8.new _ (.inl y)
    omega) (by have := HL.out.2.2.2.2.1; have := HL.out.2.2.2.2.2.2.2; unfold maxLen at *; omega) HL.out.2.2.2.1 (by have := H6.out.2.2; omega)
  have H8 := hid hD8
  clear ht hB8 hD8 hrs hKc
  go_wp2_with (at_builtin; refine stopAt ?_; intro q hq)
  refine hcr.mono ?_
  rintro e w9 ⟨rfl, ht⟩
  obtain ⟨Pd9, D9⟩ := H8.out.toD ht
  clear h0 h1 h2 h3 hf
  obtain ⟨h0, h1, h2, h3, hf, hb9⟩ := cells4 D9.head
  have hcr := ref_crash w9 m6 Qd8 R2.2.1 ao3 n3 c3 keep D9.ref (HL.out.2.2.1.keep D9.keep fun _ _ x => x) (fun hp x hx y => by
    subst hx
    have h1 := HL.out.2.2.1.lt (by omega)
    have h2 := D9.new _ (.inr (.inl y))
    omega) (by have := HL.out.2.2.2.2.1; have := HL.out.2.2.2.2.2.2.2; unfold maxLen at *; omega) HL.out.2.2.2.1 (by have := H6.out.2.2; omega)
  have H9 := hid D9
  clear ht D9
  go_wp2_with (at_builtin; refine stopAt ?_; intro q hq)
  refine hcr.mono ?_
  rintro e wa ⟨rfl, ht⟩
  obtain ⟨Qda, Da⟩ := H9.out.toR ht
  have hop := popen_any w3 wa p _ Da.old (by simp [DM.crash])
  rw [HS.out.1] at hop
  clear h0 h1 h2 h3 hf ht Da hcr
  go_wp2_with (at_builtin; refine stopAt ?_; intro q hq)
  refine hop.mono ?_
  rintro e wb ⟨rfl, hPb⟩
  obtain ⟨db, mb, bb, cb, Pwb, Pdb, Qwb, Qdb, hBb⟩ := hPb.both
  obtain ⟨h0, h1, h2, h3, hf, hbb⟩ := cells4 hBb.head
  have hgn : gone D' G' = false := by unfold gone; rw [HS.out.2.1, HS.out.2.2.1.2]; rfl
  have hre := records_up wb bb db Pwb Pdb D' G' hBb.one hgn
  have Hb := hid hBb
  clear hPb hBb hop
  go_wp2_with (at_builtin; refine stopAt ?_; intro q hq)
  refine hre.mono ?_
  rintro e wc ⟨vc, rfl, hmc, hkc⟩
  obtain ⟨aoc, cc, rfl, hLc⟩ := hmc.form
  have hBc := Hb.out.later hkc
  clear h0 h1 h2 h3 hf
  obtain ⟨h0, h1, h2, h3, hf, hbc⟩ := cells4 hBc.head
  obtain ⟨aor, nr, clr, hcr, hnr, hLr⟩ := hBc.two.cells
  obtain ⟨r0, r1, r2, r3, r4, -, -⟩ := cells5w hcr
  have hcnt := hBc.one.ok.count
  obtain ⟨ng, hng⟩ : ∃ ng, ng = G'.l.length := ⟨_, rfl⟩
  rw [← hng] at r2 ⊢
  have Hc := hid (And.intro hBc (And.intro hLc (And.intro hLr (And.intro hcnt hng))))
  clear hmc hkc hLc hBc hcr hLr hcnt hng hre
  have hs1 := fun w' (hk : Same wc w') => samelists_any w' aor ao0 clr c0 G'.l old (Hc.out.2.2.1.keep hk) (HL.out.1.keep (Same.trans Hc.out.1.keep hk)) (by have := Hc.out.2.2.2.1; omega)
  have hs2 := fun w' (hk : Same wc w') => samelists_any w' aor ao1 clr c1 G'.l fresh (Hc.out.2.2.1.keep hk) (HL.out.2.1.keep (Same.trans Hc.out.1.keep hk)) (by have := Hc.out.2.2.2.1; omega)
  have hs3 := fun w' (hk : Same wc w') => samelists_any w' aoc ao0 cc c0 G'.l old (Hc.out.2.1.keep hk) (HL.out.1.keep (Same.trans Hc.out.1.keep hk)) (by have := Hc.out.2.2.2.1; omega)
  have hs4 := fun w' (hk : Same wc w') => samelists_any w' aoc ao1 cc c1 G'.l fresh (Hc.out.2.1.keep hk) (HL.out.2.1.keep (Same.trans Hc.out.1.keep hk)) (by have := Hc.out.2.2.2.1; omega)
  rw [← Hc.out.2.2.2.2, ← HL.out.2.2.2.2.2.1] at hs1 hs3
  rw [← Hc.out.2.2.2.2, ← HL.out.2.2.2.2.2.2.1] at hs2 hs4
  have S1 := hid hs1
  have S2 := hid hs2
  have S3 := hid hs3
  have S4 := hid hs4
  clear hs1 hs2 hs3 hs4
  go_upto_region 19 with fail
  clear h0 h1 h2 h3 hf r0 r1 r2 r3 r4
  have S1' := S1.out wc (Keep.refl _ _)
  by_cases ho : G'.l = old
  · rw [show decide (G'.l = old) = true from decide_eq_true ho] at S1'
    go_wp2_with (at_builtin; refine stopAt ?_; intro q hq)
    refine S1'.mono ?_
    rintro e wd ⟨rfl, hkd⟩
    have Hd := hid hkd
    clear S1' hkd
    by_cases hz : R2.1 = 0
    · have q2 : decide (R2.1 = 0) = true := decide_eq_true hz
      have hfz : G'.l = fresh := HS.out.2.2.2.1 hz
      have S4' := S4.out wd Hd.out
      rw [show decide (G'.l = fresh) = true from decide_eq_true hfz] at S4'
      rw [hz]
      clear ho q2 hfz hz
      go_wp2_with (at_builtin; refine stopAt ?_; intro q hq)
      refine S4'.mono ?_
      rintro e we ⟨rfl, hke⟩
      have He := hid (Same.trans Hc.out.1.keep (Same.trans Hd.out hke))
      clear S4' hke
      go_wp2_with (at_builtin; refine stopAt ?_; intro q hq)
      refine (known_any _).mono ?_
      rintro e wf ⟨rfl, hkf⟩
      have HZ := hid (Same.trans He.out hkf)
      clear hkf
      go_wp2_with (at_builtin; refine stopAt ?_; intro q hq)
      go_ret
      exact ⟨by rfl, HZ.out⟩
    · have q2 : decide (R2.1 = 0) = false := decide_eq_false hz
      have q3 : (R2.1 == 0) = false := by simpa using hz
      have S3' := S3.out wd Hd.out
      rw [show decide (G'.l = old) = true from decide_eq_true ho] at S3'
      clear ho hz
      go_wp2_with (at_builtin; refine stopAt ?_; intro q hq)
      refine S3'.mono ?_
      rintro e we ⟨rfl, hke⟩
      have He := hid (Same.trans Hc.out.1.keep (Same.trans Hd.out hke))
      clear S3' hke
      go_wp2_with (at_builtin; refine stopAt ?_; intro q hq)
      refine (known_any _).mono ?_
      rintro e wf ⟨rfl, hkf⟩
      have HZ := hid (Same.trans He.out hkf)
      clear hkf
      go_wp2_with (at_builtin; refine stopAt ?_; intro q hq)
      go_ret
      exact ⟨by rfl, HZ.out⟩
  · rw [show decide (G'.l = old) = false from decide_eq_false ho] at S1'
    go_wp2_with (at_builtin; refine stopAt ?_; intro q hq)
    refine S1'.mono ?_
    rintro e wd ⟨rfl, hkd⟩
    have Hd := hid hkd
    have S2' := S2.out wd hkd
    clear S1' hkd
    by_cases hfr : G'.l = fresh
    · rw [show decide (G'.l = fresh) = true from decide_eq_true hfr] at S2'
      go_wp2_with (at_builtin; refine stopAt ?_; intro q hq)
      refine S2'.mono ?_
      rintro e we ⟨rfl, hke⟩
      have He := hid (Same.trans Hd.out hke)
      clear S2' hke
      by_cases hz : R2.1 = 0
      · have S4' := S4.out we He.out
        rw [show decide (G'.l = fresh) = true from decide_eq_true hfr] at S4'
        rw [hz]
        clear ho hfr hz
        go_wp2_with (at_builtin; refine stopAt ?_; intro q hq)
        refine S4'.mono ?_
        rintro e wg ⟨rfl, hkg⟩
        have Hg := hid (Same.trans Hc.out.1.keep (Same.trans He.out hkg))
        clear S4' hkg
        go_wp2_with (at_builtin; refine stopAt ?_; intro q hq)
        refine (known_any _).mono ?_
        rintro e wf ⟨rfl, hkf⟩
        have HZ := hid (Same.trans Hg.out hkf)
        clear hkf
        go_wp2_with (at_builtin; refine stopAt ?_; intro q hq)
        go_ret
        exact ⟨by rfl, HZ.out⟩
      · have h6 : R2.1 = 6 := Classical.byContradiction fun h => ho (HS.out.2.2.2.2 hz h)
        have S3' := S3.out we He.out
        rw [show decide (G'.l = old) = false from decide_eq_false ho] at S3'
        rw [h6]
        clear ho hz h6
        go_wp2_with (at_builtin; refine stopAt ?_; intro q hq)
        refine S3'.mono ?_
        rintro e wg ⟨rfl, hkg⟩
        have hkg2 := Same.trans He.out hkg
        have S4' := S4.out wg hkg2
        rw [show decide (G'.l = fresh) = true from decide_eq_true hfr] at S4'
        have Hg := hid hkg2
        clear S3' hkg hkg2 hfr
        go_wp2_with (at_builtin; refine stopAt ?_; intro q hq)
        refine S4'.mono ?_
        rintro e wh ⟨rfl, hkh⟩
        have Hh := hid (Same.trans Hc.out.1.keep (Same.trans Hg.out hkh))
        clear S4' hkh
        go_wp2_with (at_builtin; refine stopAt ?_; intro q hq)
        refine (known_any _).mono ?_
        rintro e wf ⟨rfl, hkf⟩
        have HZ := hid (Same.trans Hh.out hkf)
        clear hkf
        go_wp2_with (at_builtin; refine stopAt ?_; intro q hq)
        go_ret
        exact ⟨by rfl, HZ.out⟩
    · rw [show decide (G'.l = fresh) = false from decide_eq_false hfr] at S2'
      clear ho hfr
      go_wp2_with (at_builtin; refine stopAt ?_; intro q hq)
      refine S2'.mono ?_
      rintro e we ⟨rfl, hke⟩
      have He := hid (Same.trans Hc.out.1.keep (Same.trans Hd.out hke))
      clear S2' hke
      go_wp2_with (at_builtin; refine stopAt ?_; intro q hq)
      refine (known_any _).mono ?_
      rintro e wf ⟨rfl, hkf⟩
      have HZ := hid (Same.trans He.out hkf)
      clear hkf
      go_wp2_with (at_builtin; refine stopAt ?_; intro q hq)
      go_ret
      exact ⟨by rfl, HZ.out⟩
end Go.Proofs.Yteemekckiafnfaa
