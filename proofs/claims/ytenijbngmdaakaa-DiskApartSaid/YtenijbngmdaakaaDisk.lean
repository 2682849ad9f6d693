/- The program's disk: how it lies in memory, and a contract for each of its methods. Conditions: as each contract names them. -/
import Derived.Test.YtenijbngmdaakaaChecked
import Derived.Test.YtenijbngmdaakaaBase
import Derived.Test.YtenijbngmdaakaaDiskM
import Derived.Test.YtenijbngmdaakaaLists
import Derived.WalkKit
import Derived.WalkLawsBesides
import Derived.WalkSpells
namespace Go.Proofs.Ytenijbngmdaakaa
open Go.RowKit
open DM

def waitV (p : Nat × Sec) : List Value := .int .i64 (p.1 : Int) :: bytesV p.2
def waitsV (l : List (Nat × Sec)) : List Value := l.flatMap waitV

theorem waitsV_one (l : List (Nat × Sec)) : ∀ u ∈ waitsV l, u.oneCell' = true := by
  intro u hu
  simp only [waitsV, List.mem_flatMap, waitV, List.mem_cons] at hu
  obtain ⟨p, _, h | h⟩ := hu
  · subst h; rfl
  · exact bytesV_one _ u h
theorem waitsV_get : ∀ (l : List (Nat × Sec)), (∀ p ∈ l, p.2.length = 32) → ∀ (k : Nat) (hk : k < l.length) (j : Nat), j < 33 → (waitsV l)[k * 33 + j]? = (waitV l[k])[j]?
  | [], _, k, hk, _, _ => absurd hk (Nat.not_lt_zero _)
  | p :: l, h, 0, _, j, hj => by
    have hp : (waitV p).length = 33 := by simp [waitV, bytesV_length, h p (by simp)]
    simp only [waitsV, List.flatMap_cons, Nat.zero_mul, Nat.zero_add, List.getElem_cons_zero]
    rw [List.getElem?_append_left (by omega)]
  | p :: l, h, k + 1, hk, j, hj => by
    have hp : (waitV p).length = 33 := by simp [waitV, bytesV_length, h p (by simp)]
    have ih := waitsV_get l (fun q hq => h q (by simp [hq])) k (by simpa using hk) j hj
    simp only [waitsV, List.flatMap_cons, List.getElem_cons_succ] at ih ⊢
    rw [List.getElem?_append_right (by omega), ← ih]
    congr 1
    omega
def secZero : Value := .agg (Array.replicate 32 (.int .u8 0))
theorem ty_sectors : SliceTy Try.prog 59 64 secZero 32 32 := ⟨by kernel_rfl, by kernel_rfl, by simp [secZero, Value.cells], by decide⟩
def waitZero : Value := .agg (#[.int .i64 0] ++ Array.replicate 32 (.int .u8 0))
theorem ty_waits : SliceTy Try.prog 60 66 waitZero 33 40 := ⟨by kernel_rfl, by kernel_rfl, by simp [waitZero, Value.cells], by decide⟩

/-- The object at block b is the disk D; all of its blocks are in F. -/
structure DiskFoot (w : World) (b : Nat) (F : Nat → Prop) (vs vn vw : Value) : Prop where
  self : F b
  safe : ∀ k, vs.ownBlock = some k → F k ∧ k ≠ b
  now : ∀ k, vn.ownBlock = some k → F k ∧ k ≠ b ∧ vs.ownBlock ≠ some k
  waits : ∀ k, vw.ownBlock = some k → F k ∧ k ≠ b ∧ vs.ownBlock ≠ some k ∧ vn.ownBlock ≠ some k
  lt : ∀ k, F k → k < w.heap.size

def diskCells (vs vn vw : Value) (D : Dk) : Array Value := #[vs, vn, vw, .bool D.left.isSome, .int .i64 (D.left.getD 0 : Nat), .bool D.down]

structure DiskIs (w : World) (b : Nat) (F : Nat → Prop) (D : Dk) (vs vn vw : Value) : Prop where
  head : w.heap[b]? = some (.cells (diskCells vs vn vw D) 62 (0, 0))
  safe : Row w 64 32 vs D.safe.length (bytesV D.safe.flatten)
  now : Row w 64 32 vn D.safe.length (bytesV (DM.now D).flatten)
  waits : Row w 66 33 vw D.waits.length (waitsV D.waits)
  foot : DiskFoot w b F vs vn vw
  ok : Ok D

def DiskAt (w : World) (b : Nat) (F : Nat → Prop) (D : Dk) : Prop := ∃ vs vn vw, DiskIs w b F D vs vn vw

theorem DiskIs.keep {w w' : World} {b : Nat} {F G : Nat → Prop} {D : Dk} {vs vn vw : Value} (h : DiskIs w b F D vs vn vw) (hk : Keep G w w') (hn : ∀ k, F k → ¬ G k) : DiskIs w' b F D vs vn vw :=
  ⟨hk.get h.head (hn _ h.foot.self), h.safe.keep hk fun k e => hn _ (h.foot.safe k e).1, h.now.keep hk fun k e => hn _ (h.foot.now k e).1, h.waits.keep hk fun k e => hn _ (h.foot.waits k e).1,
   ⟨h.foot.self, h.foot.safe, h.foot.now, h.foot.waits, fun k hF => Nat.lt_of_lt_of_le (h.foot.lt k hF) hk.size⟩, h.ok⟩
theorem DiskAt.keep {w w' : World} {b : Nat} {F G : Nat → Prop} {D : Dk} (h : DiskAt w b F D) (hk : Keep G w w') (hn : ∀ k, F k → ¬ G k) : DiskAt w' b F D :=
  let ⟨_, _, _, hh⟩ := h; ⟨_, _, _, hh.keep hk hn⟩
theorem DiskAt.lt {w : World} {b : Nat} {F : Nat → Prop} {D : Dk} (h : DiskAt w b F D) : ∀ k, F k → k < w.heap.size := let ⟨_, _, _, hh⟩ := h; hh.foot.lt
theorem DiskAt.ok {w : World} {b : Nat} {F : Nat → Prop} {D : Dk} (h : DiskAt w b F D) : Ok D := let ⟨_, _, _, hh⟩ := h; hh.ok

/-- What a method leaves: the disk is D' now, only its own blocks and new ones were touched. -/
def DiskTo (b : Nat) (F : Nat → Prop) (w : World) (D' : Dk) (w' : World) : Prop :=
  ∃ F', DiskAt w' b F' D' ∧ Keep F w w' ∧ ∀ k, F' k → F k ∨ w.heap.size ≤ k

theorem cells6 {w : World} {b : Nat} {T : TypeId} {a0 a1 a2 a3 a4 a5 : Value} (H : w.heap[b]? = some (.cells #[a0, a1, a2, a3, a4, a5] T (0, 0))) :
    w.cell? ⟨b, 0, none⟩ = some a0 ∧ w.cell? ⟨b, 1, none⟩ = some a1 ∧ w.cell? ⟨b, 2, none⟩ = some a2 ∧ w.cell? ⟨b, 3, none⟩ = some a3 ∧ w.cell? ⟨b, 4, none⟩ = some a4 ∧ w.cell? ⟨b, 5, none⟩ = some a5 ∧
    (∀ o, w.frozen? ⟨b, o, none⟩ = false) ∧ b < w.heap.size := by
  refine ⟨?_, ?_, ?_, ?_, ?_, ?_, ?_, heap_lt H⟩ <;> simp [World.cell?, World.frozen?, H]

theorem heap_setCell6 {w : World} {b : Nat} {T : TypeId} {cs : Array Value} (H : w.heap[b]? = some (.cells cs T (0, 0))) (i : Nat) (v : Value) :
    (w.setCell ⟨b, i, none⟩ v).heap[b]? = some (.cells (cs.setIfInBounds i v) T (0, 0)) := heap_setCell_same w b i cs T v H

/-- Another head, the rows as they were. -/
theorem DiskIs.head' {w w' : World} {b : Nat} {F : Nat → Prop} {D D' : Dk} {vs vn vw : Value} (h : DiskIs w b F D vs vn vw) (hk : Keep (fun k => k = b) w w')
    (hh : w'.heap[b]? = some (.cells (diskCells vs vn vw D') 62 (0, 0))) (e1 : D'.safe = D.safe) (e2 : D'.waits = D.waits) (ok : Ok D') : DiskIs w' b F D' vs vn vw := by
  have hb : ∀ k, k ≠ b → ¬ (fun k => k = b) k := fun k hk => hk
  have e3 : DM.now D' = DM.now D := by simp [DM.now, e1, e2]
  refine ⟨hh, ?_, ?_, ?_, ⟨h.foot.self, h.foot.safe, h.foot.now, h.foot.waits, fun k hF => Nat.lt_of_lt_of_le (h.foot.lt k hF) hk.size⟩, ok⟩
  · rw [e1]; exact h.safe.keep hk fun k e => (h.foot.safe k e).2
  · rw [e1, e3]; exact h.now.keep hk fun k e => (h.foot.now k e).2.1
  · rw [e2]; exact h.waits.keep hk fun k e => (h.foot.waits k e).2.1

theorem DiskIs.to {w w' : World} {b : Nat} {F : Nat → Prop} {D' : Dk} {vs vn vw : Value} (h : DiskIs w' b F D' vs vn vw) (hk : Keep F w w') : DiskTo b F w D' w' :=
  ⟨F, ⟨_, _, _, h⟩, hk, fun _ hF => .inl hF⟩

set_option maxHeartbeats 400000 in
theorem act_any (w : World) (b : Nat) (F : Nat → Prop) (D : Dk) (hD : DiskAt w b F D) :
    Calls Try.prog 28 #[.pointer (some ⟨b, 0, none⟩)] w fun e w' => e = .returned (.bool (act D).1) ∧ DiskTo b F w (act D).2 w' := by
  obtain ⟨vs, vn, vw, hI⟩ := hD
  have hok := hI.ok.act
  have hh := hI.head
  unfold diskCells at hh
  obtain ⟨h0, h1, h2, h3, h4, h5, hf, hb⟩ := cells6 hh
  have fin : ∀ w', Keep (fun k => k = b) w w' → w'.heap[b]? = some (.cells (diskCells vs vn vw (act D).2) 62 (0, 0)) → DiskTo b F w (act D).2 w' := fun w' hk hh' =>
    (hI.head' hk hh' (act_safe D) (act_waits D) hok).to (hk.mono fun i _ e => by subst e; exact hI.foot.self)
  have Fin := hid fin
  have Hh := hid hh
  clear fin hh
  cases hd : D.down with
  | true =>
    rw [hd] at h5
    have ha : act D = (false, D) := by unfold DM.act; rw [hd]; rfl
    have Ha := hid ha
    clear ha
    go_enter Try.func28, Try.ntmps28
    go_wp2
    go_ret
    refine ⟨by rw [Ha.out]; rfl, Fin.out _ (Keep.refl _ _) (by rw [Ha.out]; exact Hh.out)⟩
  | false =>
    rw [hd] at h5
    cases hl : D.left with
    | none =>
      rw [hl] at h3 h4
      have ha : act D = (true, D) := by unfold DM.act; rw [hd, hl]; rfl
      have Ha := hid ha
      clear ha
      go_enter Try.func28, Try.ntmps28
      go_wp2
      go_ret
      refine ⟨by rw [Ha.out]; rfl, Fin.out _ (Keep.refl _ _) (by rw [Ha.out]; exact Hh.out)⟩
    | some k =>
      rw [hl] at h3 h4
      have hk := hI.ok.left k hl
      cases k with
      | zero =>
        have ha : act D = (false, { D with down := true }) := by unfold DM.act; rw [hd, hl]; rfl
        have Ha := hid ha
        clear ha
        go_enter Try.func28, Try.ntmps28
        go_wp2
        go_ret
        refine ⟨by rw [Ha.out]; rfl, Fin.out _ (by refine Keep.setCell (Keep.refl _ _) (.inl ?_) _; rfl) (by rw [Ha.out, heap_setCell6 Hh.out]; rfl)⟩
      | succ k =>
        have ha : act D = (true, { D with left := some k }) := by unfold DM.act; rw [hd, hl]; rfl
        have Ha := hid ha
        clear ha
        go_enter Try.func28, Try.ntmps28
        go_wp2
        go_ret
        refine ⟨by rw [Ha.out]; rfl, Fin.out _ (by refine Keep.setCell (Keep.refl _ _) (.inl ?_) _; rfl) (by rw [Ha.out, heap_setCell6 Hh.out]; simp [diskCells, hl])⟩

set_option maxHeartbeats 400000 in
theorem up_any (w : World) (b : Nat) (F : Nat → Prop) (D : Dk) (hD : DiskAt w b F D) :
    Calls Try.prog 17 #[.pointer (some ⟨b, 0, none⟩)] w fun e w' => e = .returned (.bool (!D.down)) ∧ w = w' := by
  obtain ⟨vs, vn, vw, hI⟩ := hD
  have hh := hI.head
  unfold diskCells at hh
  obtain ⟨h0, h1, h2, h3, h4, h5, hf, hb⟩ := cells6 hh
  clear hh hI
  go_enter Try.func17, Try.ntmps17
  go_wp2
  go_ret
  exact ⟨rfl, rfl⟩

set_option maxHeartbeats 400000 in
theorem waiting_any (w : World) (b : Nat) (F : Nat → Prop) (D : Dk) (hD : DiskAt w b F D) :
    Calls Try.prog 22 #[.pointer (some ⟨b, 0, none⟩)] w fun e w' => e = .returned (.int .i64 (D.waits.length : Int)) ∧ w = w' := by
  obtain ⟨vs, vn, vw, hI⟩ := hD
  have hh := hI.head
  unfold diskCells at hh
  obtain ⟨h0, h1, h2, h3, h4, h5, hf, hb⟩ := cells6 hh
  obtain ⟨ad, cap, rfl, -⟩ := hI.waits.form
  clear hh hI
  go_enter Try.func22, Try.ntmps22
  go_wp2
  go_ret
  exact ⟨rfl, rfl⟩

set_option maxHeartbeats 400000 in
theorem sectors_any (w : World) (b : Nat) (F : Nat → Prop) (D : Dk) (hD : DiskAt w b F D) :
    Calls Try.prog 27 #[.pointer (some ⟨b, 0, none⟩)] w fun e w' => e = .returned (.int .i64 (D.safe.length : Int)) ∧ w = w' := by
  obtain ⟨vs, vn, vw, hI⟩ := hD
  have hh := hI.head
  unfold diskCells at hh
  obtain ⟨h0, h1, h2, h3, h4, h5, hf, hb⟩ := cells6 hh
  obtain ⟨ad, cap, rfl, -⟩ := hI.now.form
  clear hh hI
  go_enter Try.func27, Try.ntmps27
  go_wp2
  go_ret
  exact ⟨rfl, rfl⟩

set_option maxHeartbeats 400000 in
theorem arm_any (w : World) (b : Nat) (F : Nat → Prop) (D : Dk) (n : Int) (hn : n < 9223372036854775808) (hD : DiskAt w b F D) :
    Calls Try.prog 16 #[.pointer (some ⟨b, 0, none⟩), .int .i64 n] w fun e w' => e = .returned (.tuple #[]) ∧ DiskTo b F w (DM.arm D n) w' := by
  obtain ⟨vs, vn, vw, hI⟩ := hD
  have hok := hI.ok.arm n hn
  have hh := hI.head
  unfold diskCells at hh
  obtain ⟨h0, h1, h2, h3, h4, h5, hf, hb⟩ := cells6 hh
  have fin : ∀ w', Keep (fun k => k = b) w w' → w'.heap[b]? = some (.cells (diskCells vs vn vw (DM.arm D n)) 62 (0, 0)) → DiskTo b F w (DM.arm D n) w' := fun w' hk hh' =>
    (hI.head' hk hh' rfl rfl hok).to (hk.mono fun i _ e => by subst e; exact hI.foot.self)
  have Fin := hid fin
  have Hh := hid hh
  clear fin hh hI hok
  go_enter Try.func16, Try.ntmps16
  go_wp2
  all_goals
    go_end0
    refine ⟨rfl, Fin.out _ ?_ ?_⟩
    · refine Keep.setCell (Keep.setCell (Keep.refl _ _) (.inl ?_) _) (.inl ?_) _ <;> rfl
    · rw [heap_setCell6 (heap_setCell6 Hh.out _ _)]
      clear h0 h1 h2 h3 h4 h5 Hh Fin
      first
        | (have hs : n < 0 := by assumption
           have hs2 : ¬ 0 ≤ n := by omega
           simp [diskCells, DM.arm, hs, hs2])
        | (have hs : 0 ≤ n := by assumption
           have hs2 : ¬ n < 0 := by omega
           simp [diskCells, DM.arm, hs2]
           omega)

end Go.Proofs.Ytenijbngmdaakaa
