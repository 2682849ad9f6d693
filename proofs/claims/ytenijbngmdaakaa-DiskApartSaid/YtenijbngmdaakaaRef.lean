/- The document's disk: how it lies in memory, and contracts for act, Arm and Write, over the same plain disk as the program's. Conditions: as each contract names them. -/
import Derived.Test.YtenijbngmdaakaaDisk
namespace Go.Proofs.Ytenijbngmdaakaa
open Go.RowKit
open DM

def secsV (l : List Sec) : List Value := l.map fun s => .string (str s)
def putV (p : Nat × Sec) : List Value := [.int .i64 (p.1 : Int), .string (str p.2)]
def putsV (l : List (Nat × Sec)) : List Value := l.flatMap putV
def leftV (l : Option Nat) : Int := match l with | none => -1 | some k => (k : Int)
theorem leftV_none : leftV none = -1 := rfl
theorem leftV_zero : leftV (some 0) = 0 := rfl
theorem leftV_some (k : Nat) : leftV (some k) = (k : Int) := rfl
def refCells (vs vw : Value) (D : Dk) : Array Value := #[vs, vw, .int .i64 (leftV D.left), .bool D.down]

theorem secsV_length (l : List Sec) : (secsV l).length = l.length := by simp [secsV]
theorem putsV_length (l : List (Nat × Sec)) : (putsV l).length = l.length * 2 := by
  induction l with
  | nil => rfl
  | cons p l ih => simp only [putsV, List.flatMap_cons, List.length_append, List.length_cons] at *; rw [ih]; simp [putV]; omega

structure RefFoot (w : World) (b : Nat) (F : Nat → Prop) (vs vw : Value) : Prop where
  self : F b
  safe : ∀ k, vs.ownBlock = some k → F k ∧ k ≠ b
  waits : ∀ k, vw.ownBlock = some k → F k ∧ k ≠ b ∧ vs.ownBlock ≠ some k
  lt : ∀ k, F k → k < w.heap.size

structure RefIs (w : World) (b : Nat) (F : Nat → Prop) (D : Dk) (vs vw : Value) : Prop where
  head : w.heap[b]? = some (.cells (refCells vs vw D) 70 (0, 0))
  safe : Row w 9 1 vs D.safe.length (secsV D.safe)
  waits : Row w 77 2 vw D.waits.length (putsV D.waits)
  foot : RefFoot w b F vs vw
  ok : Ok D

def RefAt (w : World) (b : Nat) (F : Nat → Prop) (D : Dk) : Prop := ∃ vs vw, RefIs w b F D vs vw

theorem RefIs.keep {w w' : World} {b : Nat} {F G : Nat → Prop} {D : Dk} {vs vw : Value} (h : RefIs w b F D vs vw) (hk : Keep G w w') (hn : ∀ k, F k → ¬ G k) : RefIs w' b F D vs vw :=
  ⟨hk.get h.head (hn _ h.foot.self), h.safe.keep hk fun k e => hn _ (h.foot.safe k e).1, h.waits.keep hk fun k e => hn _ (h.foot.waits k e).1,
   ⟨h.foot.self, h.foot.safe, h.foot.waits, fun k hF => Nat.lt_of_lt_of_le (h.foot.lt k hF) hk.size⟩, h.ok⟩
theorem RefAt.keep {w w' : World} {b : Nat} {F G : Nat → Prop} {D : Dk} (h : RefAt w b F D) (hk : Keep G w w') (hn : ∀ k, F k → ¬ G k) : RefAt w' b F D :=
  let ⟨_, _, hh⟩ := h; ⟨_, _, hh.keep hk hn⟩
theorem RefAt.lt {w : World} {b : Nat} {F : Nat → Prop} {D : Dk} (h : RefAt w b F D) : ∀ k, F k → k < w.heap.size := let ⟨_, _, hh⟩ := h; hh.foot.lt
theorem RefAt.ok {w : World} {b : Nat} {F : Nat → Prop} {D : Dk} (h : RefAt w b F D) : Ok D := let ⟨_, _, hh⟩ := h; hh.ok

def RefTo (b : Nat) (F : Nat → Prop) (w : World) (D' : Dk) (w' : World) : Prop :=
  ∃ F', RefAt w' b F' D' ∧ Keep F w w' ∧ ∀ k, F' k → F k ∨ w.heap.size ≤ k

theorem cells4 {w : World} {b : Nat} {T : TypeId} {a0 a1 a2 a3 : Value} (H : w.heap[b]? = some (.cells #[a0, a1, a2, a3] T (0, 0))) :
    w.cell? ⟨b, 0, none⟩ = some a0 ∧ w.cell? ⟨b, 1, none⟩ = some a1 ∧ w.cell? ⟨b, 2, none⟩ = some a2 ∧ w.cell? ⟨b, 3, none⟩ = some a3 ∧ (∀ o, w.frozen? ⟨b, o, none⟩ = false) ∧ b < w.heap.size := by
  refine ⟨?_, ?_, ?_, ?_, ?_, heap_lt H⟩ <;> simp [World.cell?, World.frozen?, H]

/-- Another head, the rows as they were. -/
theorem RefIs.head' {w w' : World} {b : Nat} {F : Nat → Prop} {D D' : Dk} {vs vw : Value} (h : RefIs w b F D vs vw) (hk : Keep (fun k => k = b) w w')
    (hh : w'.heap[b]? = some (.cells (refCells vs vw D') 70 (0, 0))) (e1 : D'.safe = D.safe) (e2 : D'.waits = D.waits) (ok : Ok D') : RefIs w' b F D' vs vw := by
  refine ⟨hh, ?_, ?_, ⟨h.foot.self, h.foot.safe, h.foot.waits, fun k hF => Nat.lt_of_lt_of_le (h.foot.lt k hF) hk.size⟩, ok⟩
  · rw [e1]; exact h.safe.keep hk fun k e => (h.foot.safe k e).2
  · rw [e2]; exact h.waits.keep hk fun k e => (h.foot.waits k e).2.1

theorem RefIs.to {w w' : World} {b : Nat} {F : Nat → Prop} {D' : Dk} {vs vw : Value} (h : RefIs w' b F D' vs vw) (hk : Keep F w w') : RefTo b F w D' w' :=
  ⟨F, ⟨_, _, h⟩, hk, fun _ hF => .inl hF⟩

set_option maxHeartbeats 400000 in
theorem ref_act (w : World) (b : Nat) (F : Nat → Prop) (D : Dk) (hD : RefAt w b F D) :
    Calls Try.prog 36 #[.pointer (some ⟨b, 0, none⟩)] w fun e w' => e = .returned (.bool (act D).1) ∧ RefTo b F w (act D).2 w' := by
  obtain ⟨vs, vw, hI⟩ := hD
  have hok := hI.ok.act
  have hh := hI.head
  unfold refCells at hh
  obtain ⟨h0, h1, h2, h3, hf, hb⟩ := cells4 hh
  have fin : ∀ w', Keep (fun k => k = b) w w' → w'.heap[b]? = some (.cells (refCells vs vw (act D).2) 70 (0, 0)) → RefTo b F w (act D).2 w' := fun w' hk hh' =>
    (hI.head' hk hh' (act_safe D) (act_waits D) hok).to (hk.mono fun i _ e => by subst e; exact hI.foot.self)
  have Fin := hid fin
  have Hh := hid hh
  clear fin hh
  cases hd : D.down with
  | true =>
    rw [hd] at h3
    have ha : act D = (false, D) := by unfold DM.act; rw [hd]; rfl
    have Ha := hid ha
    clear ha
    have Hd := hid hd
    clear hd
    cases hl : D.left with
    | none =>
      rw [hl] at h2
      rw [leftV_none] at h2
      clear hl
      go_enter Try.func36, Try.ntmps36
      go_wp2
      go_ret
      refine ⟨by rw [Ha.out]; rfl, Fin.out _ (Keep.refl _ _) (by rw [Ha.out]; exact Hh.out)⟩
    | some k =>
      cases k with
      | zero =>
        have Hl := hid hl
        rw [hl] at h2
        rw [leftV_zero] at h2
        clear hl
        go_enter Try.func36, Try.ntmps36
        go_wp2
        go_ret
        refine ⟨by rw [Ha.out]; rfl, Fin.out _ (by refine Keep.setCell (Keep.refl _ _) (.inl ?_) _; rfl) (by rw [Ha.out, heap_setCell6 Hh.out]; simp [refCells, Hd.out])⟩
      | succ k =>
        have hk := hI.ok.left _ hl
        rw [hl] at h2
        rw [leftV_some] at h2
        clear hl
        go_enter Try.func36, Try.ntmps36
        go_wp2
        go_ret
        refine ⟨by rw [Ha.out]; rfl, Fin.out _ (Keep.refl _ _) (by rw [Ha.out]; exact Hh.out)⟩
  | false =>
    rw [hd] at h3
    cases hl : D.left with
    | none =>
      rw [hl] at h2
      rw [leftV_none] at h2
      have ha : act D = (true, D) := by unfold DM.act; rw [hd, hl]; rfl
      have Ha := hid ha
      clear ha
      go_enter Try.func36, Try.ntmps36
      go_wp2
      go_ret
      refine ⟨by rw [Ha.out]; rfl, Fin.out _ (Keep.refl _ _) (by rw [Ha.out]; exact Hh.out)⟩
    | some k =>
      rw [hl] at h2
      rw [leftV_some] at h2
      have hk := hI.ok.left k hl
      cases k with
      | zero =>
        have ha : act D = (false, { D with down := true }) := by unfold DM.act; rw [hd, hl]; rfl
        have Ha := hid ha
        clear ha
        go_enter Try.func36, Try.ntmps36
        go_wp2
        go_ret
        refine ⟨by rw [Ha.out]; rfl, Fin.out _ (by refine Keep.setCell (Keep.refl _ _) (.inl ?_) _; rfl) (by rw [Ha.out, heap_setCell6 Hh.out]; simp [refCells, hl])⟩
      | succ k =>
        have ha : act D = (true, { D with left := some k }) := by unfold DM.act; rw [hd, hl]; rfl
        have Ha := hid ha
        clear ha
        go_enter Try.func36, Try.ntmps36
        go_wp2
        go_ret
        refine ⟨by rw [Ha.out]; rfl, Fin.out _ (by refine Keep.setCell (Keep.refl _ _) (.inl ?_) _; rfl) (by rw [Ha.out, heap_setCell6 Hh.out]; simp [refCells, hl, leftV])⟩
end Go.Proofs.Ytenijbngmdaakaa
