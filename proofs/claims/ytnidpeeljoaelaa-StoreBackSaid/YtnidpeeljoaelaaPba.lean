/- Texts StoR in one. Conditions: as each law names them. -/
import Derived.Test.YtnidpeeljoaelaaPac
import Derived.Test.YtnidpeeljoaelaaPaq
import Derived.Test.YtnidpeeljoaelaaPax
import Derived.Test.YtnidpeeljoaelaaPay
/- Store: how a store lies in memory, the program's and the document's. Conditions: as each law names them. -/
namespace Go.Proofs.Ytnidpeeljoaelaa
open Go.RowKit Go.Maps
open MI SO BM DM WM

theorem LogAt.ltz {w : World} {b d : Nat} {F Fd : Nat → Prop} {D : Dk} {G : Lg} (h : LogAt w b d F Fd D G) : ∀ k, (F k ∨ Fd k) → k < w.heap.size := by
  obtain ⟨_, _, _, _, h⟩ := h
  exact fun k x => x.elim (h.wal.lt k) (h.disk.lt k)
theorem LogAt.disk_ {w : World} {b d : Nat} {F Fd : Nat → Prop} {D : Dk} {G : Lg} (h : LogAt w b d F Fd D G) : DiskAt w d Fd D := by
  obtain ⟨_, _, _, _, h⟩ := h; exact h.disk
theorem LogAt.apart_ {w : World} {b d : Nat} {F Fd : Nat → Prop} {D : Dk} {G : Lg} (h : LogAt w b d F Fd D G) : ∀ k, F k → ¬ Fd k := by
  obtain ⟨_, _, _, _, h⟩ := h; exact h.apart
structure StoIs (w : World) (b d : Nat) (F Fd : Nat → Prop) (D : Dk) (S : St) (wb mb : Nat) (m : List (Str × Str)) (Fl : Nat → Prop) : Prop where
  head : w.heap[b]? = some (.cells (stoCells (.pointer (some ⟨wb, 0, none⟩)) mb S.dead) 74 (0, 0))
  map : PairsAt w mb m
  log : LogAt w wb d Fl Fd D S.g
  get : ∀ x, AL.get m x = AL.get S.ps x
  inl : ∀ k, Fl k → F k ∧ k ≠ b ∧ k ≠ mb
  self : F b
  fm : F mb
  ne : b ≠ mb
  lt : ∀ k, F k → k < w.heap.size
  apart : ∀ k, F k → ¬ Fd k
  ok : PsOk S.ps
def StoAt (w : World) (b d : Nat) (F Fd : Nat → Prop) (D : Dk) (S : St) : Prop := ∃ wb mb m Fl, StoIs w b d F Fd D S wb mb m Fl
def StoTo (b d : Nat) (F Fd : Nat → Prop) (w : World) (D' : Dk) (S' : St) (w' : World) : Prop :=
  ∃ F' Fd', StoAt w' b d F' Fd' D' S' ∧ Keep (fun k => F k ∨ Fd k) w w' ∧ (∀ k, F' k → F k ∨ w.heap.size ≤ k) ∧ ∀ k, Fd' k → Fd k ∨ w.heap.size ≤ k

section
variable {w w' w1 w2 : World} {b d wb mb : Nat} {F Fd Fl K : Nat → Prop} {D D' : Dk} {S S' : St} {m m' : List (Str × Str)} {G' : Lg}
theorem StoIs.keep (H : StoIs w b d F Fd D S wb mb m Fl) (hk : Keep K w w') (h1 : ∀ k, F k → ¬ K k) (h2 : ∀ k, Fd k → ¬ K k) : StoIs w' b d F Fd D S wb mb m Fl :=
  ⟨hk.get H.head (h1 _ H.self), MapAt.keep H.map hk (h1 _ H.fm), H.log.keep hk (fun k x => h1 k (H.inl k x).1) h2, H.get, H.inl, H.self, H.fm, H.ne, fun k x => Nat.lt_of_lt_of_le (H.lt k x) hk.size, H.apart, H.ok⟩
theorem StoIs.len (H : StoIs w b d F Fd D S wb mb m Fl) : m.length = S.ps.length := len_eq H.map.1 H.ok.sorted H.get
/-- What a method of the log leaves. -/
theorem StoIs.logTo (H : StoIs w b d F Fd D S wb mb m Fl) (ht : LogTo wb d Fl Fd w D' G' w') :
    ∃ Fl' F' Fd', StoIs w' b d F' Fd' D' { S with g := G' } wb mb m Fl' ∧ Keep (fun k => F k ∨ Fd k) w w' ∧ (∀ k, F' k → F k ∨ w.heap.size ≤ k) ∧ ∀ k, Fd' k → Fd k ∨ w.heap.size ≤ k := by
  obtain ⟨Fl', Fd', h1, h2, h3, h4⟩ := ht
  have hb : ¬ (Fl b ∨ Fd b) := fun x => x.elim (fun y => (H.inl b y).2.1 rfl) (H.apart b H.self)
  have hm : ¬ (Fl mb ∨ Fd mb) := fun x => x.elim (fun y => (H.inl mb y).2.2 rfl) (H.apart mb H.fm)
  refine ⟨Fl', fun k => F k ∨ Fl' k, Fd', ⟨h2.get H.head hb, MapAt.keep H.map h2 hm, h1, H.get, fun k x => ⟨.inr x, ?_, ?_⟩, .inl H.self, .inl H.fm, H.ne, fun k x => ?_, fun k x => ?_, H.ok⟩, h2.mono fun k _ x => x.imp (fun y => (H.inl k y).1) id, fun k x => ?_, h4⟩
  · rintro rfl
    rcases h3 _ x with z | z
    · exact hb (.inl z)
    · have := H.lt _ H.self; omega
  · rintro rfl
    rcases h3 _ x with z | z
    · exact hm (.inl z)
    · have := H.lt _ H.fm; omega
  · rcases x with x | x
    · exact Nat.lt_of_lt_of_le (H.lt k x) h2.size
    · exact h1.ltz k (.inl x)
  · rcases x with x | x
    · intro y
      rcases h4 k y with z | z
      · exact H.apart k x z
      · have := H.lt k x; omega
    · exact h1.apart_ k x
  · rcases x with x | x
    · exact .inl x
    · exact (h3 k x).imp (fun z => (H.inl k z).1) id
theorem StoIs.tell (H : StoIs w b d F Fd D S wb mb m Fl) (x : Bool) (hk : Keep (fun k => k = b) w w') (hh : w'.heap[b]? = some (.cells (stoCells (.pointer (some ⟨wb, 0, none⟩)) mb x) 74 (0, 0))) : StoIs w' b d F Fd D { S with dead := x } wb mb m Fl :=
  ⟨hh, MapAt.keep H.map hk (fun e => H.ne e.symm), H.log.keep hk (fun k y e => (H.inl k y).2.1 e) (fun k y e => by subst e; exact H.apart _ H.self y), H.get, H.inl, H.self, H.fm, H.ne, fun k y => Nat.lt_of_lt_of_le (H.lt k y) hk.size, H.apart, H.ok⟩
theorem StoIs.laid (H : StoIs w b d F Fd D S wb mb m Fl) {ps' : List (Str × Str)} (hk : Keep (fun k => k = mb) w w') (hm : PairsAt w' mb m') (hg : ∀ x, AL.get m' x = AL.get ps' x) (ok : PsOk ps') : StoIs w' b d F Fd D { S with ps := ps' } wb mb m' Fl :=
  ⟨hk.get H.head H.ne, hm, H.log.keep hk (fun k y e => (H.inl k y).2.2 e) (fun k y e => by subst e; exact H.apart _ H.fm y), hg, H.inl, H.self, H.fm, H.ne, fun k y => Nat.lt_of_lt_of_le (H.lt k y) hk.size, H.apart, ok⟩

theorem StoAt.keep (H : StoAt w b d F Fd D S) (hk : Keep K w w') (h1 : ∀ k, F k → ¬ K k) (h2 : ∀ k, Fd k → ¬ K k) : StoAt w' b d F Fd D S :=
  let ⟨wb, mb, m, Fl, h⟩ := H; ⟨wb, mb, m, Fl, h.keep hk h1 h2⟩
theorem StoAt.later (H : StoAt w b d F Fd D S) (hk : Keep (fun _ => False) w w') : StoAt w' b d F Fd D S := H.keep hk (fun _ _ x => x) (fun _ _ x => x)
theorem StoAt.ltw (H : StoAt w b d F Fd D S) : ∀ k, F k ∨ Fd k → k < w.heap.size := let ⟨_, _, _, _, h⟩ := H; fun k x => x.elim (h.lt k) fun y => h.log.ltz k (.inr y)
theorem StoAt.diskAt (H : StoAt w b d F Fd D S) : DiskAt w d Fd D := let ⟨_, _, _, _, h⟩ := H; h.log.disk_
theorem StoAt.apart (H : StoAt w b d F Fd D S) : ∀ k, F k → ¬ Fd k := let ⟨_, _, _, _, h⟩ := H; h.apart
theorem StoAt.ok (H : StoAt w b d F Fd D S) : PsOk S.ps := let ⟨_, _, _, _, h⟩ := H; h.ok
theorem StoAt.to (H : StoAt w b d F Fd D S) : StoTo b d F Fd w D S w := ⟨F, Fd, H, Keep.refl _ _, fun _ x => .inl x, fun _ x => .inl x⟩
theorem StoTo.since (h : StoTo b d F Fd w1 D' S' w') (hk : Keep (fun _ => False) w w1) : StoTo b d F Fd w D' S' w' := by
  obtain ⟨F', Fd', h1, h2, h3, h4⟩ := h
  exact ⟨F', Fd', h1, hk.next h2 (fun _ _ x => x.elim) (fun _ _ x => x), fun k x => (h3 k x).imp id fun y => Nat.le_trans hk.size y, fun k x => (h4 k x).imp id fun y => Nat.le_trans hk.size y⟩
theorem StoTo.later (h : StoTo b d F Fd w D' S' w1) (hk : Keep (fun _ => False) w1 w2) : StoTo b d F Fd w D' S' w2 := by
  obtain ⟨F', Fd', h1, h2, h3, h4⟩ := h
  exact ⟨F', Fd', h1.later hk, h2.next hk (fun _ _ x => x) (fun _ _ x => x.elim), h3, h4⟩
theorem StoTo.next {D2 : Dk} {S2 : St} (h1 : StoTo b d F Fd w D' S' w1) (h : ∀ F1 Fd1, StoAt w1 b d F1 Fd1 D' S' → StoTo b d F1 Fd1 w1 D2 S2 w2) : StoTo b d F Fd w D2 S2 w2 := by
  obtain ⟨F1, Fd1, a1, hk, h1', h2'⟩ := h1
  obtain ⟨F2, Fd2, b1, b2, b3, b4⟩ := h F1 Fd1 a1
  have s := hk.size
  refine ⟨F2, Fd2, b1, hk.next b2 (fun _ _ x => x) (fun k hk' x => ?_), fun k x => ?_, fun k x => ?_⟩
  · rcases x with x | x
    · rcases h1' k x with y | y
      · exact .inl y
      · omega
    · rcases h2' k x with y | y
      · exact .inr y
      · omega
  · rcases b3 k x with y | y
    · exact h1' k y
    · right; omega
  · rcases b4 k x with y | y
    · exact h2' k y
    · right; omega
theorem StoIs.at (H : StoIs w b d F Fd D S wb mb m Fl) : StoAt w b d F Fd D S := ⟨wb, mb, m, Fl, H⟩
end

/-! ### the document's -/
def rstoCells (wp pv : Value) (dead : Bool) : Array Value := #[wp, pv, .bool dead]
section
variable {w w' w1 w2 : World} {b d wb : Nat} {F Fd Fl K : Nat → Prop} {D D' : Dk} {S S' : St} {pv pv' : Value} {G' : Lg}
end
end Go.Proofs.Ytnidpeeljoaelaa
