/- Texts MapA, MirM in one. Conditions: as each law names them. -/
import Derived.Test.YtiilondhppipnaaChecked
import Derived.Maps.OwnSet
import Derived.Test.YtiilondhppipnaaBaa
import Derived.Test.YtiilondhppipnaaBab
/- Maps that a call has made, with elements of any kind: what they hold, as a plain list of pairs; the laws of v, ok := m[k], m[k], m[k] = v, delete, len as run equations. Conditions: as each law names them. -/
namespace Go.Proofs.Ytiilondhppipnaa
open Go.RowKit
open Go.Maps

/-- An element, whatever it is, as it stands. -/
def anyE (v : Value) : Option (DataW Value × List MemPlace) := some (.held v, [])

namespace AL
variable {κ α : Type} [DecidableEq κ]
/-- A list of pairs, no key twice: what it says of a key; without a key; with a key. -/
def get (l : List (κ × α)) (x : κ) : Option α := (l.find? fun p => decide (p.1 = x)).map (·.2)
def del (l : List (κ × α)) (x : κ) : List (κ × α) := l.filter fun p => !decide (p.1 = x)
def put (l : List (κ × α)) (x : κ) (v : α) : List (κ × α) := del l x ++ [(x, v)]
def Ok (l : List (κ × α)) : Prop := l.Pairwise fun p q => p.1 ≠ q.1

theorem get_nil (x : κ) : get ([] : List (κ × α)) x = none := rfl
theorem get_cons (p : κ × α) (l : List (κ × α)) (x : κ) : get (p :: l) x = if p.1 = x then some p.2 else get l x := by
  unfold get
  rw [List.find?_cons]
  by_cases h : p.1 = x <;> simp [h]
theorem get_none {l : List (κ × α)} {x : κ} : get l x = none ↔ ∀ p ∈ l, p.1 ≠ x := by
  unfold get
  simp
theorem get_append (l m : List (κ × α)) (x : κ) : get (l ++ m) x = (get l x).or (get m x) := by
  induction l with
  | nil => simp [get_nil]
  | cons p l ih =>
    rw [List.cons_append, get_cons, get_cons, ih]
    by_cases h : p.1 = x <;> simp [h]
theorem get_del_same (l : List (κ × α)) (x : κ) : get (del l x) x = none := by
  rw [get_none]
  intro p hp
  have := (List.mem_filter.1 hp).2
  simpa using this
theorem get_del_other (l : List (κ × α)) {x y : κ} (h : y ≠ x) : get (del l x) y = get l y := by
  induction l with
  | nil => rfl
  | cons p l ih =>
    unfold del at ih ⊢
    rw [List.filter_cons]
    by_cases hp : p.1 = x
    · rw [if_neg (by simp [hp]), ih, get_cons, if_neg (by rw [hp]; exact fun e => h e.symm)]
    · rw [if_pos (by simp [hp]), get_cons, get_cons, ih]
theorem get_put_same (l : List (κ × α)) (x : κ) (v : α) : get (put l x v) x = some v := by
  unfold put
  rw [get_append, get_del_same, get_cons]
  simp
theorem get_put_other (l : List (κ × α)) {x y : κ} (v : α) (h : y ≠ x) : get (put l x v) y = get l y := by
  unfold put
  rw [get_append, get_del_other l h, get_cons, if_neg (fun e => h e.symm), get_nil]
  cases get l y <;> rfl
theorem Ok.del {l : List (κ × α)} (h : Ok l) (x : κ) : Ok (del l x) := List.Pairwise.filter _ h
theorem Ok.put {l : List (κ × α)} (h : Ok l) (x : κ) (v : α) : Ok (put l x v) := by
  refine List.pairwise_append.2 ⟨h.del x, List.pairwise_singleton _ _, fun p hp q hq => ?_⟩
  have := (List.mem_filter.1 hp).2
  simp only [List.mem_singleton] at hq
  subst hq
  simpa using this
theorem del_length {l : List (κ × α)} (h : Ok l) (x : κ) : (del l x).length + (if (get l x).isSome then 1 else 0) = l.length := by
  induction l with
  | nil => rfl
  | cons p l ih =>
    have h' := List.pairwise_cons.1 h
    have ih := ih h'.2
    unfold del at ih ⊢
    rw [List.filter_cons, get_cons]
    by_cases hp : p.1 = x
    · have hn : get l x = none := get_none.2 fun q hq e => h'.1 q hq (by rw [hp, e])
      rw [hn] at ih
      rw [if_neg (by simp [hp]), if_pos hp]
      simp at ih ⊢
      omega
    · rw [if_pos (by simp [hp]), if_neg hp, List.length_cons, List.length_cons]
      omega
end AL

/-- A key's type: as it is read, as a value, and which ones may be. -/
structure KeyK {κ : Type} (k : TypeId) (ke : κ → Lit) (kv : κ → Value) (ok : κ → Prop) : Prop where
  keyed : Keyed Try.prog k
  inj : ∀ x y, ke x = ke y → x = y
  lit : ∀ x, WideAt.IsKeyLit (ke x)
  key : ∀ x, ok x → keyOf Try.prog k (kv x) = some (ke x)

/-- Block b of w is a map that holds just the pairs l. -/
def MapAt {κ α : Type} [DecidableEq κ] (w : World) (b : Nat) (k : TypeId) (ke : κ → Lit) (ve : α → Value) (l : List (κ × α)) : Prop :=
  AL.Ok l ∧ ∃ D, w.ownsMap Try.prog k anyE b l.length D ∧ Maps.size D = l.length ∧
    (∀ x, Maps.has D (ke x) = (AL.get l x).isSome ∧ ∀ v, AL.get l x = some v → ∀ z, D.atKey (ke x) z = .held (ve v)) ∧
    ∀ kl, Maps.has D kl = true → ∃ x, kl = ke x ∧ (AL.get l x).isSome = true

section
variable {κ α : Type} [DecidableEq κ] {w w' : World} {b : Nat} {k t e : TypeId} {ke : κ → Lit} {kv : κ → Value} {ok : κ → Prop} {ve : α → Value} {l : List (κ × α)} {z : Value}

theorem MapAt.made (w : World) (k : TypeId) (ke : κ → Lit) (ve : α → Value) : MapAt (w.alloc (.map #[] 0)) w.heap.size k ke ve [] :=
  ⟨List.Pairwise.nil, _, World.ownsMap_made w _ k anyE, rfl, fun _ => ⟨rfl, fun v h => by cases h⟩, fun kl h => by cases h⟩
theorem MapAt.lt (h : MapAt w b k ke ve l) : b < w.heap.size := let ⟨_, _, hD, _⟩ := h; hD.lt
theorem MapAt.keep {F : Nat → Prop} (h : MapAt w b k ke ve l) (hk : Keep F w w') (hn : ¬ F b) : MapAt w' b k ke ve l := by
  obtain ⟨h0, D, ⟨es, clock, hb, F', hs, hD⟩, h1, h2, h3⟩ := h
  exact ⟨h0, D, ⟨es, clock, hk.get hb hn, F', hs, hD⟩, h1, h2, h3⟩
theorem MapAt.pre (h : MapAt w b k ke ve l) (hk : Pre w w') : MapAt w' b k ke ve l := by
  obtain ⟨h0, D, ⟨es, clock, hb, F', hs, hD⟩, h1, h2, h3⟩ := h
  exact ⟨h0, D, ⟨es, clock, heap_same hk hb, F', hs, hD⟩, h1, h2, h3⟩
theorem Keep.mapTurned {F : Nat → Prop} {a : World} (h : Keep F a w) (ht : w.mapTurned w' b) (hb : F b ∨ a.heap.size ≤ b) : Keep F a w' :=
  h.grown ht.grown (fun j hj => by cases hj; exact hb)
theorem tight {R : Value → Option (DataW Value × List MemPlace)} {n : Nat} {D : DataW Value} (h : w.ownsMap Try.prog k R b n D) : w.ownsMap Try.prog k R b (Maps.size D) D := by
  obtain ⟨es, clock, hb, F, hs, rfl⟩ := h
  exact ⟨es, clock, hb, F, by simp [Maps.size, length_sorted], rfl⟩

/-- v, ok := m[k]. -/
theorem MapAt.look2 (h : MapAt w b k ke ve l) (K : KeyK k ke kv ok) (ht : Try.prog.underlying t = some (.map k e)) (hz : (zeroValue e).run Try.prog w = .ok z w) (x : κ) (hx : ok x) :
    (Instr.lookup t (.map (some b)) (kv x) true).run Try.prog w = .ok (.tuple #[((AL.get l x).map ve).getD z, .bool (AL.get l x).isSome]) w := by
  obtain ⟨_, D, hD, _, h2, _⟩ := h
  obtain ⟨v, ps, hrun, hR⟩ := hD.look_ok K.keyed ht hz (zd := .held z) (zp := []) rfl (K.key x hx)
  obtain ⟨hh, hv⟩ := h2 x
  rw [hrun, hh]
  simp only [anyE, Option.some.injEq, Prod.mk.injEq] at hR
  cases hg : AL.get l x with
  | none =>
    rw [hg] at hh
    rw [atKey_of_not_has hh] at hR
    cases hR.1
    rfl
  | some a =>
    rw [hv a hg] at hR
    cases hR.1
    rfl
/-- m[k]. -/
theorem MapAt.look1 (h : MapAt w b k ke ve l) (K : KeyK k ke kv ok) (ht : Try.prog.underlying t = some (.map k e)) (hz : (zeroValue e).run Try.prog w = .ok z w) (x : κ) (hx : ok x) :
    (Instr.lookup t (.map (some b)) (kv x) false).run Try.prog w = .ok (((AL.get l x).map ve).getD z) w := by
  obtain ⟨_, D, hD, _, h2, _⟩ := h
  obtain ⟨v, ps, hrun, hR⟩ := hD.lookup K.keyed ht hz (zd := .held z) (zp := []) rfl (K.key x hx)
  obtain ⟨hh, hv⟩ := h2 x
  rw [hrun]
  simp only [anyE, Option.some.injEq, Prod.mk.injEq] at hR
  cases hg : AL.get l x with
  | none =>
    rw [hg] at hh
    rw [atKey_of_not_has hh] at hR
    cases hR.1
    rfl
  | some a =>
    rw [hv a hg] at hR
    cases hR.1
    rfl
/-- len(m). -/
theorem MapAt.len (h : MapAt w b k ke ve l) (ht : Try.prog.underlying t = some (.map k e)) (ty : TypeId) : (Builtin.len_ #[t] ty #[.map (some b)]).run Try.prog w = .ok (.int .i64 l.length) w := by
  obtain ⟨_, D, hD, h1, _⟩ := h
  rw [hD.len ht ty, h1]
/-- m[k] = v. -/
theorem MapAt.store (h : MapAt w b k ke ve l) (K : KeyK k ke kv ok) (ht : Try.prog.underlying t = some (.map k e)) (hl : l.length < maxLen) (x : κ) (hx : ok x) (v : α) :
    ∃ w', (Instr.mapUpdate t (.map (some b)) (kv x) (ve v)).run Try.prog w = .ok () w' ∧ MapAt w' b k ke ve (AL.put l x v) ∧ Keep (fun i => i = b) w w' := by
  obtain ⟨h0, D, hD, h1, h2, h3⟩ := h
  obtain ⟨w', hrun, hD', hturn⟩ := hD.store (d := .held (ve v)) (ps := []) K.keyed ht hl (K.key x hx) rfl
  have hsz : Maps.size (D.put (ke x) (.held (ve v))) = (AL.put l x v).length := by
    rw [size_put (hD.tidy K.keyed), (h2 x).1, h1]
    unfold AL.put
    have := AL.del_length h0 x
    rw [List.length_append]
    simp only [List.length_singleton]
    split at this <;> simp_all
  refine ⟨w', hrun, ⟨h0.put x v, _, by rw [← hsz]; exact tight hD', hsz, fun y => ?_, fun kl hk => ?_⟩, (Keep.refl _ _).mapTurned hturn (.inl rfl)⟩
  · by_cases hy : y = x
    · subst hy
      refine ⟨by rw [has_put_same hD.isMap (K.lit y), AL.get_put_same]; rfl, fun u hu zz => ?_⟩
      rw [AL.get_put_same] at hu
      cases hu
      exact atKey_put_same hD.isMap (K.lit y) _ _
    · have hne : ke y ≠ ke x := fun e => hy (K.inj _ _ e)
      refine ⟨by rw [has_put_other hne, AL.get_put_other l v hy]; exact (h2 y).1, fun u hu zz => ?_⟩
      rw [AL.get_put_other l v hy] at hu
      rw [atKey_put_other hne]
      exact (h2 y).2 u hu zz
  · by_cases hy : kl = ke x
    · exact ⟨x, hy, by rw [AL.get_put_same]; rfl⟩
    · rw [has_put_other hy] at hk
      obtain ⟨y, rfl, hy2⟩ := h3 kl hk
      exact ⟨y, rfl, by rw [AL.get_put_other l v (fun e => hy (by rw [e]))]; exact hy2⟩
/-- delete(m, k). -/
theorem MapAt.drop (h : MapAt w b k ke ve l) (K : KeyK k ke kv ok) (ht : Try.prog.underlying t = some (.map k e)) (x : κ) (hx : ok x) (ty : TypeId) :
    ∃ w', (Builtin.delete_ #[t, k] ty #[.map (some b), kv x]).run Try.prog w = .ok (.tuple #[]) w' ∧ MapAt w' b k ke ve (AL.del l x) ∧ Keep (fun i => i = b) w w' := by
  obtain ⟨h0, D, hD, h1, h2, h3⟩ := h
  obtain ⟨w', hrun, hD', hturn⟩ := hD.drop K.keyed ht (K.key x hx) ty
  have hsz : Maps.size (D.del (ke x)) = (AL.del l x).length := by
    have h4 := size_del (k := ke x) (hD.tidy K.keyed)
    rw [(h2 x).1, h1] at h4
    have := AL.del_length h0 x
    omega
  refine ⟨w', hrun, ⟨h0.del x, _, by rw [← hsz]; exact tight hD', hsz, fun y => ?_, fun kl hk => ?_⟩, (Keep.refl _ _).mapTurned hturn (.inl rfl)⟩
  · by_cases hy : y = x
    · subst hy
      refine ⟨by rw [has_del_same, AL.get_del_same]; rfl, fun u hu zz => ?_⟩
      rw [AL.get_del_same] at hu
      cases hu
    · have hne : ke y ≠ ke x := fun e => hy (K.inj _ _ e)
      refine ⟨by rw [has_del_other hne, AL.get_del_other l hy]; exact (h2 y).1, fun u hu zz => ?_⟩
      rw [AL.get_del_other l hy] at hu
      rw [atKey_del_other hne]
      exact (h2 y).2 u hu zz
  · by_cases hy : kl = ke x
    · subst hy
      rw [has_del_same] at hk
      cases hk
    · rw [has_del_other hy] at hk
      obtain ⟨y, rfl, hy2⟩ := h3 kl hk
      exact ⟨y, rfl, by rw [AL.get_del_other l (fun e => hy (by rw [e]))]; exact hy2⟩
end
end Go.Proofs.Ytiilondhppipnaa
/- Mirror: the plain model: changes, items, sorted pairs, a source, a sink. Conditions: as each law names them. -/
namespace Go.Proofs.Ytiilondhppipnaa.MI
open Go.Proofs.Ytiilondhppipnaa

abbrev Str := List UInt8
/-- A change. -/
structure Ch where
  key : Str
  value : Str
  gone : Bool
deriving DecidableEq, Inhabited
/-- An item. -/
structure It where
  seq : Nat
  mark : Bool
  ch : Ch
deriving DecidableEq, Inhabited
def Ch.zero : Ch := ⟨[], [], false⟩
def It.zero : It := ⟨0, false, Ch.zero⟩

/-- May it be a change of a batch; an item? -/
def rightC (c : Ch) : Bool := decide (1 ≤ c.key.length ∧ c.key.length ≤ 16 ∧ c.value.length ≤ 128 ∧ ¬ (c.gone = true ∧ c.value ≠ []))
def rightI (i : It) : Bool := decide (0 < i.seq) && if i.mark then decide (i.ch = Ch.zero) else rightC i.ch

/-! ### pairs, rising by key -/
def Sorted (ps : List (Str × Str)) : Prop := ps.Pairwise fun p q => p.1 < q.1

theorem str_irrefl (a : Str) : ¬ a < a := List.lt_irrefl a
theorem str_trans {a b c : Str} (h : a < b) (k : b < c) : a < c := List.lt_trans h k
theorem str_tri (a b : Str) : a < b ∨ a = b ∨ b < a := by
  by_cases h : a < b
  · exact .inl h
  · by_cases k : b < a
    · exact .inr (.inr k)
    · exact .inr (.inl (List.le_antisymm (List.not_lt.1 k) (List.not_lt.1 h)))

theorem get_head {p : Str × Str} {ps : List (Str × Str)} (h : Sorted (p :: ps)) {x : Str} (hx : x < p.1) : AL.get (p :: ps) x = none := by
  rw [AL.get_none]
  intro q hq e
  have hs := List.pairwise_cons.1 h
  rcases List.mem_cons.1 hq with rfl | hq
  · rw [e] at hx; exact str_irrefl _ hx
  · have := hs.1 q hq
    rw [e] at this
    exact str_irrefl _ (str_trans hx this)

/-- Two rising lists that say the same are one. -/
theorem sorted_ext : ∀ {a b : List (Str × Str)}, Sorted a → Sorted b → (∀ x, AL.get a x = AL.get b x) → a = b
  | [], [], _, _, _ => rfl
  | [], q :: b, _, _, h => by have := h q.1; rw [AL.get_nil, AL.get_cons, if_pos rfl] at this; cases this
  | p :: a, [], _, _, h => by have := h p.1; rw [AL.get_nil, AL.get_cons, if_pos rfl] at this; cases this
  | p :: a, q :: b, ha, hb, h => by
    have hpq : p.1 = q.1 := by
      rcases str_tri p.1 q.1 with hlt | he | hlt
      · have h1 := h p.1
        rw [AL.get_cons, if_pos rfl, get_head hb hlt] at h1
        cases h1
      · exact he
      · have h1 := h q.1
        rw [get_head ha hlt, AL.get_cons, if_pos rfl] at h1
        cases h1
    have hv : p = q := by
      have h1 := h p.1
      rw [AL.get_cons, if_pos rfl, AL.get_cons, if_pos hpq.symm] at h1
      exact Prod.ext hpq (by simpa using h1)
    subst hv
    congr 1
    have hs := List.pairwise_cons.1 ha
    have ht := List.pairwise_cons.1 hb
    refine sorted_ext hs.2 ht.2 fun x => ?_
    have h1 := h x
    rw [AL.get_cons, AL.get_cons] at h1
    by_cases hx : p.1 = x
    · subst hx
      rw [AL.get_none.2 fun q hq e => str_irrefl p.1 (by have := hs.1 q hq; rwa [e] at this), AL.get_none.2 fun q hq e => str_irrefl p.1 (by have := ht.1 q hq; rwa [e] at this)]
    · rwa [if_neg hx, if_neg hx] at h1

/-- A change is laid on pairs. -/
def lay1 : List (Str × Str) → Ch → List (Str × Str)
  | [], c => if c.gone then [] else [(c.key, c.value)]
  | p :: ps, c => if p.1 < c.key then p :: lay1 ps c else (if c.gone then [] else [(c.key, c.value)]) ++ if p.1 = c.key then ps else p :: ps

theorem lay1_get : ∀ {ps : List (Str × Str)}, Sorted ps → ∀ (c : Ch) (x : Str), AL.get (lay1 ps c) x = if x = c.key then (if c.gone then none else some c.value) else AL.get ps x
  | [], _, c, x => by
    unfold lay1
    by_cases hg : c.gone = true
    · rw [if_pos hg, if_pos hg, AL.get_nil]; split <;> rfl
    · rw [if_neg hg, if_neg hg, AL.get_cons, AL.get_nil]
      by_cases hx : x = c.key
      · rw [if_pos hx, if_pos hx.symm]
      · rw [if_neg hx, if_neg (fun e => hx e.symm)]
  | p :: ps, h, c, x => by
    have hs := List.pairwise_cons.1 h
    unfold lay1
    by_cases hp : p.1 < c.key
    · rw [if_pos hp, AL.get_cons, AL.get_cons, lay1_get hs.2 c x]
      by_cases hx : p.1 = x
      · rw [if_pos hx, if_pos hx, if_neg (fun e => by rw [hx, e] at hp; exact str_irrefl _ hp)]
      · rw [if_neg hx, if_neg hx]
    · rw [if_neg hp, AL.get_append]
      have htail : ∀ q ∈ ps, q.1 ≠ c.key := fun q hq e => by
        have h1 := hs.1 q hq
        rw [e] at h1
        exact hp h1
      by_cases hx : x = c.key
      · subst hx
        rw [if_pos rfl]
        by_cases hg : c.gone = true
        · rw [if_pos hg, if_pos hg, AL.get_nil]
          simp only [Option.none_or]
          by_cases he : p.1 = c.key
          · rw [if_pos he]; exact AL.get_none.2 htail
          · rw [if_neg he, AL.get_cons, if_neg he]; exact AL.get_none.2 htail
        · rw [if_neg hg, if_neg hg, AL.get_cons, if_pos rfl]
          simp
      · rw [if_neg hx]
        have h0 : AL.get (if c.gone then [] else [(c.key, c.value)]) x = none := by
          split
          · rfl
          · rw [AL.get_cons, if_neg (fun e => hx e.symm), AL.get_nil]
        rw [h0]
        simp only [Option.none_or]
        by_cases he : p.1 = c.key
        · rw [if_pos he, AL.get_cons, if_neg (fun e => hx (by rw [← e, he]))]
        · rw [if_neg he]

theorem lay1_mem : ∀ {ps : List (Str × Str)} {c : Ch} {q : Str × Str}, q ∈ lay1 ps c → q ∈ ps ∨ q.1 = c.key
  | [], c, q, h => by
    unfold lay1 at h
    split at h
    · cases h
    · simp at h; exact .inr (by rw [h])
  | p :: ps, c, q, h => by
    unfold lay1 at h
    split at h
    · rcases List.mem_cons.1 h with rfl | h
      · exact .inl (by simp)
      · rcases lay1_mem h with h | h
        · exact .inl (by simp [h])
        · exact .inr h
    · rcases List.mem_append.1 h with h | h
      · split at h
        · cases h
        · simp at h; exact .inr (by rw [h])
      · split at h
        · exact .inl (by simp [h])
        · exact .inl h

theorem lay1_sorted : ∀ {ps : List (Str × Str)}, Sorted ps → ∀ c, Sorted (lay1 ps c)
  | [], _, c => by
    unfold lay1
    split
    · exact List.Pairwise.nil
    · exact List.pairwise_singleton _ _
  | p :: ps, h, c => by
    have hs := List.pairwise_cons.1 h
    unfold lay1
    by_cases hp : p.1 < c.key
    · rw [if_pos hp]
      refine List.pairwise_cons.2 ⟨fun q hq => ?_, lay1_sorted hs.2 c⟩
      rcases lay1_mem hq with hq | hq
      · exact hs.1 q hq
      · rw [hq]; exact hp
    · rw [if_neg hp]
      have hge : c.key < p.1 ∨ p.1 = c.key := by
        rcases str_tri p.1 c.key with h1 | h1 | h1
        · exact absurd h1 hp
        · exact .inr h1
        · exact .inl h1
      refine List.pairwise_append.2 ⟨?_, ?_, fun a ha b hb => ?_⟩
      · split
        · exact List.Pairwise.nil
        · exact List.pairwise_singleton _ _
      · split
        · exact hs.2
        · exact h
      · have ha' : a.1 = c.key := by
          split at ha
          · cases ha
          · simp at ha; rw [ha]
        rw [ha']
        split at hb
        · rename_i he
          rw [← he]
          exact hs.1 b hb
        · rename_i he
          rcases hge with h1 | h1
          · rcases List.mem_cons.1 hb with rfl | hb
            · exact h1
            · exact str_trans h1 (hs.1 b hb)
          · exact absurd h1 he

/-- The pairs that items come to. -/
def layI (ps : List (Str × Str)) (i : It) : List (Str × Str) := if i.mark then ps else lay1 ps i.ch
def layAll (l : List It) : List (Str × Str) := l.foldl layI []
theorem layAll_snoc (l : List It) (i : It) : layAll (l ++ [i]) = layI (layAll l) i := by simp [layAll]
theorem layAll_sorted (l : List It) : Sorted (layAll l) := by
  have : ∀ (l : List It) (ps : List (Str × Str)), Sorted ps → Sorted (l.foldl layI ps) := by
    intro l
    induction l with
    | nil => exact fun ps h => h
    | cons i l ih =>
      intro ps h
      refine ih _ ?_
      unfold layI
      split
      · exact h
      · exact lay1_sorted h _
  exact this l [] List.Pairwise.nil

/-- What a map of pairs becomes under an item. -/
def mapI (m : List (Str × Str)) (i : It) : List (Str × Str) := if i.mark then m else if i.ch.gone then AL.del m i.ch.key else AL.put m i.ch.key i.ch.value
theorem mapI_get {m ps : List (Str × Str)} (hs : Sorted ps) (h : ∀ x, AL.get m x = AL.get ps x) (i : It) (x : Str) : AL.get (mapI m i) x = AL.get (layI ps i) x := by
  unfold mapI layI
  by_cases hm : i.mark = true
  · rw [if_pos hm, if_pos hm, h]
  · rw [if_neg hm, if_neg hm, lay1_get hs]
    by_cases hg : i.ch.gone = true
    · rw [if_pos hg, if_pos hg]
      by_cases hx : x = i.ch.key
      · rw [hx, AL.get_del_same, if_pos rfl]
      · rw [AL.get_del_other _ hx, if_neg hx, h]
    · rw [if_neg hg, if_neg hg]
      by_cases hx : x = i.ch.key
      · rw [hx, AL.get_put_same, if_pos rfl]
      · rw [AL.get_put_other _ _ hx, if_neg hx, h]

/-! ### a map's pairs, its keys sorted -/
theorem get_of_mem {m : List (Str × Str)} (h : AL.Ok m) {p : Str × Str} (hp : p ∈ m) : AL.get m p.1 = some p.2 := by
  induction m with
  | nil => cases hp
  | cons q m ih =>
    have h' := List.pairwise_cons.1 h
    rw [AL.get_cons]
    rcases List.mem_cons.1 hp with rfl | hp
    · rw [if_pos rfl]
    · rw [if_neg (h'.1 p hp), ih h'.2 hp]
theorem mem_of_get {m : List (Str × Str)} {x y : Str} (h : AL.get m x = some y) : (x, y) ∈ m := by
  unfold AL.get at h
  cases hf : m.find? fun p => decide (p.1 = x) with
  | none => rw [hf] at h; cases h
  | some p =>
    rw [hf] at h
    have h1 := List.mem_of_find?_eq_some hf
    have h2 := List.find?_some hf
    simp at h h2
    rw [← h2, ← h]
    exact h1

/-- The keys, sorted, each with what the map says of it, are the rising pairs that say the same. -/
theorem sorted_pairs {m ps : List (Str × Str)} {ks : List Str} (_hm : AL.Ok m) (hps : Sorted ps) (h : ∀ x, AL.get m x = AL.get ps x) (hk : ks.Pairwise fun a b => a < b) (hmem : ∀ x, x ∈ ks ↔ (AL.get m x).isSome = true) :
    (ks.map fun x => (x, (AL.get m x).getD [])) = ps := by
  refine sorted_ext ?_ hps fun x => ?_
  · unfold Sorted
    rw [List.pairwise_map]
    exact hk
  · rw [← h]
    have : ∀ (l : List Str), AL.get (l.map fun x => (x, (AL.get m x).getD [])) x = if x ∈ l then some ((AL.get m x).getD []) else none := by
      intro l
      induction l with
      | nil => rfl
      | cons y l ih =>
        rw [List.map_cons, AL.get_cons, ih]
        by_cases hy : y = x
        · rw [if_pos hy, if_pos (by simp [hy]), hy]
        · rw [if_neg hy]
          by_cases hx : x ∈ l
          · rw [if_pos hx, if_pos (by simp [hx])]
          · rw [if_neg hx, if_neg (by simp [hx]; exact fun e => hy e.symm)]
    rw [this]
    cases hg : AL.get m x with
    | none => rw [if_neg (by rw [hmem, hg]; simp)]
    | some y => rw [if_pos (by rw [hmem, hg]; rfl)]; rfl

/-! ### the source -/
structure Src where
  gone : Nat
  l : List It
def Src.new : Src := ⟨0, []⟩
def Src.last (s : Src) : Nat := s.gone + s.l.length
def Src.add (s : Src) (c : Ch) (mark : Bool) : Src × Nat × Nat := if 4096 ≤ s.l.length then (s, 0, 5) else (⟨s.gone, s.l ++ [⟨s.last + 1, mark, c⟩]⟩, s.last + 1, 0)
def Src.do_ (s : Src) (c : Ch) : Src × Nat × Nat := if rightC c then s.add c false else (s, 0, 2)
def Src.mark (s : Src) : Src × Nat × Nat := s.add Ch.zero true
def Src.from_ (s : Src) (seq : Nat) (most : Int) : List It := if most < 1 ∨ s.last < seq then [] else (s.l.drop (max seq (s.gone + 1) - s.gone - 1)).take most.toNat
def Src.trim (s : Src) (upto : Nat) : Src × Nat := if upto ≤ s.gone then (s, 0) else (⟨min upto s.last, s.l.drop (min upto s.last - s.gone)⟩, min upto s.last - s.gone)

/-! ### the sink -/
structure Snk where
  cut : Nat
  done : List It
  held : List (Nat × It)
def Snk.new : Snk := ⟨0, [], []⟩
/-- How many items stand behind one another from a number on (at most so many are looked at). -/
def run (h : List (Nat × It)) (at_ : Nat) : Nat → Nat
  | 0 => 0
  | n + 1 => if (AL.get h at_).isSome then run h (at_ + 1) n + 1 else 0
def Snk.next (k : Snk) : Nat := k.cut + 1 + run k.held (k.cut + 1) k.held.length
/-- The last cut among so many numbers behind a first one. -/
def lastMark (h : List (Nat × It)) (cut : Nat) : Nat → Nat
  | 0 => cut
  | n + 1 => if ((AL.get h (cut + n + 1)).map It.mark).getD false then cut + n + 1 else lastMark h cut n
/-- The cut goes on, one by one. -/
def adv (k : Snk) : Nat → Snk
  | 0 => k
  | n + 1 => adv ⟨k.cut + 1, k.done ++ [(AL.get k.held (k.cut + 1)).getD It.zero], AL.del k.held (k.cut + 1)⟩ n
def Snk.take (k : Snk) (i : It) : Snk × Nat :=
  if rightI i = false then (k, 2) else if i.seq ≤ k.cut then (k, 0) else
  match AL.get k.held i.seq with
  | some o => if o = i then (k, 0) else (k, 120)
  | none => if 512 < i.seq - k.cut then (k, 5) else
    let k' : Snk := ⟨k.cut, k.done, AL.put k.held i.seq i⟩
    (adv k' (lastMark k'.held k.cut (k'.next - k.cut - 1) - k.cut), 0)
end Go.Proofs.Ytiilondhppipnaa.MI
