/- The disk as plain data: what was synced, what waits, when the power goes. Conditions: none. -/
namespace Go.Proofs.Ytenijbngmdaakaa.DM

abbrev Sec := List UInt8

structure Dk where
  safe : List Sec
  waits : List (Nat × Sec)
  left : Option Nat
  down : Bool

def puts (s : List Sec) (l : List (Nat × Sec)) : List Sec := l.foldl (fun s p => s.set p.1 p.2) s
def now (d : Dk) : List Sec := puts d.safe d.waits
def blank : Sec := List.replicate 32 0
def new (n : Nat) : Dk := { safe := List.replicate n blank, waits := [], left := none, down := false }
def act (d : Dk) : Bool × Dk :=
  if d.down then (false, d) else
  match d.left with
  | some 0 => (false, { d with down := true })
  | some (k + 1) => (true, { d with left := some k })
  | none => (true, d)
def write (d : Dk) (at_ : Int) (b : Sec) : Int × Dk :=
  if d.down then (6, d) else
  if at_ < 0 ∨ (d.safe.length : Int) ≤ at_ ∨ b.length ≠ 32 then (30, d) else
  if (act d).1 then (0, { (act d).2 with waits := (act d).2.waits ++ [(at_.toNat, b)] }) else (6, (act d).2)
def sync (d : Dk) : Int × Dk :=
  if (act d).1 then (0, { (act d).2 with safe := now (act d).2, waits := [] }) else (6, (act d).2)
def read (d : Dk) (at_ : Int) : Sec × Int :=
  if d.down then ([], 6) else
  if at_ < 0 ∨ (d.safe.length : Int) ≤ at_ then ([], 30) else ((now d).getD at_.toNat [], 0)
def arm (d : Dk) (n : Int) : Dk := { d with left := if n < 0 then none else some n.toNat }
def clamp (k : Int) : Nat := min k.toNat 32
def torn (s : List Sec) (p : Nat × Sec) (k : Int) : List Sec := s.set p.1 (p.2.take (clamp k) ++ (s.getD p.1 []).drop (clamp k))
def tear (s : List Sec) : List (Nat × Sec) → List Int → List Sec
  | p :: l, k :: ks => tear (torn s p k) l ks
  | _, _ => s
def crash (d : Dk) (keep : List Int) : Dk := { safe := tear d.safe d.waits keep, waits := [], left := none, down := false }

/-- All sectors have 32 bytes; what waits has a place. -/
structure Ok (d : Dk) : Prop where
  safe : ∀ s ∈ d.safe, s.length = 32
  waits : ∀ p ∈ d.waits, p.1 < d.safe.length ∧ p.2.length = 32
  pos : 0 < d.safe.length
  few : d.safe.length ≤ 2048
  left : ∀ k, d.left = some k → k < 9223372036854775808

theorem puts_length (l : List (Nat × Sec)) : ∀ s, (puts s l).length = s.length := by
  induction l with
  | nil => intro s; rfl
  | cons p l ih => intro s; simp only [puts, List.foldl_cons] at *; rw [ih]; simp
theorem now_length (d : Dk) : (now d).length = d.safe.length := puts_length _ _
theorem mem_set {s : List Sec} {i : Nat} {x y : Sec} (h : y ∈ s.set i x) : y ∈ s ∨ y = x := List.mem_or_eq_of_mem_set h
theorem puts_len32 : ∀ (l : List (Nat × Sec)) (s : List Sec), (∀ x ∈ s, x.length = 32) → (∀ p ∈ l, p.2.length = 32) → ∀ x ∈ puts s l, x.length = 32
  | [], _, hs, _ => hs
  | p :: l, s, hs, hl => puts_len32 l (s.set p.1 p.2) (fun x hx => (mem_set hx).elim (hs x) (fun e => e ▸ hl p (by simp))) (fun q hq => hl q (by simp [hq]))
theorem Ok.now {d : Dk} (h : Ok d) : ∀ s ∈ now d, s.length = 32 := puts_len32 _ _ h.safe fun p hp => (h.waits p hp).2
theorem puts_append (s : List Sec) (l m : List (Nat × Sec)) : puts s (l ++ m) = puts (puts s l) m := by simp [puts, List.foldl_append]

theorem act_safe (d : Dk) : (act d).2.safe = d.safe := by unfold act; split; rfl; split <;> rfl
theorem act_waits (d : Dk) : (act d).2.waits = d.waits := by unfold act; split; rfl; split <;> rfl
theorem Ok.act {d : Dk} (h : Ok d) : Ok (act d).2 := by
  refine ⟨by rw [act_safe]; exact h.safe, by rw [act_safe, act_waits]; exact h.waits, by rw [act_safe]; exact h.pos, by rw [act_safe]; exact h.few, ?_⟩
  intro k hk
  have hl := h.left
  unfold DM.act at hk
  split at hk
  · exact hl k hk
  · split at hk
    · rename_i h0; exact hl k (by simpa using hk)
    · rename_i j h0
      have := hl _ h0
      simp at hk
      omega
    · exact hl k hk
theorem Ok.write {d : Dk} (h : Ok d) (at_ : Int) (b : Sec) : Ok (write d at_ b).2 := by
  unfold DM.write
  split
  · exact h
  · split
    · exact h
    · rename_i hb
      have ha := h.act
      split
      · refine ⟨ha.safe, fun p hp => ?_, ha.pos, ha.few, ha.left⟩
        rcases List.mem_append.1 hp with hp | hp
        · exact ha.waits p hp
        · simp at hp
          subst hp
          have := act_safe d
          refine ⟨?_, show b.length = 32 by omega⟩
          show _ < (DM.act d).2.safe.length
          rw [this]
          show at_.toNat < _
          omega
      · exact ha
theorem Ok.sync {d : Dk} (h : Ok d) : Ok (sync d).2 := by
  unfold DM.sync
  have ha := h.act
  split
  · refine ⟨ha.now, by simp, ?_, ?_, ha.left⟩
    · show 0 < (DM.now _).length
      rw [now_length]; exact ha.pos
    · show (DM.now _).length ≤ _
      rw [now_length]; exact ha.few
  · exact ha
theorem Ok.arm {d : Dk} (h : Ok d) (n : Int) (hn : n < 9223372036854775808) : Ok (arm d n) := by
  refine ⟨h.safe, h.waits, h.pos, h.few, fun k hk => ?_⟩
  simp only [DM.arm] at hk
  split at hk
  · cases hk
  · simp at hk; omega
theorem torn_length (s : List Sec) (p : Nat × Sec) (k : Int) : (torn s p k).length = s.length := by simp [torn]
theorem tear_length : ∀ (l : List (Nat × Sec)) (ks : List Int) (s : List Sec), (tear s l ks).length = s.length
  | [], ks, s => by simp [tear]
  | p :: l, [], s => by simp [tear]
  | p :: l, k :: ks, s => by rw [tear, tear_length l ks, torn_length]
theorem torn_len32 {s : List Sec} {p : Nat × Sec} {k : Int} (hs : ∀ x ∈ s, x.length = 32) (hp : p.2.length = 32) (hi : p.1 < s.length) : ∀ x ∈ torn s p k, x.length = 32 := by
  intro x hx
  rcases mem_set hx with h | h
  · exact hs x h
  · subst h
    have := hs _ (List.getElem_mem hi)
    simp [clamp, hp, hi, this]
    omega
theorem tear_len32 : ∀ (l : List (Nat × Sec)) (ks : List Int) (s : List Sec), (∀ x ∈ s, x.length = 32) → (∀ p ∈ l, p.1 < s.length ∧ p.2.length = 32) → ∀ x ∈ tear s l ks, x.length = 32
  | [], ks, s, hs, _ => by simpa [tear] using hs
  | p :: l, [], s, hs, _ => by simpa [tear] using hs
  | p :: l, k :: ks, s, hs, hl => by
    rw [tear]
    exact tear_len32 l ks _ (torn_len32 hs (hl p (by simp)).2 (hl p (by simp)).1) fun q hq => by rw [torn_length]; exact hl q (by simp [hq])
theorem Ok.crash {d : Dk} (h : Ok d) (keep : List Int) : Ok (crash d keep) := by
  refine ⟨tear_len32 _ _ _ h.safe h.waits, by simp [DM.crash], ?_, ?_, by simp [DM.crash]⟩
  · show 0 < (tear _ _ _).length
    rw [tear_length]; exact h.pos
  · show (tear _ _ _).length ≤ _
    rw [tear_length]; exact h.few
theorem Ok.new {n : Nat} (h0 : 0 < n) (h1 : n ≤ 2048) : Ok (new n) := by
  refine ⟨fun s hs => ?_, by simp [DM.new], by simpa [DM.new] using h0, by simpa [DM.new] using h1, by simp [DM.new]⟩
  simp [DM.new] at hs
  rw [hs.2]; rfl

theorem tear_snoc : ∀ (l : List (Nat × Sec)) (p : Nat × Sec) (ks : List Int) (s : List Sec),
    tear s (l ++ [p]) ks = match ks[l.length]? with | some k => torn (tear s l ks) p k | none => tear s l ks
  | [], p, [], s => by simp [tear]
  | [], p, k :: ks, s => by simp [tear]
  | q :: l, p, [], s => by simp [tear]
  | q :: l, p, k :: ks, s => by
    have ih := tear_snoc l p ks (torn s q k)
    simpa [tear] using ih
theorem tear_take (l : List (Nat × Sec)) (ks : List Int) (s : List Sec) (k : Nat) (hk : k < l.length) :
    tear s (l.take (k + 1)) ks = if h : k < ks.length then torn (tear s (l.take k) ks) l[k] ks[k] else tear s (l.take k) ks := by
  rw [List.take_succ_eq_append_getElem hk, tear_snoc]
  have hl : (l.take k).length = k := by rw [List.length_take]; omega
  rw [hl]
  split
  · rename_i x hx
    obtain ⟨hlt, rfl⟩ := List.getElem?_eq_some_iff.1 hx
    rw [dif_pos hlt]
  · rename_i hx
    rw [dif_neg (by simpa using hx)]
/-- The cells of sectors in one row. -/
theorem flat_set : ∀ (s : List Sec) (i : Nat) (b : Sec), (∀ x ∈ s, x.length = 32) → i < s.length → b.length = 32 → (s.set i b).flatten = s.flatten.take (i * 32) ++ (b ++ s.flatten.drop (i * 32 + 32))
  | [], i, b, _, hi, _ => by simp at hi
  | x :: s, 0, b, hs, _, hb => by
    have hx := hs x (by simp)
    simp only [List.set_cons_zero, List.flatten_cons, Nat.zero_mul, List.take_zero, List.nil_append, Nat.zero_add]
    rw [List.drop_append_of_le_length (by omega), List.drop_of_length_le (by omega), List.nil_append]
  | x :: s, i + 1, b, hs, hi, hb => by
    have hx := hs x (by simp)
    have ih := flat_set s i b (fun y hy => hs y (by simp [hy])) (by simpa using hi) hb
    simp only [List.set_cons_succ, List.flatten_cons, ih]
    have e1 : (i + 1) * 32 = x.length + i * 32 := by omega
    have e2 : (i + 1) * 32 + 32 = x.length + (i * 32 + 32) := by omega
    rw [e2, List.drop_length_add_append, e1, List.take_length_add_append]
    simp
theorem flat_length : ∀ (s : List Sec), (∀ x ∈ s, x.length = 32) → s.flatten.length = s.length * 32
  | [], _ => by simp
  | x :: s, hs => by
    have hx := hs x (by simp)
    have ih := flat_length s (fun y hy => hs y (by simp [hy]))
    simp only [List.flatten_cons, List.length_append, hx, ih, List.length_cons]
    omega
theorem flat_get : ∀ (s : List Sec) (i : Nat), (∀ x ∈ s, x.length = 32) → i < s.length → (s.flatten.drop (i * 32)).take 32 = s.getD i []
  | [], i, _, hi => by simp at hi
  | x :: s, 0, hs, _ => by
    have hx := hs x (by simp)
    simp [hx]
  | x :: s, i + 1, hs, hi => by
    have hx := hs x (by simp)
    have ih := flat_get s i (fun y hy => hs y (by simp [hy])) (by simpa using hi)
    have e1 : (i + 1) * 32 = x.length + i * 32 := by omega
    rw [List.flatten_cons, e1, List.drop_length_add_append]
    simpa using ih
theorem clamp_le (k : Int) : clamp k ≤ 32 := by unfold clamp; omega
theorem torn_flat (s : List Sec) (p : Nat × Sec) (z : Int) (hs : ∀ x ∈ s, x.length = 32) (hp : p.2.length = 32) (hi : p.1 < s.length) :
    (torn s p z).flatten = s.flatten.take (p.1 * 32) ++ (p.2.take (clamp z) ++ s.flatten.drop (p.1 * 32 + clamp z)) := by
  have hc := clamp_le z
  have hg := flat_get s p.1 hs hi
  have hgl : (s.getD p.1 []).length = 32 := by
    have := hs _ (List.getElem_mem hi)
    simpa [List.getD, List.getElem?_eq_getElem hi] using this
  have hd : s.flatten.drop (p.1 * 32) = s.getD p.1 [] ++ s.flatten.drop (p.1 * 32 + 32) := by
    rw [← hg, ← List.drop_drop]
    exact (List.take_append_drop 32 _).symm
  have h2 : s.flatten.drop (p.1 * 32 + clamp z) = (s.getD p.1 []).drop (clamp z) ++ s.flatten.drop (p.1 * 32 + 32) := by
    rw [← List.drop_drop, hd, List.drop_append_of_le_length (by omega)]
  unfold torn
  rw [flat_set _ _ _ hs hi (by rw [List.length_append, List.length_take, List.length_drop, hp, hgl]; omega), h2, List.append_assoc]
end Go.Proofs.Ytenijbngmdaakaa.DM
