/- Texts HeaM, HeaT, HeaU, HeaV, Canon, Held, HebR in one. Conditions: as each law names them. -/
import Derived.WalkKit
import Derived.Orders
/- Heal: the plain model: places, moves, a plan, a drop. Conditions: as each law names them. -/
namespace Go.Proofs.Ytmdonjadhkffiaa.HE

/-- A place; a move. -/
structure Pl where
  chunk : Int
  nodes : List Int
deriving DecidableEq, Inhabited
structure Mv where
  chunk : Int
  src : Int
  dst : Int
deriving DecidableEq, Inhabited

/-! ### may they be? -/
def rising (lo hi : Int) : List Int → Bool
  | [] => true
  | n :: l => decide (lo < n) && decide (n < hi) && rising n hi l
def formedFrom (last hi : Int) : List Pl → Bool
  | [] => true
  | p :: l => decide (last < p.chunk) && rising (-1) hi p.nodes && formedFrom p.chunk hi l
def formed (ps : List Pl) (hi : Int) : Bool := decide (ps.length ≤ 256) && formedFrom (-1) hi ps
def sitesOk (s : List Int) : Bool := decide (1 ≤ s.length ∧ s.length ≤ 12) && s.all fun x => decide (0 ≤ x ∧ x < 12)
def check (s : List Int) (ps : List Pl) : Nat := if sitesOk s then (if formed ps s.length then 0 else 160) else 2

/-! ### who is up, where it is live -/
def isUp (up : Nat) (n : Int) : Bool := up / 2 ^ n.toNat % 2 == 1
def site (s : List Int) (n : Int) : Int := s.getD n.toNat 0
def live (up : Nat) (l : List Int) : List Int := l.filter (isUp up)
def on (s lv : List Int) (n : Int) : Nat := lv.countP fun x => decide (site s x = site s n)
def loadOf (ps : List Pl) (n : Int) : Nat := ps.countP fun p => decide (n ∈ p.nodes)
def better (s : List Int) (up : Nat) (ps : List Pl) (l : List Int) (a b : Int) : Bool :=
  if on s (live up l) a = on s (live up l) b then (if loadOf ps a = loadOf ps b then decide (a < b) else decide (loadOf ps a < loadOf ps b)) else decide (on s (live up l) a < on s (live up l) b)
/-- The first one that none is better than. -/
def pickFrom (lt : Int → Int → Bool) : Option Int → List Int → Option Int
  | b, [] => b
  | none, x :: l => pickFrom lt (some x) l
  | some y, x :: l => pickFrom lt (some (if lt x y then x else y)) l
def nums (n : Nat) : List Int := (List.range n).map fun i : Nat => (i : Int)
def free (s : List Int) (up : Nat) (l : List Int) : List Int := (nums s.length).filter fun n => isUp up n && !decide (n ∈ l)
def target (s : List Int) (up : Nat) (ps : List Pl) (l : List Int) : Option Int := pickFrom (better s up ps l) none (free s up l)
def source (s lv : List Int) (t : Int) : Int := (lv.find? fun n => decide (site s n = site s t)).getD (lv.headD 0)
def withN (l : List Int) (n : Int) : List Int := l.filter (fun x => decide (x < n)) ++ n :: l.filter (fun x => decide (n < x))
def without (l : List Int) (n : Int) : List Int := l.filter fun x => decide (x ≠ n)
def setNodes (ps : List Pl) (i : Nat) (l : List Int) : List Pl := ps.set i ⟨(ps.getD i ⟨0, []⟩).chunk, l⟩
def nodesAt (ps : List Pl) (i : Nat) : List Int := (ps.getD i ⟨0, []⟩).nodes
def chunkAt (ps : List Pl) (i : Nat) : Int := (ps.getD i ⟨0, []⟩).chunk

/-! ### a plan; a drop -/
def planAt (s : List Int) (up copies : Nat) (i : Nat) : Nat → List Pl → List Mv × List Pl
  | 0, ps => ([], ps)
  | f + 1, ps =>
    if 0 < (live up (nodesAt ps i)).length ∧ (live up (nodesAt ps i)).length < copies then
      match target s up ps (nodesAt ps i) with
      | none => ([], ps)
      | some t => (⟨chunkAt ps i, source s (live up (nodesAt ps i)) t, t⟩ :: (planAt s up copies i f (setNodes ps i (withN (nodesAt ps i) t))).1, (planAt s up copies i f (setNodes ps i (withN (nodesAt ps i) t))).2)
    else ([], ps)
def planFrom (s : List Int) (up copies : Nat) : Nat → Nat → List Pl → List Mv × List Pl
  | _, 0, ps => ([], ps)
  | i, n + 1, ps => ((planAt s up copies i copies ps).1 ++ (planFrom s up copies (i + 1) n (planAt s up copies i copies ps).2).1, (planFrom s up copies (i + 1) n (planAt s up copies i copies ps).2).2)
def plan (s : List Int) (up copies : Nat) (ps : List Pl) : List Mv × List Pl := planFrom s up copies 0 ps.length ps

/-- The one that goes: the last one that none is worse than. -/
def worst (s : List Int) (up : Nat) (ps : List Pl) (l : List Int) : Option Int := pickFrom (fun x y => better s up ps l y x) none (live up l)
def dropAt (s : List Int) (up copies : Nat) (i : Nat) : Nat → List Pl → List Mv × List Pl
  | 0, ps => ([], ps)
  | f + 1, ps =>
    if copies < (live up (nodesAt ps i)).length then
      match worst s up ps (nodesAt ps i) with
      | none => ([], ps)
      | some t => (⟨chunkAt ps i, t, -1⟩ :: (dropAt s up copies i f (setNodes ps i (without (nodesAt ps i) t))).1, (dropAt s up copies i f (setNodes ps i (without (nodesAt ps i) t))).2)
    else ([], ps)
def dropFrom (s : List Int) (up copies : Nat) : Nat → Nat → List Pl → List Mv × List Pl
  | _, 0, ps => ([], ps)
  | i, n + 1, ps => ((dropAt s up copies i (nodesAt ps i).length ps).1 ++ (dropFrom s up copies (i + 1) n (dropAt s up copies i (nodesAt ps i).length ps).2).1, (dropFrom s up copies (i + 1) n (dropAt s up copies i (nodesAt ps i).length ps).2).2)
def drop (s : List Int) (up copies : Nat) (ps : List Pl) : List Mv × List Pl := dropFrom s up copies 0 ps.length ps

/-! ### places behind moves -/
def find (ps : List Pl) (c : Int) : Option Nat := ps.findIdx? fun p => decide (p.chunk = c)
def move1 (ps : List Pl) (m : Mv) : Option (List Pl) :=
  match find ps m.chunk with
  | none => none
  | some i =>
    if m.src < 0 ∨ m.dst < -1 ∨ 4611686018427387904 ≤ m.dst ∨ m.src ∉ nodesAt ps i ∨ m.dst ∈ nodesAt ps i then none
    else some (setNodes ps i (if m.dst = -1 then without (nodesAt ps i) m.src else withN (nodesAt ps i) m.dst))
def moveAll (ps : List Pl) : List Mv → Option (List Pl)
  | [] => some ps
  | m :: ms => (move1 ps m).bind fun ps' => moveAll ps' ms
def apply (ps : List Pl) (ms : List Mv) : Option (List Pl) := if formed ps 4611686018427387904 then moveAll ps ms else none
end Go.Proofs.Ytmdonjadhkffiaa.HE
/- Heal: plain laws of a plan and a drop. Conditions: as each law names them. -/
namespace Go.Proofs.Ytmdonjadhkffiaa.HE

/-- Nodes rise, below so many. -/
def Rise (n : Nat) (l : List Int) : Prop := l.Pairwise (· < ·) ∧ ∀ x ∈ l, 0 ≤ x ∧ x < n
def Wf (s : List Int) (ps : List Pl) : Prop := ∀ p ∈ ps, Rise s.length p.nodes
def Apart (ps : List Pl) : Prop := ps.Pairwise fun p q => p.chunk < q.chunk

theorem withN_perm {l : List Int} {t : Int} (h : t ∉ l) : (withN l t).Perm (t :: l) := by
  unfold withN
  have h1 : (l.filter (fun x => decide (x < t)) ++ l.filter (fun x => decide (t < x))).Perm l := by
    have h2 := List.filter_append_perm (fun x => decide (x < t)) l
    have h3 : l.filter (fun x => !decide (x < t)) = l.filter (fun x => decide (t < x)) := by
      apply List.filter_congr
      intro x hx
      have : x ≠ t := fun e => h (e ▸ hx)
      by_cases hlt : x < t
      · simp [hlt]; omega
      · simp [hlt]; omega
    rw [h3] at h2
    exact h2
  exact List.perm_middle.trans (h1.cons t)
theorem withN_rise {n : Nat} {l : List Int} {t : Int} (h : Rise n l) (h0 : 0 ≤ t) (h1 : t < n) : Rise n (withN l t) := by
  refine ⟨?_, fun x hx => ?_⟩
  · unfold withN
    refine List.pairwise_append.2 ⟨h.1.filter _, List.pairwise_cons.2 ⟨fun x hx => by simpa using (List.mem_filter.1 hx).2, h.1.filter _⟩, fun x hx y hy => ?_⟩
    have hxt : x < t := by simpa using (List.mem_filter.1 hx).2
    rcases List.mem_cons.1 hy with rfl | hy
    · exact hxt
    · have : t < y := by simpa using (List.mem_filter.1 hy).2
      omega
  · unfold withN at hx
    rcases List.mem_append.1 hx with hx | hx
    · exact h.2 x (List.mem_filter.1 hx).1
    · rcases List.mem_cons.1 hx with rfl | hx
      · exact ⟨h0, h1⟩
      · exact h.2 x (List.mem_filter.1 hx).1
theorem without_rise {n : Nat} {l : List Int} {t : Int} (h : Rise n l) : Rise n (without l t) :=
  ⟨h.1.filter _, fun x hx => h.2 x (List.mem_filter.1 hx).1⟩
theorem live_withN {up : Nat} {l : List Int} {t : Int} (h : t ∉ l) (hu : isUp up t = true) : (live up (withN l t)).length = (live up l).length + 1 := by
  have := ((withN_perm h).filter (isUp up)).length_eq
  unfold live
  rw [this, List.filter_cons, if_pos hu, List.length_cons]

/-! ### the pick -/
theorem pick_some {lt : Int → Int → Bool} (htr : ∀ x y z, lt x y = true → lt y z = true → lt x z = true) (htot : ∀ x y, lt x y = true ∨ x = y ∨ lt y x = true) :
    ∀ (l : List Int) (b : Int), ∃ x, pickFrom lt (some b) l = some x ∧ (x = b ∨ x ∈ l) ∧ (b ≠ x → lt x b = true) ∧ ∀ y ∈ l, y ≠ x → lt x y = true
  | [], b => ⟨b, rfl, .inl rfl, fun h => absurd rfl h, fun _ h => by cases h⟩
  | c :: l, b => by
    obtain ⟨x, h1, h2, h3, h4⟩ := pick_some htr htot l (if lt c b = true then c else b)
    refine ⟨x, by simpa [pickFrom] using h1, ?_, ?_, ?_⟩
    · rcases h2 with h2 | h2
      · rw [h2]; split
        · exact .inr (by simp)
        · exact .inl rfl
      · exact .inr (by simp [h2])
    · intro hb
      by_cases hc : lt c b = true
      · rw [if_pos hc] at h3
        by_cases hcx : c = x
        · rw [← hcx]; exact hc
        · exact htr _ _ _ (h3 hcx) hc
      · rw [if_neg hc] at h3
        exact h3 hb
    · intro y hy hyx
      rcases List.mem_cons.1 hy with rfl | hy
      · by_cases hc : lt y b = true
        · rw [if_pos hc] at h3; exact h3 hyx
        · rw [if_neg hc] at h3
          rcases htot y b with h | h | h
          · exact absurd h hc
          · rw [h] at hyx ⊢; exact h3 hyx
          · by_cases hbx : b = x
            · rw [← hbx]; exact h
            · exact htr _ _ _ (h3 hbx) h
      · exact h4 y hy hyx
theorem pick_spec {lt : Int → Int → Bool} (htr : ∀ x y z, lt x y = true → lt y z = true → lt x z = true) (htot : ∀ x y, lt x y = true ∨ x = y ∨ lt y x = true) (l : List Int) :
    (pickFrom lt none l = none ∧ l = []) ∨ ∃ x, pickFrom lt none l = some x ∧ x ∈ l ∧ ∀ y ∈ l, y ≠ x → lt x y = true := by
  cases l with
  | nil => exact .inl ⟨rfl, rfl⟩
  | cons c l =>
    obtain ⟨x, h1, h2, h3, h4⟩ := pick_some htr htot l c
    refine .inr ⟨x, h1, ?_, fun y hy hyx => ?_⟩
    · rcases h2 with h2 | h2
      · simp [h2]
      · simp [h2]
    · rcases List.mem_cons.1 hy with rfl | hy
      · exact h3 hyx
      · exact h4 y hy hyx
theorem better_iff {s : List Int} {up : Nat} {ps : List Pl} {l : List Int} {a b : Int} : better s up ps l a b = true ↔
    on s (live up l) a < on s (live up l) b ∨ (on s (live up l) a = on s (live up l) b ∧ (loadOf ps a < loadOf ps b ∨ (loadOf ps a = loadOf ps b ∧ a < b))) := by
  unfold better
  by_cases h1 : on s (live up l) a = on s (live up l) b
  · rw [if_pos h1]
    by_cases h2 : loadOf ps a = loadOf ps b
    · rw [if_pos h2]; simp; omega
    · rw [if_neg h2]; simp; omega
  · rw [if_neg h1]; simp; omega
theorem better_trans {s : List Int} {up : Nat} {ps : List Pl} {l : List Int} (x y z : Int) : better s up ps l x y = true → better s up ps l y z = true → better s up ps l x z = true := by
  rw [better_iff, better_iff, better_iff]; omega
theorem better_tot {s : List Int} {up : Nat} {ps : List Pl} {l : List Int} (x y : Int) : better s up ps l x y = true ∨ x = y ∨ better s up ps l y x = true := by
  rw [better_iff, better_iff]; omega
theorem mem_free {s : List Int} {up : Nat} {l : List Int} {n : Int} : n ∈ free s up l ↔ (0 ≤ n ∧ n < s.length) ∧ isUp up n = true ∧ n ∉ l := by
  unfold free nums
  rw [List.mem_filter, List.mem_map]
  constructor
  · rintro ⟨⟨i, hi, rfl⟩, h⟩
    have := List.mem_range.1 hi
    simp only [Bool.and_eq_true, Bool.not_eq_true', decide_eq_false_iff_not] at h
    exact ⟨by omega, h.1, h.2⟩
  · rintro ⟨⟨h0, h1⟩, h2, h3⟩
    exact ⟨⟨n.toNat, List.mem_range.2 (by omega), by omega⟩, by simp [h2, h3]⟩
/-- The target. -/
theorem target_spec (s : List Int) (up : Nat) (ps : List Pl) (l : List Int) :
    (target s up ps l = none ∧ ∀ n : Int, 0 ≤ n → n < s.length → isUp up n = true → n ∈ l) ∨
    ∃ t, target s up ps l = some t ∧ (0 ≤ t ∧ t < s.length) ∧ isUp up t = true ∧ t ∉ l ∧ ∀ n, n ∈ free s up l → n ≠ t → better s up ps l t n = true := by
  unfold target
  rcases pick_spec (better_trans (s := s) (up := up) (ps := ps) (l := l)) better_tot (free s up l) with ⟨h1, h2⟩ | ⟨x, h1, h2, h3⟩
  · refine .inl ⟨h1, fun n h4 h5 h6 => ?_⟩
    by_cases hn : n ∈ l
    · exact hn
    · have := mem_free.2 ⟨⟨h4, h5⟩, h6, hn⟩
      rw [h2] at this
      cases this
  · obtain ⟨h4, h5, h6⟩ := mem_free.1 h2
    exact .inr ⟨x, h1, h4, h5, h6, h3⟩

/-! ### places set -/
theorem set_len (ps : List Pl) (i : Nat) (l : List Int) : (setNodes ps i l).length = ps.length := by simp [setNodes]
theorem nodesAt_set {ps : List Pl} {i : Nat} (hi : i < ps.length) (l : List Int) : nodesAt (setNodes ps i l) i = l := by simp [nodesAt, setNodes, hi]
theorem chunkAt_set {ps : List Pl} {i : Nat} (j : Nat) (l : List Int) : chunkAt (setNodes ps i l) j = chunkAt ps j := by
  unfold chunkAt setNodes
  by_cases hij : i = j
  · subst hij
    by_cases hi : i < ps.length
    · simp [hi]
    · simp [hi]
  · simp [hij]
theorem nodesAt_other {ps : List Pl} {i j : Nat} (hij : j ≠ i) (l : List Int) : nodesAt (setNodes ps i l) j = nodesAt ps j := by
  simp [nodesAt, setNodes, Ne.symm hij]
theorem Wf.at {s : List Int} {ps : List Pl} (h : Wf s ps) (i : Nat) : Rise s.length (nodesAt ps i) := by
  unfold nodesAt
  by_cases hi : i < ps.length
  · have : ps.getD i ⟨0, []⟩ = ps[i] := by simp [hi]
    rw [this]
    exact h _ (List.getElem_mem hi)
  · have : ps.getD i ⟨0, []⟩ = ⟨0, []⟩ := by simp [Nat.le_of_not_lt hi]
    rw [this]
    exact ⟨List.Pairwise.nil, fun _ h => by cases h⟩
theorem Wf.set {s : List Int} {ps : List Pl} (h : Wf s ps) (i : Nat) {l : List Int} (hl : Rise s.length l) : Wf s (setNodes ps i l) := by
  intro p hp
  rcases List.mem_or_eq_of_mem_set hp with hp | rfl
  · exact h p hp
  · exact hl
theorem set_chunks (ps : List Pl) (i : Nat) (l : List Int) : (setNodes ps i l).map (·.chunk) = ps.map (·.chunk) := by
  unfold setNodes
  rw [List.map_set]
  simp only
  apply List.ext_getElem?
  intro j
  rw [List.getElem?_set]
  split
  · rename_i hij
    subst hij
    by_cases hi : i < ps.length
    · simp [hi]
    · simp [hi]
  · rfl

/-! ### the moves of a plan, one by one -/
inductive PSteps (s : List Int) (up copies : Nat) : List Pl → List Mv → List Pl → Prop
  | nil (ps : List Pl) : PSteps s up copies ps [] ps
  | cons {ps ps' : List Pl} {ms : List Mv} {i : Nat} {t : Int} (hi : i < ps.length) (h0 : 0 < (live up (nodesAt ps i)).length) (h1 : (live up (nodesAt ps i)).length < copies) (ht : target s up ps (nodesAt ps i) = some t)
      (h : PSteps s up copies (setNodes ps i (withN (nodesAt ps i) t)) ms ps') : PSteps s up copies ps (⟨chunkAt ps i, source s (live up (nodesAt ps i)) t, t⟩ :: ms) ps'
theorem PSteps.trans {s : List Int} {up copies : Nat} {a b c : List Pl} {m n : List Mv} (h : PSteps s up copies a m b) (k : PSteps s up copies b n c) : PSteps s up copies a (m ++ n) c := by
  induction h with
  | nil => exact k
  | cons hi h0 h1 ht _ ih => exact .cons hi h0 h1 ht (ih k)
theorem planAt_steps (s : List Int) (up copies : Nat) (i : Nat) : ∀ (f : Nat) (ps : List Pl), i < ps.length → PSteps s up copies ps (planAt s up copies i f ps).1 (planAt s up copies i f ps).2
  | 0, ps, _ => .nil ps
  | f + 1, ps, hi => by
    unfold planAt
    split
    · rename_i h
      cases ht : target s up ps (nodesAt ps i) with
      | none => exact .nil ps
      | some t => exact .cons hi h.1 h.2 ht (planAt_steps s up copies i f _ (by rw [set_len]; exact hi))
    · exact .nil ps
theorem planAt_len (s : List Int) (up copies : Nat) (i : Nat) : ∀ (f : Nat) (ps : List Pl), (planAt s up copies i f ps).2.length = ps.length
  | 0, ps => rfl
  | f + 1, ps => by
    unfold planAt
    split
    · cases ht : target s up ps (nodesAt ps i) with
      | none => rfl
      | some t => simp only; rw [planAt_len s up copies i f, set_len]
    · rfl
theorem planFrom_steps (s : List Int) (up copies : Nat) : ∀ (n i : Nat) (ps : List Pl), i + n ≤ ps.length → PSteps s up copies ps (planFrom s up copies i n ps).1 (planFrom s up copies i n ps).2
  | 0, _, ps, _ => .nil ps
  | n + 1, i, ps, h => (planAt_steps s up copies i copies ps (by omega)).trans (planFrom_steps s up copies n (i + 1) _ (by rw [planAt_len]; omega))
theorem plan_steps (s : List Int) (up copies : Nat) (ps : List Pl) : PSteps s up copies ps (plan s up copies ps).1 (plan s up copies ps).2 := planFrom_steps s up copies _ 0 ps (by omega)
end Go.Proofs.Ytmdonjadhkffiaa.HE
/- Heal: what a plan comes to: plain. Conditions: as each law names them. -/
namespace Go.Proofs.Ytmdonjadhkffiaa.HE

theorem nums_nodup (n : Nat) : (nums n).Nodup := by
  unfold nums List.Nodup
  rw [List.pairwise_map]
  exact List.nodup_range.imp fun {a b} h => by omega
theorem mem_nums {n : Nat} {x : Int} : x ∈ nums n ↔ 0 ≤ x ∧ x < n := by
  unfold nums
  rw [List.mem_map]
  constructor
  · rintro ⟨i, hi, rfl⟩
    have := List.mem_range.1 hi
    omega
  · intro h
    exact ⟨x.toNat, List.mem_range.2 (by omega), by omega⟩
theorem Rise.nodup {n : Nat} {l : List Int} (h : Rise n l) : l.Nodup := h.1.imp fun {a b} h => by omega
theorem Rise.perm {n : Nat} {l : List Int} (h : Rise n l) : l.Perm ((nums n).filter fun x => decide (x ∈ l)) := by
  rw [List.perm_ext_iff_of_nodup h.nodup ((nums_nodup n).filter _)]
  intro x
  rw [List.mem_filter, mem_nums]
  constructor
  · intro hx
    exact ⟨h.2 x hx, by simpa using hx⟩
  · intro hx
    simpa using hx.2
def all (s : List Int) (up : Nat) : Nat := (live up (nums s.length)).length
theorem live_len {n : Nat} {l : List Int} (h : Rise n l) (up : Nat) : (live up l).length = ((nums n).filter fun x => isUp up x && decide (x ∈ l)).length := by
  unfold live
  rw [(h.perm.filter (isUp up)).length_eq, List.filter_filter]
theorem live_le {s l : List Int} (h : Rise s.length l) (up : Nat) : (live up l).length ≤ all s up := by
  rw [live_len h]
  unfold all live
  have : ∀ m : List Int, (m.filter fun x => isUp up x && decide (x ∈ l)).length ≤ (m.filter (isUp up)).length := by
    intro m
    induction m with
    | nil => simp
    | cons x m ih =>
      rw [List.filter_cons, List.filter_cons]
      by_cases h1 : isUp up x = true
      · by_cases h2 : x ∈ l
        · rw [if_pos (by simp [h1, h2]), if_pos h1]; simp; exact ih
        · rw [if_neg (by simp [h2]), if_pos h1]; simp; omega
      · rw [if_neg (by simp [h1]), if_neg h1]; exact ih
  exact this _
theorem live_full {s l : List Int} (h : Rise s.length l) {up : Nat} (ha : ∀ n : Int, 0 ≤ n → n < s.length → isUp up n = true → n ∈ l) : (live up l).length = all s up := by
  rw [live_len h]
  unfold all live
  congr 1
  apply List.filter_congr
  intro x hx
  have h1 := mem_nums.1 hx
  by_cases hu : isUp up x = true
  · simp [hu, ha x h1.1 h1.2 hu]
  · simp [hu]

structure PlanAt (s : List Int) (up copies i : Nat) (ps : List Pl) (ms : List Mv) (ps' : List Pl) : Prop where
  len : ps'.length = ps.length
  wf : Wf s ps'
  other : ∀ j, j ≠ i → nodesAt ps' j = nodesAt ps j
  chunks : ps'.map (·.chunk) = ps.map (·.chunk)
  count : (live up (nodesAt ps' i)).length = if (live up (nodesAt ps i)).length = 0 then 0 else max (live up (nodesAt ps i)).length (min copies (all s up))
  moves : ms.length + (live up (nodesAt ps i)).length = (live up (nodesAt ps' i)).length

theorem planAt_done (s : List Int) (up copies i : Nat) : ∀ (f : Nat) (ps : List Pl), Wf s ps → i < ps.length → copies ≤ f + (live up (nodesAt ps i)).length → PlanAt s up copies i ps (planAt s up copies i f ps).1 (planAt s up copies i f ps).2
  | 0, ps, hw, hi, hf => by
    have hle := live_le (hw.at i) up
    refine ⟨rfl, hw, fun _ _ => rfl, rfl, ?_, by simp [planAt]⟩
    show (live up (nodesAt ps i)).length = _
    split
    · assumption
    · omega
  | f + 1, ps, hw, hi, hf => by
    have hle := live_le (hw.at i) up
    unfold planAt
    split
    · rename_i hc
      rcases target_spec s up ps (nodesAt ps i) with ⟨ht, ha⟩ | ⟨t, ht, hr, hu, hn, -⟩
      · rw [ht]
        have hfl := live_full (hw.at i) ha
        refine ⟨rfl, hw, fun _ _ => rfl, rfl, ?_, by simp⟩
        simp only
        rw [if_neg (by omega)]
        omega
      · rw [ht]
        simp only
        have hl := live_withN hn hu
        have hn1 := nodesAt_set hi (withN (nodesAt ps i) t)
        have ih := planAt_done s up copies i f (setNodes ps i (withN (nodesAt ps i) t)) (hw.set i (withN_rise (hw.at i) hr.1 hr.2)) (by rw [set_len]; exact hi) (by rw [hn1, hl]; omega)
        obtain ⟨g1, g2, g3, g4, g5, g6⟩ := ih
        rw [hn1, hl] at g5 g6
        refine ⟨by rw [g1, set_len], g2, fun j hj => by rw [g3 j hj, nodesAt_other hj], by rw [g4, set_chunks], ?_, by simp only [List.length_cons]; omega⟩
        rw [g5, if_neg (by omega), if_neg (by omega)]
        have hle2 := live_le (withN_rise (hw.at i) hr.1 hr.2) up
        rw [hl] at hle2
        omega
    · rename_i hc
      refine ⟨rfl, hw, fun _ _ => rfl, rfl, ?_, by simp⟩
      simp only
      split
      · assumption
      · omega

/-- How many a place wants. -/
def want (s : List Int) (up copies : Nat) (l : List Int) : Nat := if (live up l).length = 0 then 0 else max (live up l).length (min copies (all s up))
theorem want_ge (s : List Int) (up copies : Nat) {l : List Int} : (live up l).length ≤ want s up copies l := by unfold want; split <;> omega

structure PlanTo (s : List Int) (up copies : Nat) (i n : Nat) (ps : List Pl) (ms : List Mv) (ps' : List Pl) : Prop where
  len : ps'.length = ps.length
  wf : Wf s ps'
  other : ∀ j, j < i ∨ i + n ≤ j → nodesAt ps' j = nodesAt ps j
  chunks : ps'.map (·.chunk) = ps.map (·.chunk)
  count : ∀ j, i ≤ j → j < i + n → (live up (nodesAt ps' j)).length = want s up copies (nodesAt ps j)
  moves : ms.length = ((List.range' i n).map fun j => want s up copies (nodesAt ps j) - (live up (nodesAt ps j)).length).sum
theorem planFrom_done (s : List Int) (up copies : Nat) : ∀ (n i : Nat) (ps : List Pl), Wf s ps → i + n ≤ ps.length → PlanTo s up copies i n ps (planFrom s up copies i n ps).1 (planFrom s up copies i n ps).2
  | 0, i, ps, hw, hi => ⟨rfl, hw, fun _ _ => rfl, rfl, fun j h1 h2 => by omega, by simp [planFrom]⟩
  | n + 1, i, ps, hw, hi => by
    have h1 := planAt_done s up copies i copies ps hw (by omega) (by omega)
    obtain ⟨ms1, hms1⟩ : ∃ x, x = (planAt s up copies i copies ps).1 := ⟨_, rfl⟩
    obtain ⟨ps1, hps1⟩ : ∃ x, x = (planAt s up copies i copies ps).2 := ⟨_, rfl⟩
    have h2 := planFrom_done s up copies n (i + 1) ps1 (by rw [hps1]; exact h1.wf) (by rw [hps1, h1.len]; omega)
    have e1 : (planFrom s up copies i (n + 1) ps).1 = ms1 ++ (planFrom s up copies (i + 1) n ps1).1 := by rw [hms1, hps1]; rfl
    have e2 : (planFrom s up copies i (n + 1) ps).2 = (planFrom s up copies (i + 1) n ps1).2 := by rw [hps1]; rfl
    rw [← hms1, ← hps1] at h1
    rw [e1, e2]
    refine ⟨by rw [h2.len, h1.len], h2.wf, fun j hj => ?_, by rw [h2.chunks, h1.chunks], fun j hj1 hj2 => ?_, ?_⟩
    · rw [h2.other j (by omega), h1.other j (by omega)]
    · by_cases hji : j = i
      · subst hji
        rw [h2.other j (by omega), h1.count]
        rfl
      · rw [h2.count j (by omega) (by omega), h1.other j hji]
    · rw [List.length_append, List.range'_succ, List.map_cons, List.sum_cons, h2.moves]
      have hm := h1.moves
      rw [h1.count] at hm
      have e3 : (List.range' (i + 1) n).map (fun j => want s up copies (nodesAt ps1 j) - (live up (nodesAt ps1 j)).length) = (List.range' (i + 1) n).map (fun j => want s up copies (nodesAt ps j) - (live up (nodesAt ps j)).length) := by
        apply List.map_congr_left
        intro j hj
        have := List.mem_range'_1.1 hj
        rw [h1.other j (by omega)]
      rw [e3]
      have e4 : ms1.length = want s up copies (nodesAt ps i) - (live up (nodesAt ps i)).length := by unfold want; omega
      omega
end Go.Proofs.Ytmdonjadhkffiaa.HE
/- Heal: moves applied; what a drop comes to: plain. Conditions: as each law names them. -/
namespace Go.Proofs.Ytmdonjadhkffiaa.HE

def Chunks (ps : List Pl) : Prop := (ps.map (·.chunk)).Pairwise (· < ·)
theorem chunk_get {ps : List Pl} {i : Nat} (hi : i < ps.length) : chunkAt ps i = ps[i].chunk := by simp [chunkAt, hi]
theorem find_at {ps : List Pl} (h : Chunks ps) {i : Nat} (hi : i < ps.length) : find ps (chunkAt ps i) = some i := by
  unfold find
  rw [List.findIdx?_eq_some_iff_getElem]
  refine ⟨hi, by simp [chunk_get hi], fun j hj => ?_⟩
  have h1 := List.pairwise_iff_getElem.1 h j i (by simpa using (by omega : j < ps.length)) (by simpa using hi) hj
  simp only [List.getElem_map] at h1
  rw [chunk_get hi]
  simp
  omega
theorem move1_at {ps : List Pl} (h : Chunks ps) {i : Nat} (hi : i < ps.length) {a b : Int} (h1 : 0 ≤ a) (h2 : a ∈ nodesAt ps i) (h3 : -1 ≤ b) (h4 : b < 4611686018427387904) (h5 : b ∉ nodesAt ps i) :
    move1 ps ⟨chunkAt ps i, a, b⟩ = some (setNodes ps i (if b = -1 then without (nodesAt ps i) a else withN (nodesAt ps i) b)) := by
  unfold move1
  simp only
  rw [find_at h hi]
  simp only
  rw [if_neg]
  rintro (h | h | h | h | h)
  · omega
  · omega
  · omega
  · exact h h2
  · exact h5 h
theorem source_mem {s lv : List Int} (h : 0 < lv.length) (t : Int) : source s lv t ∈ lv := by
  unfold source
  cases hf : lv.find? fun n => decide (site s n = site s t) with
  | none =>
    cases lv with
    | nil => simp at h
    | cons x l => simp
  | some x => exact List.mem_of_find?_eq_some hf
theorem PSteps.apply {s : List Int} {up copies : Nat} {ps ps' : List Pl} {ms : List Mv} (h : PSteps s up copies ps ms ps') (hs : s.length ≤ 12) : Wf s ps → Chunks ps → moveAll ps ms = some ps' := by
  induction h with
  | nil => exact fun _ _ => rfl
  | @cons ps ps' ms i t hi h0 h1 ht _ ih =>
    intro hw hc
    have hsrc := source_mem (s := s) h0 t
    have hsm := (List.mem_filter.1 hsrc).1
    have hs0 := (hw.at i).2 _ hsm
    rcases target_spec s up ps (nodesAt ps i) with ⟨hn, _⟩ | ⟨t', ht', hr, hu, hn, -⟩
    · rw [hn] at ht; cases ht
    · rw [ht'] at ht
      cases ht
      unfold moveAll
      rw [move1_at hc hi hs0.1 hsm (by omega) (by omega) hn, Option.bind_some, if_neg (by omega)]
      exact ih (hw.set i (withN_rise (hw.at i) hr.1 hr.2)) (by unfold Chunks; rw [set_chunks]; exact hc)

/-! ### a drop -/
theorem better_anti {s : List Int} {up : Nat} {ps : List Pl} {l : List Int} : (∀ x y z, better s up ps l y x = true → better s up ps l z y = true → better s up ps l z x = true) :=
  fun x y z h1 h2 => better_trans z y x h2 h1
theorem worst_spec (s : List Int) (up : Nat) (ps : List Pl) (l : List Int) :
    (worst s up ps l = none ∧ live up l = []) ∨ ∃ t, worst s up ps l = some t ∧ t ∈ live up l ∧ ∀ n ∈ live up l, on s (live up l) n ≤ on s (live up l) t := by
  unfold worst
  rcases pick_spec (lt := fun x y => better s up ps l y x) (fun x y z h1 h2 => better_anti x y z h1 h2) (fun x y => (better_tot y x).imp id (fun h => h.imp Eq.symm id)) (live up l) with ⟨h1, h2⟩ | ⟨x, h1, h2, h3⟩
  · exact .inl ⟨h1, h2⟩
  · refine .inr ⟨x, h1, h2, fun n hn => ?_⟩
    by_cases hnx : n = x
    · rw [hnx]; exact Nat.le_refl _
    · have := better_iff.1 (h3 n hn hnx)
      omega
/-- On how many sites some nodes are that are up. -/
def spread (s : List Int) (up : Nat) (l : List Int) : Nat := ((nums 12).filter fun c => decide (c ∈ (live up l).map (site s))).length
theorem distinct_le {n : Nat} (L : List Int) : ((nums n).filter fun c => decide (c ∈ L)).length ≤ L.length := by
  have key : ∀ (a b : List Int), a.Nodup → (∀ x ∈ a, x ∈ b) → a.length ≤ b.length := by
    intro a
    induction a with
    | nil => intro b _ _; simp
    | cons x a ih =>
      intro b hn hs
      have hn' := List.nodup_cons.1 hn
      have hx := hs x (by simp)
      have h1 := ih (b.erase x) hn'.2 (fun y hy => (List.mem_erase_of_ne (fun e => hn'.1 (by rw [← e]; exact hy))).2 (hs y (by simp [hy])))
      rw [List.length_erase_of_mem hx] at h1
      have : 0 < b.length := List.length_pos_of_mem hx
      simp only [List.length_cons]
      omega
  exact key _ _ ((nums_nodup n).filter _) (fun x hx => by simpa using (List.mem_filter.1 hx).2)
theorem distinct_eq {n : Nat} {L : List Int} (hn : L.Nodup) (hr : ∀ x ∈ L, 0 ≤ x ∧ x < n) : ((nums n).filter fun c => decide (c ∈ L)).length = L.length := by
  refine List.Perm.length_eq ?_
  rw [List.perm_ext_iff_of_nodup ((nums_nodup n).filter _) hn]
  intro x
  rw [List.mem_filter, mem_nums]
  constructor
  · intro h; simpa using h.2
  · intro h; exact ⟨hr x h, by simpa using h⟩
theorem live_without {up : Nat} {l : List Int} {t : Int} (hl : l.Nodup) (ht : t ∈ live up l) : (live up (without l t)).Perm ((live up l).erase t) ∧ (live up (without l t)).length + 1 = (live up l).length := by
  have e : live up (without l t) = (live up l).erase t := by
    unfold live without
    rw [List.Nodup.erase_eq_filter (hl.filter _), List.filter_filter, List.filter_filter]
    congr 1
    funext x
    by_cases h1 : x = t <;> by_cases h2 : isUp up x = true <;> simp [h1, h2]
  refine ⟨by rw [e], ?_⟩
  rw [e, List.length_erase_of_mem ht]
  have := List.length_pos_of_mem ht
  omega
theorem sub_len : ∀ (a b : List Int), a.Nodup → (∀ x ∈ a, x ∈ b) → a.length ≤ b.length
  | [], b, _, _ => by simp
  | x :: a, b, hn, hs => by
    have hn' := List.nodup_cons.1 hn
    have hx := hs x (by simp)
    have h1 := sub_len a (b.erase x) hn'.2 (fun y hy => (List.mem_erase_of_ne (fun e => hn'.1 (by rw [← e]; exact hy))).2 (hs y (by simp [hy])))
    rw [List.length_erase_of_mem hx] at h1
    have : 0 < b.length := List.length_pos_of_mem hx
    simp only [List.length_cons]
    omega
theorem site_ok {s : List Int} (h : sitesOk s = true) (n : Int) : 0 ≤ site s n ∧ site s n < 12 := by
  unfold site
  by_cases hn : n.toNat < s.length
  · have e : s.getD n.toNat 0 = s[n.toNat] := by simp [hn]
    rw [e]
    unfold sitesOk at h
    simp only [Bool.and_eq_true, List.all_eq_true, decide_eq_true_eq] at h
    exact h.2 _ (List.getElem_mem hn)
  · have e : s.getD n.toNat 0 = 0 := by simp [Nat.le_of_not_lt hn]
    rw [e]
    omega
theorem mem_without {up : Nat} {l : List Int} {t x : Int} : x ∈ live up (without l t) ↔ x ∈ live up l ∧ x ≠ t := by
  unfold live without
  rw [List.mem_filter, List.mem_filter, List.mem_filter]
  simp
  constructor
  · rintro ⟨⟨h1, h2⟩, h3⟩; exact ⟨⟨h1, h3⟩, h2⟩
  · rintro ⟨⟨h1, h3⟩, h2⟩; exact ⟨⟨h1, h2⟩, h3⟩
theorem spread_without {s : List Int} (hs : sitesOk s = true) {up : Nat} {l : List Int} {t : Int} (hl : l.Nodup) (ht : t ∈ live up l) (hm : ∀ n ∈ live up l, on s (live up l) n ≤ on s (live up l) t) :
    spread s up (without l t) = min (spread s up l) ((live up l).length - 1) := by
  have hlv : (live up l).Nodup := hl.filter _
  have hl2 := (live_without hl ht).2
  have hle' : spread s up (without l t) ≤ (live up (without l t)).length := by
    unfold spread
    refine Nat.le_trans (distinct_le _) ?_
    rw [List.length_map]
    exact Nat.le_refl _
  by_cases hA : ∃ x ∈ live up l, x ≠ t ∧ site s x = site s t
  · obtain ⟨x, hx, hxt, hsx⟩ := hA
    have he : spread s up (without l t) = spread s up l := by
      unfold spread
      congr 1
      apply List.filter_congr
      intro c _
      congr 1
      simp only [List.mem_map, eq_iff_iff]
      constructor
      · rintro ⟨y, hy, rfl⟩
        exact ⟨y, (mem_without.1 hy).1, rfl⟩
      · rintro ⟨y, hy, rfl⟩
        by_cases hyt : y = t
        · exact ⟨x, mem_without.2 ⟨hx, hxt⟩, by rw [hsx, hyt]⟩
        · exact ⟨y, mem_without.2 ⟨hy, hyt⟩, rfl⟩
    omega
  · have hot : on s (live up l) t ≤ 1 := by
      unfold on
      rw [List.countP_eq_length_filter]
      have := sub_len ((live up l).filter fun x => decide (site s x = site s t)) [t] (hlv.filter _) (fun x hx => by
        obtain ⟨h1, h2⟩ := List.mem_filter.1 hx
        by_cases hxt : x = t
        · simp [hxt]
        · exact absurd ⟨x, h1, hxt, by simpa using h2⟩ hA)
      simpa using this
    have hinj : ((live up l).map (site s)).Nodup := by
      unfold List.Nodup
      rw [List.pairwise_map]
      rw [List.pairwise_iff_getElem]
      intro i j hi hj hij he
      have hne : (live up l)[i] ≠ (live up l)[j] := List.pairwise_iff_getElem.1 hlv i j hi hj hij
      have h1 := hm _ (List.getElem_mem hi)
      have h2 := sub_len [(live up l)[i], (live up l)[j]] ((live up l).filter fun x => decide (site s x = site s (live up l)[i])) (by simp [hne]) (fun x hx => by
        simp only [List.mem_cons, List.not_mem_nil, or_false] at hx
        rcases hx with rfl | rfl
        · exact List.mem_filter.2 ⟨List.getElem_mem hi, by simp⟩
        · exact List.mem_filter.2 ⟨List.getElem_mem hj, by simp [he]⟩)
      rw [← List.countP_eq_length_filter] at h2
      have h3 : 2 ≤ on s (live up l) (live up l)[i] := h2
      omega
    have hr : ∀ L : List Int, (∀ x ∈ L.map (site s), 0 ≤ x ∧ x < ((12 : Nat) : Int)) := fun L x hx => by
      obtain ⟨y, _, rfl⟩ := List.mem_map.1 hx
      exact site_ok hs y
    have e1 : spread s up l = (live up l).length := by
      unfold spread
      rw [distinct_eq hinj (hr _), List.length_map]
    have hinj2 : ((live up (without l t)).map (site s)).Nodup := by
      unfold List.Nodup at hinj ⊢
      rw [List.pairwise_map] at hinj ⊢
      have : (live up (without l t)).Sublist (live up l) := by
        unfold live without
        exact (List.filter_sublist (l := l)).filter _
      exact hinj.sublist this
    have e2 : spread s up (without l t) = (live up (without l t)).length := by
      unfold spread
      rw [distinct_eq hinj2 (hr _), List.length_map]
    omega

inductive DSteps (s : List Int) (up copies : Nat) : List Pl → List Mv → List Pl → Prop
  | nil (ps : List Pl) : DSteps s up copies ps [] ps
  | cons {ps ps' : List Pl} {ms : List Mv} {i : Nat} {t : Int} (hi : i < ps.length) (h1 : copies < (live up (nodesAt ps i)).length) (ht : worst s up ps (nodesAt ps i) = some t)
      (h : DSteps s up copies (setNodes ps i (without (nodesAt ps i) t)) ms ps') : DSteps s up copies ps (⟨chunkAt ps i, t, -1⟩ :: ms) ps'
theorem DSteps.trans {s : List Int} {up copies : Nat} {a b c : List Pl} {m n : List Mv} (h : DSteps s up copies a m b) (k : DSteps s up copies b n c) : DSteps s up copies a (m ++ n) c := by
  induction h with
  | nil => exact k
  | cons hi h1 ht _ ih => exact .cons hi h1 ht (ih k)
theorem dropAt_steps (s : List Int) (up copies : Nat) (i : Nat) : ∀ (f : Nat) (ps : List Pl), i < ps.length → DSteps s up copies ps (dropAt s up copies i f ps).1 (dropAt s up copies i f ps).2
  | 0, ps, _ => .nil ps
  | f + 1, ps, hi => by
    unfold dropAt
    split
    · rename_i h
      cases ht : worst s up ps (nodesAt ps i) with
      | none => exact .nil ps
      | some t => exact .cons hi h ht (dropAt_steps s up copies i f _ (by rw [set_len]; exact hi))
    · exact .nil ps
theorem DSteps.apply {s : List Int} {up copies : Nat} {ps ps' : List Pl} {ms : List Mv} (h : DSteps s up copies ps ms ps') : Wf s ps → Chunks ps → moveAll ps ms = some ps' := by
  induction h with
  | nil => exact fun _ _ => rfl
  | @cons ps ps' ms i t hi h1 ht _ ih =>
    intro hw hc
    rcases worst_spec s up ps (nodesAt ps i) with ⟨hn, _⟩ | ⟨t', ht', hm, -⟩
    · rw [hn] at ht; cases ht
    · rw [ht'] at ht
      cases ht
      have hsm := (List.mem_filter.1 hm).1
      have hs0 := (hw.at i).2 _ hsm
      unfold moveAll
      rw [move1_at hc hi hs0.1 hsm (by omega) (by omega) (fun hx => by have := (hw.at i).2 _ hx; omega), Option.bind_some, if_pos rfl]
      exact ih (hw.set i (without_rise (hw.at i))) (by unfold Chunks; rw [set_chunks]; exact hc)

structure DropAt (s : List Int) (up copies i : Nat) (ps : List Pl) (ps' : List Pl) : Prop where
  len : ps'.length = ps.length
  wf : Wf s ps'
  other : ∀ j, j ≠ i → nodesAt ps' j = nodesAt ps j
  chunks : ps'.map (·.chunk) = ps.map (·.chunk)
  count : (live up (nodesAt ps' i)).length = min (live up (nodesAt ps i)).length copies
  spread : spread s up (nodesAt ps' i) = min (spread s up (nodesAt ps i)) (live up (nodesAt ps' i)).length
theorem spread_le (s : List Int) (up : Nat) (l : List Int) : spread s up l ≤ (live up l).length := by
  unfold spread
  refine Nat.le_trans (distinct_le _) ?_
  rw [List.length_map]
  exact Nat.le_refl _
theorem dropAt_done {s : List Int} (hs : sitesOk s = true) (up copies i : Nat) : ∀ (f : Nat) (ps : List Pl), Wf s ps → i < ps.length → (live up (nodesAt ps i)).length ≤ f + copies → DropAt s up copies i ps (dropAt s up copies i f ps).2
  | 0, ps, hw, hi, hf => by
    have := spread_le s up (nodesAt ps i)
    exact ⟨rfl, hw, fun _ _ => rfl, rfl, by show (live up (nodesAt ps i)).length = _; omega, by show spread s up (nodesAt ps i) = min _ (live up (nodesAt ps i)).length; omega⟩
  | f + 1, ps, hw, hi, hf => by
    have hsl := spread_le s up (nodesAt ps i)
    unfold dropAt
    split
    · rename_i hc
      rcases worst_spec s up ps (nodesAt ps i) with ⟨ht, ha⟩ | ⟨t, ht, hm, hmax⟩
      · rw [ha] at hc; simp at hc
      · rw [ht]
        simp only
        have hn1 := nodesAt_set hi (without (nodesAt ps i) t)
        have hl := (live_without (hw.at i).nodup hm).2
        have hsp := spread_without hs (hw.at i).nodup hm hmax
        obtain ⟨g1, g2, g3, g4, g5, g6⟩ := dropAt_done hs up copies i f (setNodes ps i (without (nodesAt ps i) t)) (hw.set i (without_rise (hw.at i))) (by rw [set_len]; exact hi) (by rw [hn1]; omega)
        rw [hn1] at g5 g6
        refine ⟨by rw [g1, set_len], g2, fun j hj => by rw [g3 j hj, nodesAt_other hj], by rw [g4, set_chunks], by rw [g5]; omega, by rw [g6, hsp]; omega⟩
    · rename_i hc
      exact ⟨rfl, hw, fun _ _ => rfl, rfl, by show (live up (nodesAt ps i)).length = _; omega, by show spread s up (nodesAt ps i) = min _ (live up (nodesAt ps i)).length; omega⟩
end Go.Proofs.Ytmdonjadhkffiaa.HE
/- A region whose operations may be carried out in several orders is proved by one walk in the order of the text: operations that only compute, or only read, commute with the others. Conditions: the Bool check over the region. -/
namespace Go.Proofs.Ytmdonjadhkffiaa
open Go.RowKit

/-- The later world has all blocks of the elder one, unchanged. -/
structure Pre (w w' : World) : Prop where
  size : w.heap.size ≤ w'.heap.size
  block : ∀ k, k < w.heap.size → w'.heap[k]? = w.heap[k]?

theorem Pre.refl (w : World) : Pre w w := ⟨Nat.le_refl _, fun _ _ => rfl⟩
theorem Pre.trans {a b c : World} (h : Pre a b) (k : Pre b c) : Pre a c :=
  ⟨Nat.le_trans h.size k.size, fun i hi => (k.block i (Nat.lt_of_lt_of_le hi h.size)).trans (h.block i hi)⟩
theorem Pre.drew {a w : World} (h : Pre a w) : Pre a w.drew := ⟨h.size, h.block⟩
theorem Pre.alloc {a w : World} (h : Pre a w) (o : Obj) : Pre a (w.alloc o) :=
  h.trans ⟨by simp, fun k hk => Below.heap_alloc w o k hk⟩
theorem Pre.of_below {a w : World} (h : Below a.heap.size a w) : Pre a w := ⟨h.size, h.block⟩

/-! ### operations that only read -/
section
variable {P : Program}

def SemDead (P : Program) {α : Type} : Sem α → Prop
  | .pure _ => False
  | .halt _ => True
  | .program k => SemDead P (k P)
  | .mark _ k => SemDead P k
  | .choose _ k => ∀ n, SemDead P (k n)
  | .new _ k => ∀ n, SemDead P (k n)
  | .load _ _ k => ∀ v, SemDead P (k v)
  | .shape _ k => ∀ v, SemDead P (k v)
  | .frozen _ k => ∀ v, SemDead P (k v)
  | .getObj _ k => ∀ v, SemDead P (k v)
  | _ => False

def SemReads (P : Program) {α : Type} : Sem α → Prop
  | .pure _ => True
  | .halt _ => True
  | .program k => SemReads P (k P)
  | .mark _ k => SemReads P k
  | .load _ _ k => ∀ v, SemReads P (k v)
  | .getObj _ k => ∀ o, SemReads P (k o)
  | .shape _ k => SemDead P (k none) ∧ ∀ s, SemReads P (k (some s))
  | .choose _ k => ∀ n, SemDead P (k n)
  | .new _ k => ∀ n, SemDead P (k n)
  | _ => False

theorem SemDead.not_ok {α : Type} {m : Sem α} (h : SemDead P m) : ∀ (w : World) (v : α) (w' : World), m.run P w ≠ .ok v w' := by
  induction m with
  | pure a => exact h.elim
  | load md a k ih =>
    intro w v w' hr
    simp only [Sem.run] at hr
    split at hr
    · exact ih _ (h _) _ _ _ hr
    · split at hr
      · exact ih _ (h _) _ _ _ hr
      · cases hr
  | store => exact h.elim
  | new o k ih => intro w v w' hr; exact ih _ (h _) _ _ _ hr
  | shape r k ih => intro w v w' hr; exact ih _ (h _) _ _ _ hr
  | freeze => exact h.elim
  | frozen a k ih => intro w v w' hr; exact ih _ (h _) _ _ _ hr
  | getObj r k ih =>
    intro w v w' hr
    simp only [Sem.run] at hr
    split at hr
    · cases hr
    · exact ih _ (h _) _ _ _ hr
    · cases hr
  | setObj => exact h.elim
  | choose q k ih =>
    intro w v w' hr
    simp only [Sem.run] at hr
    split at hr
    · exact ih _ (h _) _ _ _ hr
    · exact ih _ (h _) _ _ _ hr
  | sys => exact h.elim
  | program k ih => intro w v w' hr; exact ih _ h _ _ _ hr
  | mark x k ih => intro w v w' hr; exact ih h _ _ _ hr
  | halt x => intro w v w' hr; simp [Sem.run] at hr

theorem heap_same {w w' : World} (hp : Pre w w') {k : Nat} {o : Obj} (h : w.heap[k]? = some o) : w'.heap[k]? = some o := by
  rw [hp.block k (Array.getElem?_eq_some_iff.1 h).1]; exact h

theorem cell_same {w w' : World} (hp : Pre w w') {a : Addr} {v : Value} (h : w.cell? a = some v) : w'.cell? a = some v := by
  unfold World.cell? at *
  cases hb : w.heap[a.block]? with
  | none => rw [hb] at h; cases h
  | some o => rw [heap_same hp hb]; rw [hb] at h; exact h

theorem seen_same {w w' : World} (hp : Pre w w') {at_ : Addr} {u : TypeId} {k : Addr} {atomic : Bool} {r}
    (h : w.seen P at_ u k atomic = .ok r) : w'.seen P at_ u k atomic = .ok r := by
  unfold World.seen at *
  cases hb : w.heap[at_.block]? with
  | none =>
    rw [hb] at h
    simp only [bind, Except.bind] at h
    repeat' split at h
    all_goals first | cases h | skip
    all_goals simp_all
  | some o => rw [heap_same hp hb]; rw [hb] at h; exact h

theorem farLoad_same {w w' : World} (hp : Pre w w') {a : Addr} {atomic : Bool} {r} (h : w.farLoad P a atomic = .ok r) : w'.farLoad P a atomic = .ok r := by
  unfold World.farLoad at *
  cases hb : w.heap[a.block]? with
  | none => rw [hb] at h; cases h
  | some o =>
    rw [heap_same hp hb]; rw [hb] at h
    cases o with
    | view at_ u =>
      simp only at h ⊢
      have key : ∀ r, w.viewLoad P at_ u a atomic = .ok r → w'.viewLoad P at_ u a atomic = .ok r := by
        intro r hr
        unfold World.viewLoad at *
        cases hs : w.seen P at_ u a atomic with
        | error e => rw [hs] at hr; simp [bind, Except.bind] at hr
        | ok x => rw [seen_same hp hs]; rw [hs] at hr; exact hr
      cases hv : w.viewLoad P at_ u a atomic with
      | error e => rw [hv] at h; cases h
      | ok x => rw [key x hv]; rw [hv] at h; exact h
    | _ => cases h

theorem cell_none_far {w w' : World} (hp : Pre w w') {a : Addr} {atomic : Bool} {r} (hc : w.cell? a = none) (h : w.farLoad P a atomic = .ok r) : w'.cell? a = none := by
  unfold World.farLoad at h
  cases hb : w.heap[a.block]? with
  | none => rw [hb] at h; cases h
  | some o =>
    unfold World.cell? at *
    rw [heap_same hp hb]; rw [hb] at hc; exact hc

theorem SemReads.later {α : Type} {m : Sem α} (h : SemReads P m) : ∀ (w : World) (v : α) (w1 : World), m.run P w = .ok v w1 → w1 = w ∧ ∀ w', Pre w w' → m.run P w' = .ok v w' := by
  induction m with
  | pure a => intro w v w1 hr; simp only [Sem.run, Result.ok.injEq] at hr; obtain ⟨rfl, rfl⟩ := hr; exact ⟨rfl, fun _ _ => rfl⟩
  | load md a k ih =>
    intro w v w1 hr
    simp only [Sem.run] at hr
    split at hr
    · rename_i u hu
      obtain ⟨e, h2⟩ := ih _ (h _) _ _ _ hr
      refine ⟨e, fun w' hp => ?_⟩
      simp only [Sem.run, cell_same hp hu]
      exact h2 w' hp
    · rename_i hu
      split at hr
      · rename_i u x hf
        obtain ⟨e, h2⟩ := ih _ (h _) _ _ _ hr
        refine ⟨e, fun w' hp => ?_⟩
        simp only [Sem.run, cell_none_far hp hu hf, farLoad_same hp hf]
        exact h2 w' hp
      · cases hr
  | store => exact h.elim
  | new o k ih => intro w v w' hr; exact (SemDead.not_ok (h _) _ _ _ hr).elim
  | shape r k ih =>
    intro w v w1 hr
    simp only [Sem.run] at hr
    cases hs : w.shape? r with
    | none => rw [hs] at hr; exact (SemDead.not_ok h.1 _ _ _ hr).elim
    | some s =>
      rw [hs] at hr
      obtain ⟨e, h2⟩ := ih _ (h.2 _) _ _ _ hr
      refine ⟨e, fun w' hp => ?_⟩
      have hs' : w'.shape? r = some s := by
        unfold World.shape? at *
        cases hb : w.heap[r]? with
        | none => rw [hb] at hs; cases hs
        | some o => rw [heap_same hp hb]; rw [hb] at hs; exact hs
      simp only [Sem.run, hs']
      exact h2 w' hp
  | freeze => exact h.elim
  | frozen a k ih => exact h.elim
  | getObj r k ih =>
    intro w v w1 hr
    simp only [Sem.run] at hr
    split at hr
    · cases hr
    · rename_i o hno ho
      obtain ⟨e, h2⟩ := ih _ (h _) _ _ _ hr
      refine ⟨e, fun w' hp => ?_⟩
      have ho' := heap_same hp ho
      simp only [Sem.run]
      rw [ho']
      split
      · rename_i c e' f heq; simp only [Option.some.injEq] at heq; exact (hno _ _ _ heq).elim
      · rename_i o2 _ heq; simp only [Option.some.injEq] at heq; subst heq; exact h2 w' hp
      · rename_i heq; cases heq
    · cases hr
  | setObj => exact h.elim
  | choose q k ih =>
    intro w v w1 hr
    simp only [Sem.run] at hr
    split at hr <;> exact (SemDead.not_ok (h _) _ _ _ hr).elim
  | sys => exact h.elim
  | program k ih => intro w v w1 hr; exact ih _ h _ _ _ hr
  | mark x k ih => intro w v w1 hr; exact ih h _ _ _ hr
  | halt x => intro w v w' hr; simp [Sem.run] at hr

theorem SemReads.bind {α β : Type} {m : Sem α} {f : α → Sem β} (h : SemReads P m) (hf : ∀ x, SemReads P (f x)) : SemReads P (m >>= f) := by
  show SemReads P (Sem.bind m f)
  have dead : ∀ {m : Sem α}, SemDead P m → SemDead P (Sem.bind m f) := by
    intro m hm
    induction m with
    | pure a => exact hm.elim
    | load md a k ih => exact fun v => ih _ (hm _)
    | store => exact hm.elim
    | new o k ih => exact fun v => ih _ (hm _)
    | shape r k ih => exact fun v => ih _ (hm _)
    | freeze => exact hm.elim
    | frozen a k ih => exact fun v => ih _ (hm _)
    | getObj r k ih => exact fun v => ih _ (hm _)
    | setObj => exact hm.elim
    | choose q k ih => exact fun v => ih _ (hm _)
    | sys => exact hm.elim
    | program k ih => exact ih _ hm
    | mark x k ih => exact ih hm
    | halt x => trivial
  induction m with
  | pure a => exact hf a
  | load md a k ih => exact fun v => ih _ (h _)
  | store => exact h.elim
  | new o k ih => exact fun v => dead (h _)
  | shape r k ih => exact ⟨dead h.1, fun v => ih _ (h.2 _)⟩
  | freeze => exact h.elim
  | frozen a k ih => exact h.elim
  | getObj r k ih => exact fun v => ih _ (h _)
  | setObj => exact h.elim
  | choose q k ih => exact fun v => dead (h _)
  | sys => exact h.elim
  | program k ih => exact ih _ h
  | mark x k ih => exact ih h
  | halt x => trivial

theorem reads_pure {α : Type} (x : α) : SemReads P (pure x : Sem α) := trivial
theorem reads_stuck {α : Type} (s : String) : SemReads P (stuck s : Sem α) := trivial
theorem reads_load (a : Addr) : SemReads P (load a) := fun _ => trivial

theorem reads_typeInfo (t : TypeId) : SemReads P (typeInfo t) := by
  unfold typeInfo
  refine SemReads.bind (m := program) trivial fun p => ?_
  split <;> trivial
theorem reads_underlying (t : TypeId) : SemReads P (underlying t) := by
  unfold underlying
  refine SemReads.bind (m := program) trivial fun p => ?_
  split <;> trivial
theorem reads_loadCellsFrom (a : Addr) : ∀ (n i : Nat) (_acc : Array Value), SemReads P (loadCellsFrom a i n _acc)
  | 0, _, _ => trivial
  | n + 1, i, _ => SemReads.bind (reads_load _) fun _ => reads_loadCellsFrom a n (i + 1) _
theorem reads_loadVar (t : TypeId) (a : Addr) : SemReads P (loadVar t a) := by
  unfold loadVar
  refine SemReads.bind (m := isAgg t) ?_ fun b => ?_
  · unfold isAgg
    refine SemReads.bind (reads_underlying t) fun d => ?_
    split <;> trivial
  · split
    · refine SemReads.bind (m := sizeOf t) ?_ fun n => ?_
      · exact SemReads.bind (reads_typeInfo t) fun _ => trivial
      · exact SemReads.bind (reads_loadCellsFrom a n 0 _) fun _ => trivial
    · exact reads_load a

theorem reads_loadAt (t : TypeId) (v : Value) : SemReads P (Instr.loadAt t v) := by
  unfold Instr.loadAt
  refine SemReads.bind (m := Instr.sureAddr v) ?_ fun a => reads_loadVar t a
  unfold Instr.sureAddr
  split <;> trivial

end

/-! ### the kinds -/

/-- 0: only computes; 1: only reads; 3: may make blocks, leaves all blocks as they were; 2: anything. 'fl': slots of calls that are of kind 3. -/
def kindOf (fl : List Tmp) (o : Oper) : Nat :=
  match o.op with
  | .move _ | .assign _ | .pick .. | .build .. | .fieldAddr .. | .field .. | .nilCheck _ | .binOp .. | .unOp .. | .indexAddr .. | .index .. | .slice .. | .extract .. => 0
  | .convert .. => match o.dst with | some d => if fl.contains d then 3 else 0 | none => 2
  | .load .. | .lookup .. => 1
  | .buildSlice .. | .box .. | .alloc .. | .makeSlice .. | .makeMap .. => 3
  | .call c =>
    match c.callee with
    | .builtin .len | .builtin .cap | .builtin .min | .builtin .max => 0
    | _ => match o.dst with | some d => if fl.contains d then 3 else 2 | none => 2
  | _ => match o.dst with | some d => if fl.contains d then 3 else 2 | none => 2

section
variable {P : Program} {ops : Array Oper} {fl : List Tmp}

def Still (P : Program) (k : Nat) (o : Oper) (a : Act) (w : World) (v : Value) : Prop :=
  ∀ w', (k = 1 → Pre w w') → (execOp a.eval o).run P w' = .ok (.value v) w'

def noQ : Exit → Act → World → Prop := fun _ _ _ => False

/-- One operation, then K. -/
def wpO (P : Program) (ops : Array Oper) (fl : List Tmp) (o : Oper) (K : Act → World → Prop) (a : Act) (w : World) : Prop :=
  if Region.wanted o (yielded ops a.tmps) = true then
    if kindOf fl o ≤ 1 then ∃ v, Still P (kindOf fl o) o a w v ∧ K (a.put o.dst v) w
    else o.wp P a w (fun a' w' => (kindOf fl o = 3 → Pre w w') ∧ K a' w') noQ
  else K (a.put o.dst undef) w

def wpC (P : Program) (ops : Array Oper) (fl : List Tmp) (Q : Exit → Act → World → Prop) : List Oper → Act → World → Prop
  | [], a, w => Q .normal a w
  | o :: rest, a, w => wpO P ops fl o (wpC P ops fl Q rest) a w

theorem wpO_mono {o : Oper} {K K' : Act → World → Prop} {a : Act} {w : World} (h : ∀ a w, K a w → K' a w) (hh : wpO P ops fl o K a w) : wpO P ops fl o K' a w := by
  unfold wpO at *
  split
  · rename_i h1
    rw [if_pos h1] at hh
    split
    · rename_i h2; rw [if_pos h2] at hh; obtain ⟨v, h3, h4⟩ := hh; exact ⟨v, h3, h _ _ h4⟩
    · rename_i h2; rw [if_neg h2] at hh; exact Oper.wp_mono (fun a w hk => ⟨hk.1, h _ _ hk.2⟩) hh
  · rename_i h1; rw [if_neg h1] at hh; exact h _ _ hh

theorem noQ_lets : ¬ LetsOut noQ := fun ⟨_, _, h⟩ => h

/-- What an operation leaves in the frame. -/
theorem wp_acts {o : Oper} {a : Act} {w : World} {K : Act → World → Prop} (p : Act → Prop) (hp : ∀ u, p (a.put o.dst u)) (hd : ∀ d u, p (({ a with defers := d :: a.defers } : Act).put o.dst u))
    (h : o.wp P a w K noQ) : o.wp P a w (fun a' w' => K a' w' ∧ p a') noQ := by
  unfold Oper.wp at *
  generalize (execOp a.eval o).run P w = r at *
  cases r with
  | ok n w' =>
    cases n <;> simp only [Oper.upon] at h ⊢
    case value v => exact ⟨h, hp _⟩
    case skip => exact ⟨h, hp _⟩
    case defer d => exact ⟨h, hd _ _⟩
    case enter f args =>
      refine Calls.mono h fun e w'' he => ?_
      cases e with
      | returned u => exact ⟨he, hp _⟩
      | panicked c => exact he
      | outgrown => exact he
    case row row args => exact Rows.mono h fun u w'' he => ⟨he, hp _⟩
  | halt x w' => cases x <;> simp only [Oper.upon] at h ⊢; case panic => exact h

theorem wp_ex {o : Oper} {a : Act} {w : World} {K : Act → World → Prop} (h : o.wp P a w K noQ) : ∃ a' w', K a' w' := by
  unfold Oper.wp at *
  generalize (execOp a.eval o).run P w = r at *
  cases r with
  | ok n w' =>
    cases n <;> simp only [Oper.upon] at h
    case value v => exact ⟨_, _, h⟩
    case skip => exact ⟨_, _, h⟩
    case defer d => exact ⟨_, _, h⟩
    case enter f args =>
      obtain ⟨e, w'', fr, he, _⟩ := h []
      cases e with
      | returned u => exact ⟨_, _, he⟩
      | panicked c => exact he.elim
      | outgrown => exact (noQ_lets he).elim
    case row row args =>
      obtain ⟨v, w'', he, _⟩ := h default []
      exact ⟨_, _, he⟩
  | halt x w' => cases x <;> simp only [Oper.upon] at h; case panic => exact h.elim

theorem wp_put {o : Oper} {d : Option Tmp} {v : Value} {a : Act} {w : World} {K : Act → World → Prop} (hs : ∀ cs b, o.op ≠ .select cs b)
    (h1 : ∀ t, d = some t → t ∉ o.looksAt ops) (h2 : ∀ t, d = some t → o.dst ≠ some t) :
    o.wp P (a.put d v) w K noQ ↔ o.wp P a w (fun a' w' => K (a'.put d v) w') noQ := by
  unfold Oper.wp
  rw [execOp_put (ops := ops) o hs a d v h1]
  generalize (execOp a.eval o).run P w = r
  cases r with
  | ok n w' =>
    cases n <;> simp only [Oper.upon]
    case value u => rw [Act.put_comm a v u h2]
    case skip => rw [Act.put_comm a v undef h2]
    case defer x => rw [Act.put_defers, Act.put_comm _ v undef h2]
    case enter f args =>
      constructor <;> refine fun h => Calls.mono h fun e w'' he => ?_
      all_goals
        cases e with
        | returned u =>
          have he' : K _ _ := he
          have e := Act.put_comm a v u h2
          first | exact (show K _ _ from e ▸ he') | exact (show K _ _ from e.symm ▸ he')
        | panicked c => exact he
        | outgrown => exact he
    case row row args =>
      constructor <;> refine fun h => Rows.mono h fun u w'' he => ?_
      · rw [← Act.put_comm a v u h2]; exact he
      · rw [Act.put_comm a v u h2]; exact he
  | halt x w' => cases x <;> simp only [Oper.upon]; case panic => exact Iff.rfl

/-- May 'o' (ahead in the text) and 'i' be carried out in either order? -/
def commKind (ko ki : Nat) : Bool :=
  match ko, ki with
  | 0, _ => true
  | 1, 0 | 1, 1 | 1, 3 => true
  | 2, 0 | 3, 0 => true
  | _, _ => false

theorem still_same {k : Nat} {o : Oper} {a a' : Act} {w w' : World} {v : Value} (h : Still P k o a w v) (he : execOp a'.eval o = execOp a.eval o) (hw : k = 1 → Pre w w') : Still P k o a' w' v :=
  fun w'' hp => by rw [he]; exact h w'' fun hk => (hw hk).trans (hp hk)

theorem still_det {k : Nat} {o : Oper} {a a' : Act} {w w' : World} {v v' : Value} (hk : k = 0) (h : Still P k o a w v) (h' : Still P k o a' w' v') (he : execOp a'.eval o = execOp a.eval o) : v' = v := by
  have h1 := h w (by omega)
  have h2 := h' w (by omega)
  rw [he, h1] at h2
  simpa using h2.symm

theorem kind_small (fl : List Tmp) (o : Oper) : kindOf fl o ≤ 3 := by
  unfold kindOf
  repeat' split
  all_goals decide

theorem comm_one : ∀ n, n ≤ 3 → ¬ n ≤ 1 → commKind 1 n = true → n = 3
  | 0, _, h, _ => absurd (by decide) h
  | 1, _, h, _ => absurd (by decide) h
  | 2, _, _, h => by simp [commKind] at h
  | 3, _, _, _ => rfl
  | n + 4, h, _, _ => by omega
theorem comm_two : ∀ m n, m ≤ 3 → ¬ m ≤ 1 → commKind m n = true → n = 0
  | 0, _, _, h, _ => absurd (by decide) h
  | 1, _, _, h, _ => absurd (by decide) h
  | 2, 0, _, _, _ => rfl
  | 3, 0, _, _, _ => rfl
  | 2, n + 1, _, _, h => by simp [commKind] at h
  | 3, n + 1, _, _, h => by simp [commKind] at h
  | m + 4, _, h, _, _ => by omega

theorem swap {o i : Oper} {K : Act → World → Prop} {a : Act} {w : World} (hap : o.apart ops i = true)
    (hso : ∀ cs b, o.op ≠ .select cs b) (hsi : ∀ cs b, i.op ≠ .select cs b) (hk : commKind (kindOf fl o) (kindOf fl i) = true)
    (h : wpO P ops fl o (wpO P ops fl i K) a w) : wpO P ops fl i (wpO P ops fl o K) a w := by
  obtain ⟨h1, h2, h3⟩ := Oper.apart_spec hap
  have h2' : ∀ d, i.dst = some d → o.dst ≠ some d := fun d hd hod => h2 d hod hd
  have wi : ∀ (b : Act) v, Region.wanted i (yielded ops (b.put o.dst v).tmps) = Region.wanted i (yielded ops b.tmps) := fun b v => wanted_put i b o.dst v h1
  have wo : ∀ (b : Act) v, Region.wanted o (yielded ops (b.put i.dst v).tmps) = Region.wanted o (yielded ops b.tmps) := fun b v => wanted_put o b i.dst v h3
  have ei : ∀ (b : Act) v, execOp (b.put o.dst v).eval i = execOp b.eval i := fun b v => execOp_put i hsi b o.dst v h1
  have eo : ∀ (b : Act) v, execOp (b.put i.dst v).eval o = execOp b.eval o := fun b v => execOp_put o hso b i.dst v h3
  have hko := kind_small fl o
  have hki := kind_small fl i
  have pc : ∀ (b : Act) u v, (b.put i.dst u).put o.dst v = (b.put o.dst v).put i.dst u := fun b u v => Act.put_comm b u v h2'
  unfold wpO at h ⊢
  by_cases hwo : Region.wanted o (yielded ops a.tmps) = true
  · rw [if_pos hwo] at h
    by_cases hwi : Region.wanted i (yielded ops a.tmps) = true
    · rw [if_pos hwi]
      by_cases hos : kindOf fl o ≤ 1
      · rw [if_pos hos] at h
        obtain ⟨v, hv, h⟩ := h
        rw [if_pos (by rw [wi]; exact hwi)] at h
        by_cases his : kindOf fl i ≤ 1
        · rw [if_pos his] at h ⊢
          obtain ⟨u, hu, h⟩ := h
          refine ⟨u, still_same hu (ei a v).symm fun _ => Pre.refl _, ?_⟩
          rw [if_pos (by rw [wo]; exact hwo), if_pos hos]
          exact ⟨v, still_same hv (eo a u) fun _ => Pre.refl _, by rw [pc]; exact h⟩
        · rw [if_neg his] at h ⊢
          rw [wp_put (ops := ops) hsi h1 h2] at h
          have h' := wp_acts (fun a' => execOp a'.eval o = execOp a.eval o ∧ Region.wanted o (yielded ops a'.tmps) = true) (fun u => ⟨eo a u, by rw [wo]; exact hwo⟩)
            (fun d u => ⟨eo _ u, by rw [wo]; exact hwo⟩) h
          refine Oper.wp_mono (fun a' w' hh => ?_) h'
          obtain ⟨⟨hp, hK⟩, he, hw'⟩ := hh
          refine ⟨hp, ?_⟩
          rw [if_pos hw', if_pos hos]
          refine ⟨v, still_same hv he fun hk1 => ?_, hK⟩
          refine hp ?_
          rw [hk1] at hk
          exact comm_one _ hki his hk
      · rw [if_neg hos] at h
        have hi0 : kindOf fl i = 0 := comm_two _ _ hko hos hk
        rw [if_pos (by omega : kindOf fl i ≤ 1)]
        have h' := wp_acts (fun a' => execOp a'.eval i = execOp a.eval i ∧ Region.wanted i (yielded ops a'.tmps) = true) (fun u => ⟨ei a u, by rw [wi]; exact hwi⟩)
            (fun d u => ⟨ei _ u, by rw [wi]; exact hwi⟩) h
        obtain ⟨a', w', ⟨hp, hh⟩, he, hw'⟩ := wp_ex h'
        rw [if_pos hw', if_pos (by omega : kindOf fl i ≤ 1)] at hh
        obtain ⟨u, hu, _⟩ := hh
        have hu' : Still P (kindOf fl i) i a w u := fun w2 _ => by rw [← he]; exact hu w2 (by omega)
        refine ⟨u, hu', ?_⟩
        rw [if_pos (by rw [wo]; exact hwo), if_neg hos, wp_put (ops := ops) hso h3 h2']
        refine Oper.wp_mono (fun a2 w2 hh2 => ?_) h'
        obtain ⟨⟨hp2, hh3⟩, he2, hw2⟩ := hh2
        rw [if_pos hw2, if_pos (by omega : kindOf fl i ≤ 1)] at hh3
        obtain ⟨u2, hu2, hK⟩ := hh3
        have : u2 = u := still_det hi0 hu' hu2 he2
        subst this
        exact ⟨hp2, hK⟩
    · rw [if_neg hwi]
      rw [wo, if_pos hwo]
      by_cases hos : kindOf fl o ≤ 1
      · rw [if_pos hos] at h ⊢
        obtain ⟨v, hv, h⟩ := h
        rw [if_neg (by rw [wi]; exact hwi)] at h
        exact ⟨v, still_same hv (eo a undef) fun _ => Pre.refl _, by rw [pc]; exact h⟩
      · rw [if_neg hos] at h ⊢
        rw [wp_put (ops := ops) hso h3 h2']
        have h' := wp_acts (fun a' => ¬ Region.wanted i (yielded ops a'.tmps) = true) (fun u => by rw [wi]; exact hwi)
            (fun d u => by rw [wi]; exact hwi) h
        refine Oper.wp_mono (fun a2 w2 hh2 => ?_) h'
        obtain ⟨⟨hp2, hh3⟩, hw2⟩ := hh2
        rw [if_neg hw2] at hh3
        exact ⟨hp2, hh3⟩
  · rw [if_neg hwo] at h
    rw [wi] at h
    by_cases hwi : Region.wanted i (yielded ops a.tmps) = true
    · rw [if_pos hwi] at h ⊢
      by_cases his : kindOf fl i ≤ 1
      · rw [if_pos his] at h ⊢
        obtain ⟨u, hu, h⟩ := h
        refine ⟨u, still_same hu (ei a undef).symm fun _ => Pre.refl _, ?_⟩
        rw [if_neg (by rw [wo]; exact hwo), pc]
        exact h
      · rw [if_neg his] at h ⊢
        rw [wp_put (ops := ops) hsi h1 h2] at h
        have h' := wp_acts (fun a' => ¬ Region.wanted o (yielded ops a'.tmps) = true) (fun u => by rw [wo]; exact hwo)
            (fun d u => by rw [wo]; exact hwo) h
        refine Oper.wp_mono (fun a2 w2 hh2 => ?_) h'
        obtain ⟨⟨hp2, hh3⟩, hw2⟩ := hh2
        rw [if_neg hw2]
        exact ⟨hp2, hh3⟩
    · rw [if_neg hwi] at h ⊢
      rw [if_neg (by rw [wo]; exact hwo), pc]
      exact h

theorem wpC_move {Q : Exit → Act → World → Prop} {i : Oper} (hsi : ∀ cs b, i.op ≠ .select cs b) : ∀ (pre post : List Oper) (a : Act) (w : World),
    (∀ o ∈ pre, o.apart ops i = true ∧ (∀ cs b, o.op ≠ .select cs b) ∧ commKind (kindOf fl o) (kindOf fl i) = true) →
    wpC P ops fl Q (pre ++ i :: post) a w → wpC P ops fl Q (i :: (pre ++ post)) a w
  | [], _, _, _, _, h => h
  | o :: pre, post, a, w, hc, h => by
    obtain ⟨h1, h2, h3⟩ := hc o (by simp)
    exact swap h1 h2 hsi h3 (wpO_mono (fun a w hh => wpC_move hsi pre post a w (fun o' ho' => hc o' (by simp [ho'])) hh) h)

theorem wpOp_of_wpO {Q : Exit → Act → World → Prop} {i : Nat} {o : Oper} (hi : ops[i]? = some o) {K : Act → World → Prop} {a : Act} {w : World} (h : wpO P ops fl o K a w) : wpOp P ops Q i K a w := by
  unfold wpOp
  simp only [hi]
  unfold wpO at h
  split
  · rename_i hw
    rw [if_pos hw] at h
    refine .inl ?_
    by_cases hk : kindOf fl o ≤ 1
    · rw [if_pos hk] at h
      obtain ⟨v, hv, hK⟩ := h
      unfold Oper.wp
      rw [hv w fun _ => Pre.refl _]
      exact hK
    · rw [if_neg hk] at h
      unfold Oper.wp at *
      generalize (execOp a.eval o).run P w = r at *
      cases r with
      | ok n w' =>
        cases n <;> simp only [Oper.upon] at h ⊢
        case value v => exact h.2
        case skip => exact h.2
        case defer d => exact h.2
        case enter f args =>
          refine Calls.mono h fun e w'' he => ?_
          cases e with
          | returned u => exact he.2
          | panicked c => exact he.elim
          | outgrown => exact (noQ_lets he).elim
        case row row args => exact Rows.mono h fun u w'' he => he.2
      | halt x w' => cases x <;> simp only [Oper.upon] at h ⊢; case panic => exact h.elim
  · rename_i hw
    rw [if_neg hw] at h
    exact h

/-! ### the check -/

def ancRow (tbl : List Nat) (o : Oper) : Nat :=
  o.after.toList.foldl (fun s e => if Region.binds .any e then s ||| 2 ^ e.on ||| tbl.getD e.on 0 else s) 0
def ancTable : List Oper → List Nat → List Nat
  | [], tbl => tbl
  | o :: l, tbl => ancTable l (tbl ++ [ancRow tbl o])

/-- j is known to be ahead of i. -/
def ahead (tbl : List Nat) (j i : Nat) : Bool := (tbl.getD i 0).testBit j

def tblOk (l : List Oper) (tbl : List Nat) : Bool :=
  (List.range l.length).all fun i => match l[i]? with
    | none => true
    | some o => (List.range i).all fun j => !ahead tbl j i || o.after.any fun e => Region.binds .any e && (e.on == j || (decide (e.on < i) && decide (j < e.on) && ahead tbl j e.on))

def pairsOk (fl : List Tmp) (l : List Oper) (tbl : List Nat) : Bool :=
  (List.range l.length).all fun i => match l[i]? with
    | none => true
    | some oi => (oi.after.all fun e => !Region.binds .any e || decide (e.on < i)) && (List.range i).all fun j => match l[j]? with
      | none => true
      | some oj => ahead tbl j i || (oj.apart l.toArray oi && commKind (kindOf fl oj) (kindOf fl oi))

def canonB (fl : List Tmp) (l : List Oper) : Bool :=
  Region.noSelect l.toArray && tblOk l (ancTable l []) && pairsOk fl l (ancTable l [])

structure Inv (l : List Oper) (listed : Array Bool) (r : List Nat) : Prop where
  sorted : r.Pairwise (· < ·)
  mem : ∀ i, i ∈ r ↔ i < l.length ∧ listed.getD i true = false
  size : listed.size = l.length
  closed : ∀ j oj, l[j]? = some oj → listed.getD j false = true → ∀ e ∈ oj.after, Region.binds .any e = true → listed.getD e.on false = true

theorem ahead_listed {l : List Oper} {tbl : List Nat} (ht : tblOk l tbl = true) {listed : Array Bool} {r : List Nat} (inv : Inv l listed r) :
    ∀ (n i j : Nat) (oi : Oper), i < n → j < i → l[i]? = some oi → (∀ e ∈ oi.after, Region.binds .any e = true → listed.getD e.on false = true) → ahead tbl j i = true → listed.getD j false = true := by
  intro n
  induction n with
  | zero => intro i j oi hi; omega
  | succ n ih =>
    intro i j oi hi hji hoi hall ha
    have hlt : i < l.length := (List.getElem?_eq_some_iff.1 hoi).1
    have h1 := List.all_eq_true.1 ht i (List.mem_range.2 hlt)
    simp only [hoi] at h1
    have h2 := List.all_eq_true.1 h1 j (List.mem_range.2 hji)
    simp only [ha, Bool.not_true, Bool.false_or] at h2
    obtain ⟨e, he, hb⟩ := Array.any_eq_true'.1 h2
    simp only [Bool.and_eq_true, Bool.or_eq_true, beq_iff_eq, decide_eq_true_eq] at hb
    obtain ⟨hb1, hb2⟩ := hb
    rcases hb2 with hb2 | ⟨⟨hb2, hje⟩, hb3⟩
    · rw [← hb2]; exact hall e he hb1
    · have hel := hall e he hb1
      have hel2 : e.on < l.length := by omega
      obtain ⟨oe, hoe⟩ : ∃ oe, l[e.on]? = some oe := ⟨_, List.getElem?_eq_getElem hel2⟩
      exact ih e.on j oe (by omega) hje hoe (inv.closed _ _ hoe hel) hb3

theorem Inv.set {l : List Oper} {listed : Array Bool} {pre post : List Nat} {i : Nat} (inv : Inv l listed (pre ++ i :: post)) (hr : i ∈ Region.ready .any l.toArray listed) :
    Inv l (listed.setIfInBounds i true) (pre ++ post) := by
  obtain ⟨hun, oi, hoi, hall⟩ := mem_ready.1 hr
  have hi : i < l.length := ((inv.mem i).1 (by simp)).1
  have hs := inv.sorted
  rw [List.pairwise_append] at hs
  obtain ⟨hs1, hs2, hs3⟩ := hs
  rw [List.pairwise_cons] at hs2
  refine ⟨?_, fun j => ?_, by simp [inv.size], fun j oj hj hl e he hb => ?_⟩
  · rw [List.pairwise_append]
    exact ⟨hs1, hs2.2, fun x hx y hy => hs3 x hx y (by simp [hy])⟩
  · have hm := inv.mem j
    by_cases hji : j = i
    · subst hji
      constructor
      · intro h
        rcases List.mem_append.1 h with h | h
        · have := hs3 j h j (by simp); omega
        · have := hs2.1 j h; omega
      · rintro ⟨_, h⟩
        simp [inv.size, hi] at h
    · rw [getD_set_ne true (Ne.symm hji)]
      rw [← hm]
      simp [hji]
  · by_cases hij : i = j
    · subst hij
      have : oj = oi := by
        have h2 : l.toArray[i]? = l[i]? := by simp
        rw [h2, hj] at hoi
        exact Option.some.inj hoi
      subst this
      exact getD_set_true (hall e he hb)
    · rw [getD_set_ne false hij] at hl
      exact getD_set_true (inv.closed j oj hj hl e he hb)

theorem map_getD_append (l : List Oper) (a b : List Nat) (i : Nat) : (a ++ i :: b).map (fun k => l.getD k default) = a.map (fun k => l.getD k default) ++ l.getD i default :: b.map (fun k => l.getD k default) := by simp

theorem wpAny_of_wpC {Q : Exit → Act → World → Prop} {l : List Oper} (hs : Region.noSelect l.toArray = true) (ht : tblOk l (ancTable l []) = true) (hp : pairsOk fl l (ancTable l []) = true) :
    ∀ (n : Nat) (r : List Nat) (listed : Array Bool) (a : Act) (w : World), r.length = n → Inv l listed r →
      wpC P l.toArray fl Q (r.map fun k => l.getD k default) a w → wpAny P .any l.toArray Q n listed a w := by
  have hsel : ∀ (k : Nat) (o : Oper), l[k]? = some o → ∀ cs b, o.op ≠ .select cs b := fun k o hk cs b => Region.noSelect_spec hs k o cs b (by simpa using hk)
  intro n
  induction n with
  | zero =>
    intro r listed a w hn inv h
    have : r = [] := List.eq_nil_of_length_eq_zero hn
    subst this
    refine ⟨?_, h⟩
    apply List.eq_nil_iff_forall_not_mem.2
    intro i hi
    obtain ⟨hun, oi, hoi, _⟩ := mem_ready.1 hi
    have hlt : i < l.length := by simpa using (Array.getElem?_eq_some_iff.1 hoi).1
    simpa using (inv.mem i).2 ⟨hlt, hun⟩
  | succ n ih =>
    intro r listed a w hn inv h
    refine ⟨fun hnil => ?_, fun i hi => ?_⟩
    · exfalso
      match r, hn with
      | i :: r', _ =>
        obtain ⟨hlt, hun⟩ := (inv.mem i).1 (by simp)
        have hoi : l[i]? = some l[i] := List.getElem?_eq_getElem hlt
        have hmem : i ∈ Region.ready .any l.toArray listed := by
          refine mem_ready.2 ⟨hun, l[i], by simp [hlt], fun e he hb => ?_⟩
          have h1 := List.all_eq_true.1 hp i (List.mem_range.2 hlt)
          simp only [hoi, Bool.and_eq_true] at h1
          have h2 := Array.all_eq_true_iff_forall_mem.1 h1.1 e he
          simp only [hb, Bool.not_true, Bool.false_or, decide_eq_true_eq] at h2
          cases hl : listed.getD e.on false with
          | true => rfl
          | false =>
            exfalso
            have hl' : listed.getD e.on true = false := by
              have hsz : e.on < listed.size := by rw [inv.size]; omega
              simp [hsz] at hl ⊢; exact hl
            have hin := (inv.mem e.on).2 ⟨by omega, hl'⟩
            have hso := inv.sorted
            rw [List.pairwise_cons] at hso
            rcases List.mem_cons.1 hin with h3 | h3
            · omega
            · have := hso.1 _ h3; omega
        rw [hnil] at hmem
        cases hmem
    · obtain ⟨hun, oi, hoi, hall⟩ := mem_ready.1 hi
      have hlt : i < l.length := by simpa using (Array.getElem?_eq_some_iff.1 hoi).1
      have hoi' : l[i]? = some oi := by simpa using hoi
      have hin := (inv.mem i).2 ⟨hlt, hun⟩
      obtain ⟨pre, post, rfl⟩ := List.append_of_mem hin
      rw [map_getD_append] at h
      have hgi : l.getD i default = oi := by simp [hoi']
      rw [hgi] at h
      have hso := inv.sorted
      rw [List.pairwise_append] at hso
      have hmv := wpC_move (hsel i oi hoi') (pre.map fun k => l.getD k default) (post.map fun k => l.getD k default) a w ?_ h
      · rw [← List.map_append] at hmv
        refine wpOp_mono (fun a' w' h' => ih (pre ++ post) _ a' w' ?_ (inv.set hi) h') (wpOp_of_wpO hoi hmv)
        simp at hn ⊢
        omega
      · intro o ho
        obtain ⟨j, hj, rfl⟩ := List.mem_map.1 ho
        have hji : j < i := hso.2.2 j hj i (by simp)
        obtain ⟨hjl, hjun⟩ := (inv.mem j).1 (by simp [hj])
        have hoj : l[j]? = some l[j] := List.getElem?_eq_getElem hjl
        have hgj : l.getD j default = l[j] := by simp [hjl]
        rw [hgj]
        have h1 := List.all_eq_true.1 hp i (List.mem_range.2 hlt)
        simp only [hoi', Bool.and_eq_true] at h1
        have h2 := List.all_eq_true.1 h1.2 j (List.mem_range.2 hji)
        simp only [hoj, Bool.or_eq_true, Bool.and_eq_true] at h2
        rcases h2 with h2 | h2
        · exfalso
          have h3 := ahead_listed ht inv (i + 1) i j oi (by omega) hji hoi' hall h2
          have hsz : j < listed.size := by rw [inv.size]; exact hjl
          simp [hsz] at h3 hjun
          rw [h3] at hjun
          cases hjun
        · exact ⟨h2.1, hsel j _ hoj, h2.2⟩

/-- A REGION THAT DRAWS ITS ORDER: one walk in the order of the text. -/
theorem wp_region_canon {id : Nat} {Q : Exit → Act → World → Prop} {a : Act} {w : World} {l : List Oper} (fl : List Tmp) (hm : P.follows .mixedOrders = true) (hB : canonB fl l = true)
    (h : wpC P l.toArray fl Q l a w.drew) : (Code.region id l.toArray true).wp P Q a w := by
  simp only [canonB, Bool.and_eq_true] at hB
  refine wp_region_any hm ?_
  have inv : Inv l (Array.replicate l.length false) (List.range l.length) := by
    refine ⟨List.pairwise_lt_range, fun i => ?_, by simp, fun j oj hj hl => ?_⟩
    · simp only [List.mem_range]
      constructor
      · intro hi; exact ⟨hi, by simp [hi]⟩
      · exact fun hi => hi.1
    · exfalso
      have : j < l.length := (List.getElem?_eq_some_iff.1 hj).1
      simp [this] at hl
  have hmap : (List.range l.length).map (fun k => l.getD k default) = l := by
    apply List.ext_getElem?
    intro i
    by_cases hi : i < l.length
    · simp [hi]
    · simp [hi]
  have := wpAny_of_wpC (P := P) (Q := Q) hB.1.1 hB.1.2 hB.2 l.length (List.range l.length) (Array.replicate l.length false) a w.drew (by simp) inv (by rw [hmap]; exact h)
  simpa using this

/-! ### the steps -/

def calmUpon (w : World) (next : Value → Prop) : Result Next → Prop
  | .ok (.value v) w' => w' = w ∧ next v
  | _ => False
def calm (P : Program) (o : Oper) (a : Act) (w : World) (next : Value → Prop) : Prop := calmUpon w next ((execOp a.eval o).run P w)
attribute [go_sem] calm calmUpon
theorem calmUpon_value (w : World) (next : Value → Prop) (v : Value) : calmUpon w next (.ok (.value v) w) = next v := by simp [calmUpon]

theorem calm_run {o : Oper} {a : Act} {w : World} {next : Value → Prop} (h : calm P o a w next) : ∃ v, (execOp a.eval o).run P w = .ok (.value v) w ∧ next v := by
  unfold calm at h
  generalize (execOp a.eval o).run P w = r at *
  cases r with
  | ok n w' =>
    cases n <;> simp only [calmUpon] at h
    obtain ⟨rfl, h⟩ := h
    exact ⟨_, rfl, h⟩
  | halt x w' => simp only [calmUpon] at h

theorem wpC_nil {Q : Exit → Act → World → Prop} {a : Act} {w : World} (h : Q .normal a w) : wpC P ops fl Q [] a w := h

theorem wpC_pure {Q : Exit → Act → World → Prop} {a : Act} {w : World} {o : Oper} {rest : List Oper} {v : Value} {a' : Act} (hk : kindOf fl o = 0)
    (h : ∀ (K : Value → Act → Prop) (w' : World), K v a' → if Region.wanted o (yielded ops a.tmps) = true then calm P o a w' (fun u => K u (a.put o.dst u)) else K undef (a.put o.dst undef))
    (h2 : wpC P ops fl Q rest a' w) : wpC P ops fl Q (o :: rest) a w := by
  show wpO _ _ _ _ _ _ _
  unfold wpO
  have hh := fun w' => h (fun u b => u = v ∧ b = a') w' ⟨rfl, rfl⟩
  split
  · rename_i hw
    simp only [hw, if_true] at hh
    rw [if_pos (by omega)]
    refine ⟨v, fun w' _ => ?_, ?_⟩
    · obtain ⟨u, hu, h3, _⟩ := calm_run (hh w')
      rw [← h3]; exact hu
    · obtain ⟨u, _, h3, h4⟩ := calm_run (hh w)
      rw [← h3, h4]; exact h2
  · rename_i hw
    simp only [hw] at hh
    have := (hh w).2
    rw [this]; exact h2

/-- Just the loads of kind 1. -/
def loadK (fl : List Tmp) (o : Oper) : Nat := match o.op with | .load .. => kindOf fl o | _ => 9

theorem wpC_load {Q : Exit → Act → World → Prop} {a : Act} {w : World} {o : Oper} {rest : List Oper} {v : Value} {a' : Act} (hk' : loadK fl o = 1)
    (h : ∀ (K : Value → Act → Prop), K v a' → if Region.wanted o (yielded ops a.tmps) = true then calm P o a w (fun u => K u (a.put o.dst u)) else K undef (a.put o.dst undef))
    (h2 : wpC P ops fl Q rest a' w) : wpC P ops fl Q (o :: rest) a w := by
  have hk : kindOf fl o = 1 := by
    unfold loadK at hk'
    split at hk'
    · exact hk'
    · cases hk'
  show wpO _ _ _ _ _ _ _
  unfold wpO
  have hh := h (fun u b => u = v ∧ b = a') ⟨rfl, rfl⟩
  split
  · rename_i hw
    simp only [hw, if_true] at hh
    rw [if_pos (by omega)]
    obtain ⟨u, hu, h3, h4⟩ := calm_run hh
    refine ⟨v, fun w' hp => ?_, by rw [← h3, h4]; exact h2⟩
    rw [← h3]
    have hread : SemReads P (execOp a.eval o) := by
      obtain ⟨dst, op, type, pos, after, guard⟩ := o
      unfold loadK at hk'
      unfold execOp
      cases op <;> simp only at hk' <;> try (exfalso; revert hk'; decide)
      case load t x => exact SemReads.bind (reads_loadAt t _) fun _ => reads_pure _
    exact (hread.later _ _ _ hu).2 w' (hp hk)
  · rename_i hw
    simp only [hw] at hh
    have := hh.2
    rw [this]; exact h2

/-- A look-up that is the same in each later world. -/
theorem wpC_still {Q : Exit → Act → World → Prop} {a : Act} {w : World} {o : Oper} {rest : List Oper} {v : Value} {a' : Act} (hk : kindOf fl o = 1)
    (h : ∀ (K : Value → Act → Prop) (w' : World), Pre w w' → K v a' → if Region.wanted o (yielded ops a.tmps) = true then calm P o a w' (fun u => K u (a.put o.dst u)) else K undef (a.put o.dst undef))
    (h2 : wpC P ops fl Q rest a' w) : wpC P ops fl Q (o :: rest) a w := by
  show wpO _ _ _ _ _ _ _
  unfold wpO
  have hh := fun w' hp => h (fun u b => u = v ∧ b = a') w' hp ⟨rfl, rfl⟩
  split
  · rename_i hw
    simp only [hw, if_true] at hh
    rw [if_pos (by omega)]
    have key : ∀ w', Pre w w' → (execOp a.eval o).run P w' = .ok (.value v) w' := fun w' hp => by
      obtain ⟨u, hu, h3, _⟩ := calm_run (hh w' hp)
      rw [← h3]; exact hu
    obtain ⟨u, _, h3, h4⟩ := calm_run (hh w (Pre.refl _))
    exact ⟨v, fun w' hp => key w' (hp hk), by rw [← h3, h4]; exact h2⟩
  · rename_i hw
    simp only [hw] at hh
    have := (hh w (Pre.refl _)).2
    rw [this]; exact h2

/-- An operation that may do anything: walk it, go on behind it. -/
theorem wpC_act {Q : Exit → Act → World → Prop} {a : Act} {w : World} {o : Oper} {rest : List Oper} (hk : kindOf fl o = 2) (hg : o.guard = none)
    (h : ∀ K : Act → World → Prop, (∀ a' w', wpC P ops fl Q rest a' w' → K a' w') → o.wp P a w K noQ) : wpC P ops fl Q (o :: rest) a w := by
  show wpO _ _ _ _ _ _ _
  unfold wpO
  have hw : Region.wanted o (yielded ops a.tmps) = true := by simp [Region.wanted, hg]
  rw [if_pos hw, if_neg (by omega)]
  exact Oper.wp_mono (fun a' w' hh => ⟨fun h3 => by omega, hh⟩) (h _ fun _ _ hh => hh)

/-- An operation that leaves all blocks as they are. -/
theorem wpC_new {Q : Exit → Act → World → Prop} {a : Act} {w : World} {o : Oper} {rest : List Oper} (hk : kindOf fl o = 3) (hg : o.guard = none)
    (h : ∀ K : Act → World → Prop, (∀ a' w', Pre w w' → wpC P ops fl Q rest a' w' → K a' w') → o.wp P a w K noQ) : wpC P ops fl Q (o :: rest) a w := by
  show wpO _ _ _ _ _ _ _
  unfold wpO
  have hw : Region.wanted o (yielded ops a.tmps) = true := by simp [Region.wanted, hg]
  rw [if_pos hw, if_neg (by omega)]
  exact Oper.wp_mono (fun a' w' hh => ⟨fun _ => hh.1, hh.2⟩) (h (fun a' w' => Pre w w' ∧ wpC P ops fl Q rest a' w') fun _ _ hp hh => ⟨hp, hh⟩)
end
end Go.Proofs.Ytmdonjadhkffiaa
/- A region that draws its order, with loads of cells that stay (S says which): one walk in the order of the text. As wp_region_canon, but such a load commutes with all that keeps S. Conditions: the Bool check over the region. -/
namespace Go.Proofs.Ytmdonjadhkffiaa.Held
open Go.RowKit Go.Proofs.Ytmdonjadhkffiaa

/-- As kindOf, but a load named in 'sl' is one of a cell that stays. -/
def kindH (fl sl : List Tmp) (o : Oper) : Nat :=
  match o.op with
  | .load .. => match o.dst with | some d => if sl.contains d then 0 else 1 | none => 1
  | _ => kindOf fl o

section
variable {P : Program} {ops : Array Oper} {fl sl : List Tmp} {S : World → Prop}

def Still (P : Program) (S : World → Prop) (k : Nat) (o : Oper) (a : Act) (w : World) (v : Value) : Prop :=
  ∀ w', S w' → (k = 1 → Pre w w') → (execOp a.eval o).run P w' = .ok (.value v) w'

/-- One operation, then K. -/
def wpO (P : Program) (S : World → Prop) (ops : Array Oper) (fl sl : List Tmp) (o : Oper) (K : Act → World → Prop) (a : Act) (w : World) : Prop :=
  if Region.wanted o (yielded ops a.tmps) = true then
    S w ∧ if kindH fl sl o ≤ 1 then ∃ v, Still P S (kindH fl sl o) o a w v ∧ K (a.put o.dst v) w
    else o.wp P a w (fun a' w' => ((kindH fl sl o = 3 → Pre w w') ∧ (o.dst ≠ none → S w')) ∧ K a' w') noQ
  else K (a.put o.dst undef) w

def wpC (P : Program) (S : World → Prop) (ops : Array Oper) (fl sl : List Tmp) (Q : Exit → Act → World → Prop) : List Oper → Act → World → Prop
  | [], a, w => Q .normal a w
  | o :: rest, a, w => wpO P S ops fl sl o (wpC P S ops fl sl Q rest) a w

theorem wpO_mono {o : Oper} {K K' : Act → World → Prop} {a : Act} {w : World} (h : ∀ a w, K a w → K' a w) (hh : wpO P S ops fl sl o K a w) : wpO P S ops fl sl o K' a w := by
  unfold wpO at *
  split
  · rename_i h1
    rw [if_pos h1] at hh
    refine ⟨hh.1, ?_⟩
    have hh := hh.2
    split
    · rename_i h2; rw [if_pos h2] at hh; obtain ⟨v, h3, h4⟩ := hh; exact ⟨v, h3, h _ _ h4⟩
    · rename_i h2; rw [if_neg h2] at hh; exact Oper.wp_mono (fun a w hk => ⟨hk.1, h _ _ hk.2⟩) hh
  · rename_i h1; rw [if_neg h1] at hh; exact h _ _ hh

/-- May 'o' (ahead in the text) and 'i' be carried out in either order? -/
def commKind (ko ki : Nat) : Bool :=
  match ko, ki with
  | 0, _ => true
  | 1, 0 | 1, 1 | 1, 3 => true
  | 2, 0 | 3, 0 => true
  | _, _ => false
/-- What does not keep S is moved ahead of nothing. -/
def movable (fl sl : List Tmp) (i : Oper) : Bool := decide (kindH fl sl i ≤ 1) || i.dst.isSome

theorem still_same {k : Nat} {o : Oper} {a a' : Act} {w w' : World} {v : Value} (h : Still P S k o a w v) (he : execOp a'.eval o = execOp a.eval o) (hw : k = 1 → Pre w w') : Still P S k o a' w' v :=
  fun w'' hs hp => by rw [he]; exact h w'' hs fun hk => (hw hk).trans (hp hk)

theorem still_det {k : Nat} {o : Oper} {a a' : Act} {w w' : World} {v v' : Value} (hk : k = 0) (hs : S w) (h : Still P S k o a w v) (h' : Still P S k o a' w' v') (he : execOp a'.eval o = execOp a.eval o) : v' = v := by
  have h1 := h w hs (by omega)
  have h2 := h' w hs (by omega)
  rw [he, h1] at h2
  simpa using h2.symm

theorem kind_small (fl sl : List Tmp) (o : Oper) : kindH fl sl o ≤ 3 := by
  unfold kindH
  repeat' split
  all_goals first | decide | exact Go.Proofs.Ytmdonjadhkffiaa.kind_small fl o

theorem comm_one : ∀ n, n ≤ 3 → ¬ n ≤ 1 → commKind 1 n = true → n = 3
  | 0, _, h, _ => absurd (by decide) h
  | 1, _, h, _ => absurd (by decide) h
  | 2, _, _, h => by simp [commKind] at h
  | 3, _, _, _ => rfl
  | n + 4, h, _, _ => by omega
theorem comm_two : ∀ m n, m ≤ 3 → ¬ m ≤ 1 → commKind m n = true → n = 0
  | 0, _, _, h, _ => absurd (by decide) h
  | 1, _, _, h, _ => absurd (by decide) h
  | 2, 0, _, _, _ => rfl
  | 3, 0, _, _, _ => rfl
  | 2, n + 1, _, _, h => by simp [commKind] at h
  | 3, n + 1, _, _, h => by simp [commKind] at h
  | m + 4, _, h, _, _ => by omega

theorem swap {o i : Oper} {K : Act → World → Prop} {a : Act} {w : World} (hap : o.apart ops i = true)
    (hso : ∀ cs b, o.op ≠ .select cs b) (hsi : ∀ cs b, i.op ≠ .select cs b) (hk : commKind (kindH fl sl o) (kindH fl sl i) = true) (hm : movable fl sl i = true)
    (h : wpO P S ops fl sl o (wpO P S ops fl sl i K) a w) : wpO P S ops fl sl i (wpO P S ops fl sl o K) a w := by
  obtain ⟨h1, h2, h3⟩ := Oper.apart_spec hap
  have h2' : ∀ d, i.dst = some d → o.dst ≠ some d := fun d hd hod => h2 d hod hd
  have wi : ∀ (b : Act) v, Region.wanted i (yielded ops (b.put o.dst v).tmps) = Region.wanted i (yielded ops b.tmps) := fun b v => wanted_put i b o.dst v h1
  have wo : ∀ (b : Act) v, Region.wanted o (yielded ops (b.put i.dst v).tmps) = Region.wanted o (yielded ops b.tmps) := fun b v => wanted_put o b i.dst v h3
  have ei : ∀ (b : Act) v, execOp (b.put o.dst v).eval i = execOp b.eval i := fun b v => execOp_put i hsi b o.dst v h1
  have eo : ∀ (b : Act) v, execOp (b.put i.dst v).eval o = execOp b.eval o := fun b v => execOp_put o hso b i.dst v h3
  have hko := kind_small fl sl o
  have hki := kind_small fl sl i
  have pc : ∀ (b : Act) u v, (b.put i.dst u).put o.dst v = (b.put o.dst v).put i.dst u := fun b u v => Act.put_comm b u v h2'
  have hmi : ¬ kindH fl sl i ≤ 1 → i.dst ≠ none := fun hn he => by
    unfold movable at hm
    rw [he] at hm
    simp [hn] at hm
  unfold wpO at h ⊢
  by_cases hwo : Region.wanted o (yielded ops a.tmps) = true
  · rw [if_pos hwo] at h
    obtain ⟨hS, h⟩ := h
    by_cases hwi : Region.wanted i (yielded ops a.tmps) = true
    · rw [if_pos hwi]
      refine ⟨hS, ?_⟩
      by_cases hos : kindH fl sl o ≤ 1
      · rw [if_pos hos] at h
        obtain ⟨v, hv, h⟩ := h
        rw [if_pos (by rw [wi]; exact hwi)] at h
        have h := h.2
        by_cases his : kindH fl sl i ≤ 1
        · rw [if_pos his] at h ⊢
          obtain ⟨u, hu, h⟩ := h
          refine ⟨u, still_same hu (ei a v).symm fun _ => Pre.refl _, ?_⟩
          rw [if_pos (by rw [wo]; exact hwo), if_pos hos]
          exact ⟨hS, v, still_same hv (eo a u) fun _ => Pre.refl _, by rw [pc]; exact h⟩
        · rw [if_neg his] at h ⊢
          rw [wp_put (ops := ops) hsi h1 h2] at h
          have h' := wp_acts (fun a' => execOp a'.eval o = execOp a.eval o ∧ Region.wanted o (yielded ops a'.tmps) = true) (fun u => ⟨eo a u, by rw [wo]; exact hwo⟩)
            (fun d u => ⟨eo _ u, by rw [wo]; exact hwo⟩) h
          refine Oper.wp_mono (fun a' w' hh => ?_) h'
          obtain ⟨⟨hp, hK⟩, he, hw'⟩ := hh
          refine ⟨hp, ?_⟩
          rw [if_pos hw', if_pos hos]
          refine ⟨hp.2 (hmi his), v, still_same hv he fun hk1 => ?_, hK⟩
          refine hp.1 ?_
          rw [hk1] at hk
          exact comm_one _ hki his hk
      · rw [if_neg hos] at h
        have hi0 : kindH fl sl i = 0 := comm_two _ _ hko hos hk
        rw [if_pos (by omega : kindH fl sl i ≤ 1)]
        have h' := wp_acts (fun a' => execOp a'.eval i = execOp a.eval i ∧ Region.wanted i (yielded ops a'.tmps) = true) (fun u => ⟨ei a u, by rw [wi]; exact hwi⟩)
            (fun d u => ⟨ei _ u, by rw [wi]; exact hwi⟩) h
        obtain ⟨a', w', ⟨hp, hh⟩, he, hw'⟩ := wp_ex h'
        rw [if_pos hw', if_pos (by omega : kindH fl sl i ≤ 1)] at hh
        obtain ⟨_, u, hu, _⟩ := hh
        have hu' : Still P S (kindH fl sl i) i a w u := fun w2 hs2 _ => by rw [← he]; exact hu w2 hs2 (by omega)
        refine ⟨u, hu', ?_⟩
        rw [if_pos (by rw [wo]; exact hwo), if_neg hos, wp_put (ops := ops) hso h3 h2']
        refine ⟨hS, Oper.wp_mono (fun a2 w2 hh2 => ?_) h'⟩
        obtain ⟨⟨hp2, hh3⟩, he2, hw2⟩ := hh2
        rw [if_pos hw2, if_pos (by omega : kindH fl sl i ≤ 1)] at hh3
        obtain ⟨_, u2, hu2, hK⟩ := hh3
        have : u2 = u := still_det hi0 hS hu' hu2 he2
        subst this
        exact ⟨hp2, hK⟩
    · rw [if_neg hwi]
      rw [wo, if_pos hwo]
      refine ⟨hS, ?_⟩
      by_cases hos : kindH fl sl o ≤ 1
      · rw [if_pos hos] at h ⊢
        obtain ⟨v, hv, h⟩ := h
        rw [if_neg (by rw [wi]; exact hwi)] at h
        exact ⟨v, still_same hv (eo a undef) fun _ => Pre.refl _, by rw [pc]; exact h⟩
      · rw [if_neg hos] at h ⊢
        rw [wp_put (ops := ops) hso h3 h2']
        have h' := wp_acts (fun a' => ¬ Region.wanted i (yielded ops a'.tmps) = true) (fun u => by rw [wi]; exact hwi)
            (fun d u => by rw [wi]; exact hwi) h
        refine Oper.wp_mono (fun a2 w2 hh2 => ?_) h'
        obtain ⟨⟨hp2, hh3⟩, hw2⟩ := hh2
        rw [if_neg hw2] at hh3
        exact ⟨hp2, hh3⟩
  · rw [if_neg hwo] at h
    rw [wi] at h
    by_cases hwi : Region.wanted i (yielded ops a.tmps) = true
    · rw [if_pos hwi] at h ⊢
      obtain ⟨hS, h⟩ := h
      refine ⟨hS, ?_⟩
      by_cases his : kindH fl sl i ≤ 1
      · rw [if_pos his] at h ⊢
        obtain ⟨u, hu, h⟩ := h
        refine ⟨u, still_same hu (ei a undef).symm fun _ => Pre.refl _, ?_⟩
        rw [if_neg (by rw [wo]; exact hwo), pc]
        exact h
      · rw [if_neg his] at h ⊢
        rw [wp_put (ops := ops) hsi h1 h2] at h
        have h' := wp_acts (fun a' => ¬ Region.wanted o (yielded ops a'.tmps) = true) (fun u => by rw [wo]; exact hwo)
            (fun d u => by rw [wo]; exact hwo) h
        refine Oper.wp_mono (fun a2 w2 hh2 => ?_) h'
        obtain ⟨⟨hp2, hh3⟩, hw2⟩ := hh2
        rw [if_neg hw2]
        exact ⟨hp2, hh3⟩
    · rw [if_neg hwi] at h ⊢
      rw [if_neg (by rw [wo]; exact hwo), pc]
      exact h

theorem wpC_move {Q : Exit → Act → World → Prop} {i : Oper} (hsi : ∀ cs b, i.op ≠ .select cs b) : ∀ (pre post : List Oper) (a : Act) (w : World),
    (∀ o ∈ pre, o.apart ops i = true ∧ (∀ cs b, o.op ≠ .select cs b) ∧ commKind (kindH fl sl o) (kindH fl sl i) = true ∧ movable fl sl i = true) →
    wpC P S ops fl sl Q (pre ++ i :: post) a w → wpC P S ops fl sl Q (i :: (pre ++ post)) a w
  | [], _, _, _, _, h => h
  | o :: pre, post, a, w, hc, h => by
    obtain ⟨h1, h2, h3, h4⟩ := hc o (by simp)
    exact swap h1 h2 hsi h3 h4 (wpO_mono (fun a w hh => wpC_move hsi pre post a w (fun o' ho' => hc o' (by simp [ho'])) hh) h)

theorem wpOp_of_wpO {Q : Exit → Act → World → Prop} {i : Nat} {o : Oper} (hi : ops[i]? = some o) {K : Act → World → Prop} {a : Act} {w : World} (h : wpO P S ops fl sl o K a w) : wpOp P ops Q i K a w := by
  unfold wpOp
  simp only [hi]
  unfold wpO at h
  split
  · rename_i hw
    rw [if_pos hw] at h
    obtain ⟨hS, h⟩ := h
    refine .inl ?_
    by_cases hk : kindH fl sl o ≤ 1
    · rw [if_pos hk] at h
      obtain ⟨v, hv, hK⟩ := h
      unfold Oper.wp
      rw [hv w hS fun _ => Pre.refl _]
      exact hK
    · rw [if_neg hk] at h
      unfold Oper.wp at *
      generalize (execOp a.eval o).run P w = r at *
      cases r with
      | ok n w' =>
        cases n <;> simp only [Oper.upon] at h ⊢
        case value v => exact h.2
        case skip => exact h.2
        case defer d => exact h.2
        case enter f args =>
          refine Calls.mono h fun e w'' he => ?_
          cases e with
          | returned u => exact he.2
          | panicked c => exact he.elim
          | outgrown => exact (noQ_lets he).elim
        case row row args => exact Rows.mono h fun u w'' he => he.2
      | halt x w' => cases x <;> simp only [Oper.upon] at h ⊢; case panic => exact h.elim
  · rename_i hw
    rw [if_neg hw] at h
    exact h

def pairsOk (fl sl : List Tmp) (l : List Oper) (tbl : List Nat) : Bool :=
  (List.range l.length).all fun i => match l[i]? with
    | none => true
    | some oi => (oi.after.all fun e => !Region.binds .any e || decide (e.on < i)) && (List.range i).all fun j => match l[j]? with
      | none => true
      | some oj => ahead tbl j i || (oj.apart l.toArray oi && commKind (kindH fl sl oj) (kindH fl sl oi) && movable fl sl oi)

def canonB (fl sl : List Tmp) (l : List Oper) : Bool :=
  Region.noSelect l.toArray && tblOk l (ancTable l []) && pairsOk fl sl l (ancTable l [])

theorem wpAny_of_wpC {Q : Exit → Act → World → Prop} {l : List Oper} (hs : Region.noSelect l.toArray = true) (ht : tblOk l (ancTable l []) = true) (hp : pairsOk fl sl l (ancTable l []) = true) :
    ∀ (n : Nat) (r : List Nat) (listed : Array Bool) (a : Act) (w : World), r.length = n → Inv l listed r →
      wpC P S l.toArray fl sl Q (r.map fun k => l.getD k default) a w → wpAny P .any l.toArray Q n listed a w := by
  have hsel : ∀ (k : Nat) (o : Oper), l[k]? = some o → ∀ cs b, o.op ≠ .select cs b := fun k o hk cs b => Region.noSelect_spec hs k o cs b (by simpa using hk)
  intro n
  induction n with
  | zero =>
    intro r listed a w hn inv h
    have : r = [] := List.eq_nil_of_length_eq_zero hn
    subst this
    refine ⟨?_, h⟩
    apply List.eq_nil_iff_forall_not_mem.2
    intro i hi
    obtain ⟨hun, oi, hoi, _⟩ := mem_ready.1 hi
    have hlt : i < l.length := by simpa using (Array.getElem?_eq_some_iff.1 hoi).1
    simpa using (inv.mem i).2 ⟨hlt, hun⟩
  | succ n ih =>
    intro r listed a w hn inv h
    refine ⟨fun hnil => ?_, fun i hi => ?_⟩
    · exfalso
      match r, hn with
      | i :: r', _ =>
        obtain ⟨hlt, hun⟩ := (inv.mem i).1 (by simp)
        have hoi : l[i]? = some l[i] := List.getElem?_eq_getElem hlt
        have hmem : i ∈ Region.ready .any l.toArray listed := by
          refine mem_ready.2 ⟨hun, l[i], by simp [hlt], fun e he hb => ?_⟩
          have h1 := List.all_eq_true.1 hp i (List.mem_range.2 hlt)
          simp only [hoi, Bool.and_eq_true] at h1
          have h2 := Array.all_eq_true_iff_forall_mem.1 h1.1 e he
          simp only [hb, Bool.not_true, Bool.false_or, decide_eq_true_eq] at h2
          cases hl : listed.getD e.on false with
          | true => rfl
          | false =>
            exfalso
            have hl' : listed.getD e.on true = false := by
              have hsz : e.on < listed.size := by rw [inv.size]; omega
              simp [hsz] at hl ⊢; exact hl
            have hin := (inv.mem e.on).2 ⟨by omega, hl'⟩
            have hso := inv.sorted
            rw [List.pairwise_cons] at hso
            rcases List.mem_cons.1 hin with h3 | h3
            · omega
            · have := hso.1 _ h3; omega
        rw [hnil] at hmem
        cases hmem
    · obtain ⟨hun, oi, hoi, hall⟩ := mem_ready.1 hi
      have hlt : i < l.length := by simpa using (Array.getElem?_eq_some_iff.1 hoi).1
      have hoi' : l[i]? = some oi := by simpa using hoi
      have hin := (inv.mem i).2 ⟨hlt, hun⟩
      obtain ⟨pre, post, rfl⟩ := List.append_of_mem hin
      rw [map_getD_append] at h
      have hgi : l.getD i default = oi := by simp [hoi']
      rw [hgi] at h
      have hso := inv.sorted
      rw [List.pairwise_append] at hso
      have hmv := wpC_move (hsel i oi hoi') (pre.map fun k => l.getD k default) (post.map fun k => l.getD k default) a w ?_ h
      · rw [← List.map_append] at hmv
        refine wpOp_mono (fun a' w' h' => ih (pre ++ post) _ a' w' ?_ (inv.set hi) h') (wpOp_of_wpO hoi hmv)
        simp at hn ⊢
        omega
      · intro o ho
        obtain ⟨j, hj, rfl⟩ := List.mem_map.1 ho
        have hji : j < i := hso.2.2 j hj i (by simp)
        obtain ⟨hjl, hjun⟩ := (inv.mem j).1 (by simp [hj])
        have hoj : l[j]? = some l[j] := List.getElem?_eq_getElem hjl
        have hgj : l.getD j default = l[j] := by simp [hjl]
        rw [hgj]
        have h1 := List.all_eq_true.1 hp i (List.mem_range.2 hlt)
        simp only [hoi', Bool.and_eq_true] at h1
        have h2 := List.all_eq_true.1 h1.2 j (List.mem_range.2 hji)
        simp only [hoj, Bool.or_eq_true, Bool.and_eq_true] at h2
        rcases h2 with h2 | h2
        · exfalso
          have h3 := ahead_listed ht inv (i + 1) i j oi (by omega) hji hoi' hall h2
          have hsz : j < listed.size := by rw [inv.size]; exact hjl
          simp [hsz] at h3 hjun
          rw [h3] at hjun
          cases hjun
        · exact ⟨h2.1.1, hsel j _ hoj, h2.1.2, h2.2⟩

/-- A REGION THAT DRAWS ITS ORDER: one walk in the order of the text. -/
theorem wp_region_held {id : Nat} {Q : Exit → Act → World → Prop} {a : Act} {w : World} {l : List Oper} (S : World → Prop) (fl sl : List Tmp) (hm : P.follows .mixedOrders = true) (hB : canonB fl sl l = true)
    (h : wpC P S l.toArray fl sl Q l a w.drew) : (Code.region id l.toArray true).wp P Q a w := by
  simp only [canonB, Bool.and_eq_true] at hB
  refine wp_region_any hm ?_
  have inv : Inv l (Array.replicate l.length false) (List.range l.length) := by
    refine ⟨List.pairwise_lt_range, fun i => ?_, by simp, fun j oj hj hl => ?_⟩
    · simp only [List.mem_range]
      constructor
      · intro hi; exact ⟨hi, by simp [hi]⟩
      · exact fun hi => hi.1
    · exfalso
      have : j < l.length := (List.getElem?_eq_some_iff.1 hj).1
      simp [this] at hl
  have hmap : (List.range l.length).map (fun k => l.getD k default) = l := by
    apply List.ext_getElem?
    intro i
    by_cases hi : i < l.length
    · simp [hi]
    · simp [hi]
  have := wpAny_of_wpC (P := P) (Q := Q) hB.1.1 hB.1.2 hB.2 l.length (List.range l.length) (Array.replicate l.length false) a w.drew (by simp) inv (by rw [hmap]; exact h)
  simpa using this

/-! ### the steps -/
theorem wpC_nil {Q : Exit → Act → World → Prop} {a : Act} {w : World} (h : Q .normal a w) : wpC P S ops fl sl Q [] a w := h

theorem wpC_pure {Q : Exit → Act → World → Prop} {a : Act} {w : World} {o : Oper} {rest : List Oper} {v : Value} {a' : Act} (hk : kindH fl sl o = 0) (hS : S w)
    (h : ∀ (K : Value → Act → Prop) (w' : World), S w' → K v a' → if Region.wanted o (yielded ops a.tmps) = true then calm P o a w' (fun u => K u (a.put o.dst u)) else K undef (a.put o.dst undef))
    (h2 : wpC P S ops fl sl Q rest a' w) : wpC P S ops fl sl Q (o :: rest) a w := by
  show wpO _ _ _ _ _ _ _ _ _
  unfold wpO
  have hh := fun w' hs => h (fun u b => u = v ∧ b = a') w' hs ⟨rfl, rfl⟩
  split
  · rename_i hw
    simp only [hw, if_true] at hh
    refine ⟨hS, ?_⟩
    rw [if_pos (by omega)]
    refine ⟨v, fun w' hs _ => ?_, ?_⟩
    · obtain ⟨u, hu, h3, _⟩ := calm_run (hh w' hs)
      rw [← h3]; exact hu
    · obtain ⟨u, _, h3, h4⟩ := calm_run (hh w hS)
      rw [← h3, h4]; exact h2
  · rename_i hw
    simp only [hw] at hh
    have := (hh w hS).2
    rw [this]; exact h2

theorem wpC_load {Q : Exit → Act → World → Prop} {a : Act} {w : World} {o : Oper} {rest : List Oper} {v : Value} {a' : Act} (hk : kindH fl sl o = 1) (hk0 : loadK fl o = 1) (hS : S w)
    (h : ∀ (K : Value → Act → Prop), K v a' → if Region.wanted o (yielded ops a.tmps) = true then calm P o a w (fun u => K u (a.put o.dst u)) else K undef (a.put o.dst undef))
    (h2 : wpC P S ops fl sl Q rest a' w) : wpC P S ops fl sl Q (o :: rest) a w := by
  show wpO _ _ _ _ _ _ _ _ _
  unfold wpO
  have hh := h (fun u b => u = v ∧ b = a') ⟨rfl, rfl⟩
  split
  · rename_i hw
    simp only [hw, if_true] at hh
    refine ⟨hS, ?_⟩
    rw [if_pos (by omega)]
    obtain ⟨u, hu, h3, h4⟩ := calm_run hh
    refine ⟨v, fun w' _ hp => ?_, by rw [← h3, h4]; exact h2⟩
    rw [← h3]
    have hread : SemReads P (execOp a.eval o) := by
      obtain ⟨dst, op, type, pos, after, guard⟩ := o
      unfold loadK at hk0
      unfold execOp
      cases op <;> simp only at hk0 <;> try (exfalso; revert hk0; decide)
      case load t x => exact SemReads.bind (reads_loadAt t _) fun _ => reads_pure _
    exact (hread.later _ _ _ hu).2 w' (hp hk)
  · rename_i hw
    simp only [hw] at hh
    have := hh.2
    rw [this]; exact h2

/-- An operation that leaves all blocks as they are; one that may do anything, but keep S, or be the last. -/
theorem wpC_act {Q : Exit → Act → World → Prop} {a : Act} {w : World} {o : Oper} {rest : List Oper} (hk : ¬ kindH fl sl o ≤ 1) (hg : o.guard = none) (hS : S w)
    (h : ∀ K : Act → World → Prop, (∀ a' w', (kindH fl sl o = 3 → Pre w w') → (o.dst ≠ none → S w') → wpC P S ops fl sl Q rest a' w' → K a' w') → o.wp P a w K noQ) : wpC P S ops fl sl Q (o :: rest) a w := by
  show wpO _ _ _ _ _ _ _ _ _
  unfold wpO
  have hw : Region.wanted o (yielded ops a.tmps) = true := by simp [Region.wanted, hg]
  rw [if_pos hw, if_neg hk]
  exact ⟨hS, Oper.wp_mono (fun a' w' hh => hh) (h (fun a' w' => ((kindH fl sl o = 3 → Pre w w') ∧ (o.dst ≠ none → S w')) ∧ wpC P S ops fl sl Q rest a' w') fun _ _ h1 h2 hh => ⟨⟨h1, h2⟩, hh⟩)⟩
end
end Go.Proofs.Ytmdonjadhkffiaa.Held
/- Heal: a right system, its plans and drops: plain. Conditions: as each law names them. -/
namespace Go.Proofs.Ytmdonjadhkffiaa.HE

theorem rising_of {hi : Int} : ∀ (l : List Int) (lo : Int), l.Pairwise (· < ·) → (∀ x ∈ l, lo < x ∧ x < hi) → rising lo hi l = true
  | [], lo, _, _ => rfl
  | n :: l, lo, h, hb => by
    have h1 := hb n List.mem_cons_self
    have h2 := List.pairwise_cons.1 h
    simp only [rising, Bool.and_eq_true, decide_eq_true_eq]
    exact ⟨h1, rising_of l n h2.2 (fun x hx => ⟨h2.1 x hx, (hb x (List.mem_cons_of_mem _ hx)).2⟩)⟩
theorem formedFrom_of {hi : Int} : ∀ (ps : List Pl) (c : Int), (ps.map (·.chunk)).Pairwise (· < ·) → (∀ p ∈ ps, c < p.chunk) → (∀ p ∈ ps, rising (-1) hi p.nodes = true) → formedFrom c hi ps = true
  | [], c, _, _, _ => rfl
  | p :: ps, c, h, hb, hr => by
    have h2 := List.pairwise_cons.1 h
    simp only [formedFrom, Bool.and_eq_true, decide_eq_true_eq]
    exact ⟨⟨hb p List.mem_cons_self, hr p List.mem_cons_self⟩, formedFrom_of ps p.chunk h2.2 (fun q hq => h2.1 _ (List.mem_map_of_mem hq)) (fun q hq => hr q (List.mem_cons_of_mem _ hq))⟩

structure Sound (s : List Int) (ps : List Pl) : Prop where
  n1 : 1 ≤ s.length
  n12 : s.length ≤ 12
  sites : ∀ z ∈ s, 0 ≤ z ∧ z < 12
  wf : Wf s ps
  ch : Chunks ps
  pos : ∀ p ∈ ps, 0 ≤ p.chunk
  few : ps.length ≤ 256

theorem Sound.formed {s : List Int} {ps : List Pl} (h : Sound s ps) (hi : Int) (hh : (s.length : Int) ≤ hi) : formed ps hi = true := by
  unfold HE.formed
  rw [Bool.and_eq_true, decide_eq_true_iff]
  refine ⟨h.few, formedFrom_of ps (-1) h.ch (fun p hp => by have := h.pos p hp; omega) (fun p hp => ?_)⟩
  have := h.wf p hp
  exact rising_of _ _ this.1 (fun x hx => by have := this.2 x hx; omega)
theorem Sound.sitesOk {s : List Int} {ps : List Pl} (h : Sound s ps) : sitesOk s = true := by
  unfold HE.sitesOk
  rw [Bool.and_eq_true, decide_eq_true_iff, List.all_eq_true]
  exact ⟨⟨h.n1, h.n12⟩, fun x hx => by simpa using h.sites x hx⟩
theorem Sound.check {s : List Int} {ps : List Pl} (h : Sound s ps) : check s ps = 0 := by
  unfold HE.check
  rw [if_pos h.sitesOk, if_pos (h.formed _ (Int.le_refl _))]
theorem Sound.same {s : List Int} {ps qs : List Pl} (h : Sound s ps) (hl : qs.length = ps.length) (hw : Wf s qs) (hc : qs.map (·.chunk) = ps.map (·.chunk)) : Sound s qs := by
  refine ⟨h.n1, h.n12, h.sites, hw, by unfold Chunks; rw [hc]; exact h.ch, fun p hp => ?_, by rw [hl]; exact h.few⟩
  have : p.chunk ∈ qs.map (·.chunk) := List.mem_map_of_mem hp
  rw [hc] at this
  obtain ⟨q, hq, e⟩ := List.mem_map.1 this
  rw [← e]
  exact h.pos q hq
theorem Sound.planTo {s : List Int} {ps : List Pl} (h : Sound s ps) (up copies : Nat) : PlanTo s up copies 0 ps.length ps (plan s up copies ps).1 (plan s up copies ps).2 := planFrom_done s up copies ps.length 0 ps h.wf (by omega)
theorem Sound.after {s : List Int} {ps : List Pl} (h : Sound s ps) (up copies : Nat) : Sound s (plan s up copies ps).2 := h.same (h.planTo up copies).len (h.planTo up copies).wf (h.planTo up copies).chunks
theorem dropAt_len (s : List Int) (up copies i : Nat) : ∀ (f : Nat) (ps : List Pl), (dropAt s up copies i f ps).2.length = ps.length
  | 0, ps => rfl
  | f + 1, ps => by
    unfold dropAt
    split
    · cases worst s up ps (nodesAt ps i) with
      | none => rfl
      | some t => simp only; rw [dropAt_len s up copies i f, set_len]
    · rfl
theorem planFrom_psteps (s : List Int) (up copies : Nat) : ∀ (n i : Nat) (ps : List Pl), i + n ≤ ps.length → PSteps s up copies ps (planFrom s up copies i n ps).1 (planFrom s up copies i n ps).2
  | 0, i, ps, _ => .nil ps
  | n + 1, i, ps, h => (planAt_steps s up copies i copies ps (by omega)).trans (planFrom_psteps s up copies n (i + 1) _ (by rw [planAt_len]; omega))
theorem dropFrom_dsteps (s : List Int) (up copies : Nat) : ∀ (n i : Nat) (ps : List Pl), i + n ≤ ps.length → DSteps s up copies ps (dropFrom s up copies i n ps).1 (dropFrom s up copies i n ps).2
  | 0, i, ps, _ => .nil ps
  | n + 1, i, ps, h => (dropAt_steps s up copies i (nodesAt ps i).length ps (by omega)).trans (dropFrom_dsteps s up copies n (i + 1) _ (by rw [dropAt_len]; omega))
theorem Sound.psteps {s : List Int} {ps : List Pl} (_ : Sound s ps) (up copies : Nat) : PSteps s up copies ps (plan s up copies ps).1 (plan s up copies ps).2 := planFrom_psteps s up copies ps.length 0 ps (by omega)
theorem Sound.dsteps {s : List Int} {ps : List Pl} (_ : Sound s ps) (up copies : Nat) : DSteps s up copies ps (drop s up copies ps).1 (drop s up copies ps).2 := dropFrom_dsteps s up copies ps.length 0 ps (by omega)
theorem Sound.apply {s : List Int} {ps : List Pl} (h : Sound s ps) (up copies : Nat) : apply ps (plan s up copies ps).1 = some (plan s up copies ps).2 := by
  unfold HE.apply
  rw [if_pos (h.formed _ (by have := h.n12; omega))]
  exact (h.psteps up copies).apply h.n12 h.wf h.ch
theorem Sound.applyD {s : List Int} {ps : List Pl} (h : Sound s ps) (up copies : Nat) : HE.apply ps (drop s up copies ps).1 = some (drop s up copies ps).2 := by
  unfold HE.apply
  rw [if_pos (h.formed _ (by have := h.n12; omega))]
  exact (h.dsteps up copies).apply h.wf h.ch

/-- Another plan has none. -/
theorem want_want (s : List Int) (up copies : Nat) {l l' : List Int} (h : (live up l').length = want s up copies l) (_hle : (live up l').length ≤ all s up) : want s up copies l' = (live up l').length := by
  unfold want at *
  split
  · omega
  · split at h
    · omega
    · omega
theorem Sound.again {s : List Int} {ps : List Pl} (h : Sound s ps) (up copies : Nat) : (plan s up copies (plan s up copies ps).2).1 = [] := by
  have h1 := h.planTo up copies
  have h2 := h.after up copies
  have h3 := h2.planTo up copies
  rw [← List.length_eq_zero_iff, h3.moves]
  have : (List.range' 0 (plan s up copies ps).2.length).map (fun j => want s up copies (nodesAt (plan s up copies ps).2 j) - (live up (nodesAt (plan s up copies ps).2 j)).length) = List.replicate (plan s up copies ps).2.length 0 := by
    apply List.ext_getElem
    · simp
    · intro j hj1 hj2
      simp at hj1
      rw [List.getElem_map, List.getElem_replicate, List.getElem_range']
      have e := want_want s up copies (h1.count (0 + 1 * j) (by omega) (by rw [h1.len] at hj1; omega)) (live_le (h1.wf.at _) up)
      rw [e]; omega
  rw [this]
  simp

/-! ### a whole drop -/
structure DropTo (s : List Int) (up copies : Nat) (i n : Nat) (ps ps' : List Pl) : Prop where
  len : ps'.length = ps.length
  wf : Wf s ps'
  other : ∀ j, j < i ∨ i + n ≤ j → nodesAt ps' j = nodesAt ps j
  chunks : ps'.map (·.chunk) = ps.map (·.chunk)
  count : ∀ j, i ≤ j → j < i + n → (live up (nodesAt ps' j)).length = min (live up (nodesAt ps j)).length copies
  spread : ∀ j, i ≤ j → j < i + n → spread s up (nodesAt ps' j) = min (spread s up (nodesAt ps j)) (live up (nodesAt ps' j)).length
theorem dropFrom_done {s : List Int} (hs : sitesOk s = true) (up copies : Nat) : ∀ (n i : Nat) (ps : List Pl), Wf s ps → i + n ≤ ps.length → DropTo s up copies i n ps (dropFrom s up copies i n ps).2
  | 0, i, ps, hw, hi => ⟨rfl, hw, fun _ _ => rfl, rfl, fun j h1 h2 => by omega, fun j h1 h2 => by omega⟩
  | n + 1, i, ps, hw, hi => by
    have h1 := dropAt_done hs up copies i (nodesAt ps i).length ps hw (by omega) (by have := List.length_filter_le (isUp up) (nodesAt ps i); unfold live; omega)
    obtain ⟨ps1, hps1⟩ : ∃ x, x = (dropAt s up copies i (nodesAt ps i).length ps).2 := ⟨_, rfl⟩
    have h2 := dropFrom_done hs up copies n (i + 1) ps1 (by rw [hps1]; exact h1.wf) (by rw [hps1, h1.len]; omega)
    have e2 : (dropFrom s up copies i (n + 1) ps).2 = (dropFrom s up copies (i + 1) n ps1).2 := by rw [hps1]; rfl
    rw [← hps1] at h1
    rw [e2]
    refine ⟨by rw [h2.len, h1.len], h2.wf, fun j hj => ?_, by rw [h2.chunks, h1.chunks], fun j hj1 hj2 => ?_, fun j hj1 hj2 => ?_⟩
    · rw [h2.other j (by omega), h1.other j (by omega)]
    · by_cases hji : j = i
      · subst hji
        rw [h2.other j (by omega), h1.count]
      · rw [h2.count j (by omega) (by omega), h1.other j hji]
    · by_cases hji : j = i
      · subst hji
        rw [h2.other j (by omega), h1.spread]
      · rw [h2.spread j (by omega) (by omega), h1.other j hji]
theorem Sound.dropTo {s : List Int} {ps : List Pl} (h : Sound s ps) (up copies : Nat) : DropTo s up copies 0 ps.length ps (drop s up copies ps).2 := dropFrom_done h.sitesOk up copies ps.length 0 ps h.wf (by omega)

/-! ### how many moves -/
theorem psteps_few {s : List Int} {up copies : Nat} {i n : Nat} {ps ps' : List Pl} {ms : List Mv} (h : PlanTo s up copies i n ps ms ps') (hs : s.length ≤ 12) : ms.length ≤ 12 * n := by
  rw [h.moves]
  have key : ∀ (l : List Nat) (f : Nat → Nat), (∀ j ∈ l, f j ≤ 12) → (l.map f).sum ≤ 12 * l.length := fun l f => by
    induction l with
    | nil => intro _; simp
    | cons a l ih =>
      intro hf
      have h1 := hf a List.mem_cons_self
      have h2 := ih (fun j hj => hf j (List.mem_cons_of_mem _ hj))
      simp only [List.map_cons, List.sum_cons, List.length_cons]
      omega
  have := key (List.range' i n) (fun j => want s up copies (nodesAt ps j) - (live up (nodesAt ps j)).length) (fun j hj => by
    have hj := List.mem_range'_1.1 hj
    have h1 := h.count j hj.1 hj.2
    have h2 := live_le (h.wf.at j) up
    have h3 : all s up ≤ s.length := by
      unfold all live
      refine Nat.le_trans (List.length_filter_le _ _) ?_
      unfold nums; simp
    omega)
  rwa [List.length_range'] at this
end Go.Proofs.Ytmdonjadhkffiaa.HE
