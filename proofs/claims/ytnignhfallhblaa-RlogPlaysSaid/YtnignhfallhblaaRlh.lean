/- seawalllaw12: contracts for long (what it tells) and play. Conditions: as the contracts name them. -/
import Derived.Test.YtnignhfallhblaaRlg
import Derived.Test.YtnignhfallhblaaRlogW
namespace Go.Proofs.Ytnignhfallhblaa
open Go.RowKit
open RM

set_option maxRecDepth 20000 in
theorem long_tells (w : World) (ao : Option Addr) (m c : Nat) (l : List ActL) (hl : Acts w (.slice ao m c) l) (hm : m = l.length) (hm63 : m ≤ maxLen) :
    Calls Try.prog 19 #[.slice ao m c] w fun e w' => ∃ b : Bool, e = .returned (.bool b) ∧ Keep (fun _ => False) w w' ∧ (b = false → ∀ j (hj : j < l.length), j < 400 → l[j].value.length ≤ 1000) := by
  have HL := hid hl
  have Hm := hid hm
  have hm2 : (m : Int) ≤ 9223372036854775807 := by unfold maxLen at hm63; omega
  clear hl hm hm63
  go_enter Try.func19, Try.ntmps19
  go_wp2_with (at_builtin; refine stopAt ?_; intro q hq)
  go_loopw [3] (fun iv wr => ∃ i : Nat, i ≤ m ∧ i ≤ 400 ∧ iv = .int .i64 i ∧ Hid (Keep (fun _ => False) w wr ∧ ∀ j (hj : j < l.length), j < i → l[j].value.length ≤ 1000)) (fun iv _ => m - (intOf iv).toNat)
  case atStart => exact ⟨0, Nat.zero_le _, Nat.zero_le _, rfl, hid ⟨Keep.refl _ _, fun j hj h => by omega⟩⟩
  case round =>
    obtain ⟨i, hi, hi4, rfl, HK⟩ := hrel
    by_cases h1 : i < m
    · have q1 : (i : Int) < m := by omega
      by_cases h2 : i < 400
      · have q2 : (i : Int) < 400 := by omega
        have hil : i < l.length := by rw [← Hm.out]; exact h1
        obtain ⟨ad, bo, d, rfl, e0, e1, e2, -⟩ := Acts.get HL.out HK.out.1 i hil
        obtain ⟨k, hk⟩ : ∃ k, k = l[i].value.length := ⟨_, rfl⟩
        rw [← hk] at e2
        have Hk := hid hk
        clear hk e0 e1
        by_cases h3 : 1000 < k
        · have q3 : (1000 : Int) < k := by omega
          go_wp2_with (at_builtin; refine stopAt ?_; intro q hq)
          go_ret
          exact ⟨true, by rfl, HK.out.1, fun h => by cases h⟩
        · have q3 : decide ((1000 : Int) < (k : Int)) = false := by simp; omega
          have HK2 := hid (show ∀ j (hj : j < l.length), j < i + 1 → l[j].value.length ≤ 1000 from fun j hj h => by
            rcases Nat.lt_or_eq_of_le (Nat.le_of_lt_succ h) with x | x
            · exact HK.out.2 j hj x
            · subst x; rw [← Hk.out]; omega)
          go_wp2_with (at_builtin; refine stopAt ?_; intro q hq)
          exact ⟨⟨i + 1, by omega, by omega, by go_num, hid ⟨HK.out.1, HK2.out⟩⟩, by simp [intOf]; omega⟩
      · have q2 : decide ((i : Int) < 400) = false := by simp; omega
        go_wp2_with (at_builtin; refine stopAt ?_; intro q hq)
        go_ret
        exact ⟨false, by rfl, HK.out.1, fun _ j hj h => HK.out.2 j hj (by omega)⟩
    · have q1 : decide ((i : Int) < (m : Int)) = false := by simp; omega
      go_wp2_with (at_builtin; refine stopAt ?_; intro q hq)
      go_ret
      exact ⟨false, by rfl, HK.out.1, fun _ j hj _ => HK.out.2 j hj (by have := Hm.out; omega)⟩

/-- Both logs, with the same model. -/
structure RPair (w0 : World) (a : Nat) (A : Nat → Prop) (b : Nat) (B : Nat → Prop) (g : Lg) (w : World) : Prop where
  one : LogAt w a A g
  two : RefAt w b B g
  apart : ∀ k, A k → ¬ B k
  newA : ∀ k, A k → w0.heap.size ≤ k
  newB : ∀ k, B k → w0.heap.size ≤ k
  keep : Keep (fun _ => False) w0 w
theorem RPair.read {w0 w w' : World} {a b : Nat} {A B : Nat → Prop} {g : Lg} (h : RPair w0 a A b B g w) (hk : Keep (fun _ => False) w w') : RPair w0 a A b B g w' :=
  ⟨h.one.read hk, h.two.read hk, h.apart, h.newA, h.newB, h.keep.next hk (fun _ _ x => x) (fun _ _ x => x)⟩
theorem RPair.beside {w0 w w' : World} {a b : Nat} {A B F : Nat → Prop} {g : Lg} (h : RPair w0 a A b B g w) (hk : Keep F w w') (hF : ∀ k, F k → ¬ A k ∧ ¬ B k ∧ w0.heap.size ≤ k) : RPair w0 a A b B g w' :=
  ⟨h.one.keep hk fun k x y => (hF k y).1 x, h.two.keep hk fun k x y => (hF k y).2.1 x, h.apart, h.newA, h.newB, h.keep.next hk (fun _ _ x => x) fun k hk x => by have := (hF k x).2.2; omega⟩

/-- One half moved on: the state in between. -/
structure RHalf (w0 : World) (a : Nat) (A : Nat → Prop) (b : Nat) (B : Nat → Prop) (g h : Lg) (w : World) : Prop where
  one : LogAt w a A g
  two : RefAt w b B h
  apart : ∀ k, A k → ¬ B k
  newA : ∀ k, A k → w0.heap.size ≤ k
  newB : ∀ k, B k → w0.heap.size ≤ k
  keep : Keep (fun _ => False) w0 w
theorem RHalf.pair {w0 w : World} {a b : Nat} {A B : Nat → Prop} {g : Lg} (h : RHalf w0 a A b B g g w) : RPair w0 a A b B g w := ⟨h.one, h.two, h.apart, h.newA, h.newB, h.keep⟩
theorem RHalf.read {w0 w w' : World} {a b : Nat} {A B : Nat → Prop} {g h : Lg} (p : RHalf w0 a A b B g h w) (hk : Keep (fun _ => False) w w') : RHalf w0 a A b B g h w' :=
  ⟨p.one.read hk, p.two.read hk, p.apart, p.newA, p.newB, p.keep.next hk (fun _ _ x => x) (fun _ _ x => x)⟩
theorem RPair.half {w0 w w' : World} {a b : Nat} {A B : Nat → Prop} {g g' : Lg} (p : RPair w0 a A b B g w) (t : LogTo a A w g' w') : ∃ A', RHalf w0 a A' b B g' g w' ∧ Step A w A' w' := by
  obtain ⟨A', h1, h2, h3⟩ := t
  refine ⟨A', ⟨h1, p.two.keep h2 fun k x y => p.apart k y x, fun k x y => ?_, fun k x => ?_, p.newB, p.keep.next h2 (fun _ _ x => x) (fun i hi x => by have := p.newA i x; omega)⟩, h2, fun k hk x => (h3 k x).elim id fun y => by omega⟩
  · rcases h3 k x with z | z
    · exact p.apart k z y
    · have := p.two.lt k y; omega
  · rcases h3 k x with z | z
    · exact p.newA k z
    · exact Nat.le_trans p.keep.size z
theorem LogAt.toLog {b : Nat} {F : Nat → Prop} {w w' : World} {g : Lg} (h : LogAt w' b F g) (hk : Keep F w w') : LogTo b F w g w' := ⟨F, h, hk, fun _ x => .inl x⟩
theorem RefAt.toRef {b : Nat} {F : Nat → Prop} {w w' : World} {g : Lg} (h : RefAt w' b F g) (hk : Keep F w w') : RefTo b F w g w' := ⟨F, h, hk, fun _ x => .inl x⟩
theorem RHalf.whole {w0 w w' : World} {a b : Nat} {A B : Nat → Prop} {g g' : Lg} (p : RHalf w0 a A b B g' g w) (t : RefTo b B w g' w') : ∃ B', RPair w0 a A b B' g' w' ∧ Step B w B' w' := by
  obtain ⟨B', h1, h2, h3⟩ := t
  refine ⟨B', ⟨p.one.keep h2 fun k x y => p.apart k x y, h1, fun k x y => ?_, p.newA, fun k x => ?_, p.keep.next h2 (fun _ _ x => x) (fun i hi x => by have := p.newB i x; omega)⟩, h2, fun k hk x => (h3 k x).elim id fun y => by omega⟩
  · rcases h3 k y with z | z
    · exact p.apart k x z
    · have := p.one.lt k x; omega
  · rcases h3 k x with z | z
    · exact p.newB k z
    · exact Nat.le_trans p.keep.size z

theorem RPair.halfSame {w0 w w' : World} {a b : Nat} {A B : Nat → Prop} {g g' : Lg} (p : RPair w0 a A b B g w) (h : LogAt w' a A g') (hk : Keep A w w') : RHalf w0 a A b B g' g w' :=
  ⟨h, p.two.keep hk fun k x y => p.apart k y x, p.apart, p.newA, p.newB, p.keep.next hk (fun _ _ x => x) fun i hi x => by have := p.newA i x; omega⟩
theorem RHalf.wholeSame {w0 w w' : World} {a b : Nat} {A B : Nat → Prop} {g g' : Lg} (p : RHalf w0 a A b B g' g w) (h : RefAt w' b B g') (hk : Keep B w w') : RPair w0 a A b B g' w' :=
  ⟨p.one.keep hk fun k x y => p.apart k x y, h, p.apart, p.newA, p.newB, p.keep.next hk (fun _ _ x => x) fun i hi x => by have := p.newB i x; omega⟩

def stepG (g : Lg) (kind : Int) (s : Nat) (v : List UInt8) : Lg :=
  if kind = 0 ∨ kind = 1 ∨ kind = 2 ∨ kind = 3 then (RM.learn g s v).2
  else if kind = 4 ∨ kind = 5 ∨ kind = 6 then (RM.apply g).2
  else if kind = 7 then (RM.trim g s).2
  else if kind = 8 then (RM.install g s).2 else g

def entOf (o : Option Ent) : Ent := o.getD (0, [])
theorem Applies.any {w w' : World} {o : Option Ent} {e : Ending} (h : Applies w w' o e) : ∃ ao c, e = .returned (.tuple #[.agg #[.int .u64 ((entOf o).1 : Nat), .slice ao (entOf o).2.length c], .bool o.isSome]) ∧
    Row w' 5 1 (.slice ao (entOf o).2.length c) (entOf o).2.length (bytesV (entOf o).2) ∧ ∀ k, (Value.slice ao (entOf o).2.length c).ownBlock = some k → w.heap.size ≤ k := by
  cases o with
  | none => exact ⟨none, 0, h, Row.nil _ _ _, fun k e => by simp [Value.ownBlock] at e⟩
  | some x => exact h
theorem RApplies.any {w' : World} {o : Option Ent} {e : Ending} (h : RApplies w' o e) : ∃ ao c, e = .returned (.tuple #[.agg #[.int .u64 ((entOf o).1 : Nat), .slice ao (entOf o).2.length c], .bool o.isSome]) ∧ Cells w' ao (entOf o).2.length 1 (bytesV (entOf o).2) := by
  cases o with
  | none => exact ⟨none, 0, h, Cells.nil _ _ _⟩
  | some x => exact h
theorem Firsts.single {w w' : World} {g s n c : Nat} {ao : Option Addr} {bs : List UInt8} (hn : n = bs.length) (hg : w'.heap[g]? = some (.cells #[.int .u64 (s : Int), .slice ao n c] 32 (0, 0))) (hb : Cells w ao bs.length 1 (bytesV bs)) :
    Firsts w w' (.slice (some ⟨g, 0, none⟩) 1 1) [(s, bs)] [(s, .slice ao n c)] := by
  subst hn
  refine ⟨⟨rfl, .inr ⟨g, 1, _, (0, 0), rfl, hg, Free.zero _, Nat.le_refl _, by unfold maxLen; omega, rfl, rfl⟩⟩, rfl, fun i hi => ?_⟩
  match i, hi with
  | 0, _ => exact ⟨ao, c, rfl, hb⟩

set_option maxRecDepth 20000 in
set_option maxHeartbeats 2000000 in
theorem play_any (w0 w : World) (a b : Nat) (A B : Nat → Prop) (g : Lg) (kind : Int) (s : Nat) (bo : Option Addr) (n d : Nat) (bs : List UInt8) (p : RPair w0 a A b B g w) (hb : Cells w0 bo n 1 (bytesV bs)) (hn : n ≤ 1000) (hs : s < 18446744073709551616)
    (hk1 : -9223372036854775808 ≤ kind) (hk2 : kind ≤ 9223372036854775807) :
    Calls Try.prog 24 #[.pointer (some ⟨a, 0, none⟩), .pointer (some ⟨b, 0, none⟩), .agg #[.int .i64 kind, .int .u64 s, .slice bo n d]] w fun e w' =>
      e = .returned (.bool true) ∧ ∃ A' B', RPair w0 a A' b B' (stepG g kind s bs) w' := by
  have hbl : bs.length = n := by have := hb.1; rw [bytesV_length] at this; omega
  have hg1 := heap_alloc_new w (.cells #[.int .i64 kind, .int .u64 (s : Nat), .slice bo n d] 47)
  have hk : Keep (fun _ => False) w (w.alloc (.cells #[.int .i64 kind, .int .u64 (s : Nat), .slice bo n d] 47)) := (Keep.refl _ _).alloc _
  have hlt : ¬ A w.heap.size ∧ ¬ B w.heap.size := ⟨fun x => by have := p.one.lt _ x; omega, fun x => by have := p.two.lt _ x; omega⟩
  have HX := hid (And.intro p (And.intro hb (And.intro hbl (And.intro hg1 (And.intro hk hlt)))))
  obtain ⟨G, hG⟩ : ∃ G, G = stepG g kind s bs := ⟨_, rfl⟩
  rw [← hG]
  have HG := hid hG
  clear p hb hbl hg1 hk hlt hG
  by_cases c1 : kind = 0 ∨ kind = 1 ∨ kind = 2 ∨ kind = 3
  · have HG2 := hid (HG.out.trans (if_pos c1))
    clear HG
    rcases c1 with rfl | rfl | rfl | rfl
    all_goals
      go_enter Try.func24, Try.ntmps24
      go_wp2_with (at_builtin; refine stopAt ?_; intro q hq)
      obtain ⟨p, hb, hbl, hg1, hk, hlt⟩ := HX.out
      generalize hw1 : World.alloc w _ = w1 at hg1 hk ⊢
      clear hw1
      refine (lent_any w1 bo n d bs ((hb.keep p.keep fun _ _ x => x).keep hk fun _ _ x => x) (by omega)).mono ?_
      rintro e w2 ⟨gl, cl, rfl, hL⟩
      have hg2 := hL.keep.get hg1 id
      obtain ⟨b0, b1, b2, -⟩ := cells3 hg2
      have p2 := (p.read hk).read hL.keep
      have hgl2 := hL.row.lt (k := gl) rfl
      have hglA : ¬ A gl := fun x => by have := p.one.lt gl x; have := hL.new; have := hk.size; omega
      have hglB : ¬ B gl := fun x => by have := p.two.lt gl x; have := hL.new; have := hk.size; omega
      have hgl0 : w0.heap.size ≤ gl := by have := hL.new; have := hk.size; have := p.keep.size; omega
      have hcell : Cells w2 (some ⟨gl, 0, none⟩) n 1 (bytesV bs) := by
        have := Cells.of_row (hL.row.cut n (by omega))
        rwa [Nat.mul_one, bytesV_append, List.take_left' (by rw [bytesV_length]; exact hbl)] at this
      have HY := hid (And.intro p2 (And.intro hb (And.intro hbl (And.intro hg2 (And.intro hlt (And.intro hgl2 (And.intro hglA (And.intro hglB (And.intro hgl0 (And.intro hL.row hcell))))))))))
      clear p hb hbl hg1 hk hlt hg2 p2 hgl2 hglA hglB hgl0 hL hcell
      obtain ⟨r, hr⟩ : ∃ r, r = (RM.learn g s bs).1 := ⟨_, rfl⟩
      have Hr := hid hr
      clear hr
      go_wp2_with (at_builtin; refine stopAt ?_; intro q hq)
      refine (learn_any w2 a A g s (some ⟨gl, 0, none⟩) n cl bs HY.out.1.one HY.out.2.2.2.2.2.2.2.2.2.2 hs (by omega)).mono ?_
      rintro e w3 ⟨rfl, ht3⟩
      rw [← Hr.out]
      obtain ⟨p2, hb, hbl, hg2, hlt, hgl2, hglA, hglB, hgl0, hrow, hcell⟩ := HY.out
      obtain ⟨A3, H3, S3⟩ := p2.half ht3
      have hg3 := S3.keep.get hg2 hlt.1
      have hrow3 := hrow.keep S3.keep fun k e x => by cases e; exact hglA x
      have hglA3 : ¬ A3 gl := fun x => hglA (S3.sub gl hgl2 x)
      have hXA3 : ¬ A3 w.heap.size := fun x => hlt.1 (S3.sub _ (heap_lt hg2) x)
      clear b0 b1 b2
      obtain ⟨b0, b1, b2, -⟩ := cells3 hg3
      have HZ := hid (And.intro H3 (And.intro hg3 (And.intro hrow3 (And.intro hglA3 (And.intro (Nat.lt_of_lt_of_le hgl2 S3.keep.size) (heap_lt hg3))))))
      clear p2 hb hbl hg2 hlt hgl2 hglA hglB hgl0 hrow hcell ht3 H3 S3 hg3 hrow3 hglA3 hXA3
      go_wp2_with (at_builtin; refine stopAt ?_; intro q hq)
      refine (rlearn_any w3 b B g s bo n d bs HZ.out.1.two (HY.out.2.1.keep HZ.out.1.keep fun _ _ x => x) hs (by omega)).mono ?_
      rintro e w4 ⟨rfl, ht4⟩
      rw [← Hr.out]
      obtain ⟨p2, hb, hbl, hg2, hlt, hgl2, hglA, hglB, hgl0, hrow, hcell⟩ := HY.out
      obtain ⟨H3, hg3, hrow3, hglA3, hgl3, hX3⟩ := HZ.out
      obtain ⟨B4, P4, S4⟩ := H3.whole ht4
      have hg4 := S4.keep.get hg3 hlt.2
      have hrow4 := hrow3.keep S4.keep fun k e x => by cases e; exact hglB x
      have hglB4 : ¬ B4 gl := fun x => hglB (S4.sub gl hgl3 x)
      clear b0 b1 b2
      obtain ⟨b0, b1, b2, -⟩ := cells3 hg4
      have HW := hid (And.intro P4 (And.intro hrow4 (And.intro hglA3 (And.intro hglB4 (And.intro hb (And.intro hbl hgl0))))))
      clear p2 hb hbl hg2 hlt hgl2 hglA hglB hgl0 hrow hcell H3 hg3 hrow3 hglA3 hgl3 hX3 ht4 P4 S4 hg4 hrow4 hglB4
      go_wp2_with (at_builtin; refine stopAt ?_; intro q hq)
      refine (whole_any w4 gl n cl d bo bs HW.out.2.1 (HW.out.2.2.2.2.1.keep HW.out.1.keep fun _ _ x => x) (by omega)).mono ?_
      rintro e w5 ⟨rfl, hk5⟩
      have HK5 := hid hk5
      clear hk5 b0 b1 b2
      go_wp2_with (at_builtin; refine stopAt ?_; intro q hq)
      refine (spoil_any w5 (.slice (some ⟨gl, 0, none⟩) n cl) bs (by
        have h := (HW.out.2.1.keep HK5.out fun _ _ x => x).cut n (by omega)
        rw [Nat.mul_one, bytesV_append, List.take_left' (by rw [bytesV_length]; exact HW.out.2.2.2.2.2.1)] at h
        rw [HW.out.2.2.2.2.2.1]
        exact h)).mono ?_
      rintro e w6 ⟨rfl, hk6⟩
      have HP := hid ((HW.out.1.read HK5.out).beside hk6 fun k e => by
        cases e
        exact ⟨HW.out.2.2.1, HW.out.2.2.2.1, HW.out.2.2.2.2.2.2⟩)
      clear hk6
      go_wp2_with (at_builtin; refine stopAt ?_; intro q hq)
      go_ret
      exact ⟨by rfl, A3, B4, by rw [HG2.out]; exact HP.out⟩
  by_cases c2 : kind = 4 ∨ kind = 5 ∨ kind = 6
  · have HG2 := hid (HG.out.trans ((if_neg c1).trans (if_pos c2)))
    clear HG c1
    obtain ⟨x, hx⟩ : ∃ x, x = entOf (RM.apply g).1 := ⟨_, rfl⟩
    obtain ⟨ob, hob⟩ : ∃ x, x = (RM.apply g).1.isSome := ⟨_, rfl⟩
    have Hx := hid (And.intro hx hob)
    obtain ⟨xs, hxs⟩ : ∃ z, z = x.1 := ⟨_, rfl⟩
    obtain ⟨xn, hxn⟩ : ∃ z, z = x.2.length := ⟨_, rfl⟩
    have Hn := hid (And.intro hxs hxn)
    clear hx hob hxs hxn
    rcases c2 with rfl | rfl | rfl
    all_goals
      go_enter Try.func24, Try.ntmps24
      go_wp2_with (at_builtin; refine stopAt ?_; intro q hq)
      obtain ⟨p, hb, hbl, hg1, hk, hlt⟩ := HX.out
      generalize hw1 : World.alloc w _ = w1 at hg1 hk ⊢
      clear hw1
      have p1 := p.read hk
      refine (apply_any w1 a A g p1.one).mono ?_
      rintro e w2 ⟨hap, hL2, hk2⟩
      obtain ⟨ao, c, rfl, hr, hf⟩ := hap.any
      rw [← Hx.out.1] at hr hf ⊢
      rw [← Hx.out.2, ← Hn.out.1, ← Hn.out.2]
      have hH2 := p1.halfSame hL2 hk2
      have hfr : ∀ k, (Value.slice ao xn c).ownBlock = some k → ¬ A k ∧ ¬ B k ∧ w0.heap.size ≤ k := fun k e => by
        rw [Hn.out.2] at e
        have := hf k e
        exact ⟨fun y => by have := p1.one.lt k y; omega, fun y => by have := p1.two.lt k y; omega, by have := p1.keep.size; omega⟩
      have HY := hid (And.intro hH2 (And.intro hr hfr))
      clear p hb hbl hg1 hk hlt p1 hap hL2 hk2 hr hf hH2 hfr
      go_wp2_with (at_builtin; refine stopAt ?_; intro q hq)
      have hE := heap_alloc_new w2 (.cells #[.int .u64 (xs : Nat), .slice ao xn c] 32)
      have kE : Keep (fun _ => False) w2 (w2.alloc (.cells #[.int .u64 (xs : Nat), .slice ao xn c] 32)) := (Keep.refl _ _).alloc _
      obtain ⟨w3, hw3⟩ : ∃ w3, w3 = w2.alloc (.cells #[.int .u64 (xs : Nat), .slice ao xn c] 32) := ⟨_, rfl⟩
      rw [← hw3] at hE kE ⊢
      obtain ⟨E, he⟩ : ∃ E, E = w2.heap.size := ⟨_, rfl⟩
      rw [← he] at hE ⊢
      have hEB : ¬ B E := fun y => by have := HY.out.1.two.lt E y; omega
      have H3 := HY.out.1.read kE
      refine (rapply_any w3 b B g H3.two).mono ?_
      rintro e w4 ⟨rap, hR4, hk4⟩
      obtain ⟨ao2, c2, rfl, hc2⟩ := rap.any
      rw [← Hx.out.1] at hc2 ⊢
      rw [← Hx.out.2, ← Hn.out.1, ← Hn.out.2]
      have P4 := H3.wholeSame hR4 hk4
      have hr4 := (HY.out.2.1.keep kE fun _ _ x => x).keep hk4 fun k e y => by rw [← Hn.out.2] at e; exact (HY.out.2.2 k e).2.1 y
      have hE4 := hk4.get hE hEB
      have HZ := hid (And.intro P4 (And.intro hr4 (And.intro hE4 (And.intro hc2 (HY.out.2.2)))))
      obtain ⟨f0, f1, -, fl⟩ := cells2 hE4
      clear HY hE kE hw3 he hEB H3 rap hR4 hk4 P4 hr4 hE4 hc2
      cases ob
      all_goals
        go_wp2_with (at_builtin; refine stopAt ?_; intro q hq)
        obtain ⟨P4, hr4, hE4, hc2, hfr⟩ := HZ.out
        have hF1 := heap_alloc_new w4 (.cells #[.int .u64 (xs : Nat), .slice ao2 xn c2] 32)
        have kF1 : Keep (fun _ => False) w4 (w4.alloc (.cells #[.int .u64 (xs : Nat), .slice ao2 xn c2] 32)) := (Keep.refl _ _).alloc _
        obtain ⟨w5, hw5⟩ : ∃ w5, w5 = w4.alloc (.cells #[.int .u64 (xs : Nat), .slice ao2 xn c2] 32) := ⟨_, rfl⟩
        have zF1 : w5.heap.size = w4.heap.size + 1 := by rw [hw5]; simp
        rw [← hw5] at hF1 kF1 ⊢
        clear hw5
        have hG1 := heap_alloc_new w5 (.cells #[.int .u64 (xs : Nat), .slice ao xn c] 32)
        have kG1 : Keep (fun _ => False) w5 (w5.alloc (.cells #[.int .u64 (xs : Nat), .slice ao xn c] 32)) := (Keep.refl _ _).alloc _
        have zG1 : (w5.alloc (.cells #[.int .u64 (xs : Nat), .slice ao xn c] 32)).heap.size = w5.heap.size + 1 := by simp
        obtain ⟨w6, hw6⟩ : ∃ w6, w6 = w5.alloc (.cells #[.int .u64 (xs : Nat), .slice ao xn c] 32) := ⟨_, rfl⟩
        rw [← hw6] at hG1 kG1 zG1 ⊢
        clear hw6
        have hG2 := heap_alloc_new w6 (.cells #[.int .u64 (xs : Nat), .slice ao2 xn c2] 32)
        have kG2 : Keep (fun _ => False) w6 (w6.alloc (.cells #[.int .u64 (xs : Nat), .slice ao2 xn c2] 32)) := (Keep.refl _ _).alloc _
        obtain ⟨w7, hw7⟩ : ∃ w7, w7 = w6.alloc (.cells #[.int .u64 (xs : Nat), .slice ao2 xn c2] 32) := ⟨_, rfl⟩
        rw [← hw7] at hG2 kG2 ⊢
        clear hw7
        rw [zG1, zF1] at hG2
        rw [zF1] at hG1
        have hG3 := kG2.get hG1 id
        have k47 : Keep (fun _ => False) w4 w7 := (kF1.next kG1 (fun _ _ x => x) (fun _ _ x => x)).next kG2 (fun _ _ x => x) (fun _ _ x => x)
        refine (rsame_any w7 _ _ [(xs, x.2)] [(xs, .slice ao xn c)] [(xs, .slice ao2 xn c2)] (Firsts.single Hn.out.2 hG3 ((Cells.of_row hr4).keep k47 fun _ _ x => x)) (Firsts.single Hn.out.2 hG2 (hc2.keep k47 fun _ _ x => x)) (by simp)).mono ?_
        rintro e w8 ⟨rfl, hk8⟩
        have k48 := k47.next hk8 (fun _ _ x => x : ∀ i, i < w4.heap.size → False → False) (fun _ _ x => x)
        clear f0 f1 fl
        obtain ⟨f0, f1, -, fl⟩ := cells2 (k48.get hE4 id)
        have HV := hid (And.intro (P4.read k48) (And.intro (hr4.keep k48 fun _ _ x => x) hfr))
        clear P4 hr4 hE4 hc2 hfr hF1 kF1 hG1 kG1 zG1 hG2 kG2 hG3 k47 k48 hk8 zF1
        go_wp2_with (at_builtin; refine stopAt ?_; intro q hq)
        refine (spoil_any w8 (.slice ao xn c) x.2 (by have := HV.out.2.1; rw [← Hn.out.2] at this ⊢; exact this)).mono ?_
        rintro e w9 ⟨rfl, hk9⟩
        have HP := hid (HV.out.1.beside hk9 HV.out.2.2)
        clear hk9 f0 f1 fl
        go_wp2_with (at_builtin; refine stopAt ?_; intro q hq)
        go_ret
        exact ⟨by rfl, A, B, by rw [HG2.out]; exact HP.out⟩
  by_cases c3 : kind = 7
  · have HG2 := hid (HG.out.trans ((if_neg c1).trans ((if_neg c2).trans (if_pos c3))))
    clear HG c1 c2
    subst c3
    obtain ⟨r, hr⟩ : ∃ r, r = (RM.trim g s).1 := ⟨_, rfl⟩
    have Hr := hid hr
    clear hr
    go_enter Try.func24, Try.ntmps24
    go_wp2_with (at_builtin; refine stopAt ?_; intro q hq)
    obtain ⟨p, hb, hbl, hg1, hk, hlt⟩ := HX.out
    generalize hw1 : World.alloc w _ = w1 at hg1 hk ⊢
    clear hw1
    have p1 := p.read hk
    refine (trim_any w1 a A g s p1.one).mono ?_
    rintro e w2 ⟨rfl, hL2, hk2⟩
    rw [← Hr.out]
    have hg2 := hk2.get hg1 hlt.1
    have HY := hid (And.intro (p1.halfSame hL2 hk2) (And.intro hg2 hlt))
    obtain ⟨b0, b1, b2, -⟩ := cells3 hg2
    clear p hb hbl hg1 hk hlt p1 hL2 hk2 hg2
    go_wp2_with (at_builtin; refine stopAt ?_; intro q hq)
    refine (rtrim_any w2 b B g s HY.out.1.two).mono ?_
    rintro e w3 ⟨rfl, ht3⟩
    rw [← Hr.out]
    obtain ⟨B3, P3, -⟩ := HY.out.1.whole ht3
    have HP := hid P3
    clear ht3 P3 b0 b1 b2
    go_wp2_with (at_builtin; refine stopAt ?_; intro q hq)
    go_ret
    exact ⟨by rfl, A, B3, by rw [HG2.out]; exact HP.out⟩
  by_cases c4 : kind = 8
  · have HG2 := hid (HG.out.trans ((if_neg c1).trans ((if_neg c2).trans ((if_neg c3).trans (if_pos c4)))))
    clear HG c1 c2 c3
    subst c4
    obtain ⟨r, hr⟩ : ∃ r, r = (RM.install g s).1 := ⟨_, rfl⟩
    have Hr := hid hr
    clear hr
    cases r
    all_goals
      go_enter Try.func24, Try.ntmps24
      go_wp2_with (at_builtin; refine stopAt ?_; intro q hq)
      obtain ⟨p, hb, hbl, hg1, hk, hlt⟩ := HX.out
      generalize hw1 : World.alloc w _ = w1 at hg1 hk ⊢
      clear hw1
      have p1 := p.read hk
      refine (install_any w1 a A g s p1.one hs).mono ?_
      rintro e w2 ⟨rfl, hL2, hk2⟩
      rw [← Hr.out]
      have hg2 := hk2.get hg1 hlt.1
      have HY := hid (And.intro (p1.halfSame hL2 hk2) (And.intro hg2 hlt))
      obtain ⟨b0, b1, b2, -⟩ := cells3 hg2
      clear p hb hbl hg1 hk hlt p1 hL2 hk2 hg2
      go_wp2_with (at_builtin; refine stopAt ?_; intro q hq)
      refine (rinstall_any w2 b B g s HY.out.1.two hs).mono ?_
      rintro e w3 ⟨rfl, ht3⟩
      rw [← Hr.out]
      obtain ⟨B3, P3, -⟩ := HY.out.1.whole ht3
      have HP := hid P3
      clear ht3 P3 b0 b1 b2
      go_wp2_with (at_builtin; refine stopAt ?_; intro q hq)
      go_ret
      exact ⟨by rfl, A, B3, by rw [HG2.out]; exact HP.out⟩
  have HG2 := hid (HG.out.trans ((if_neg c1).trans ((if_neg c2).trans ((if_neg c3).trans (if_neg c4)))))
  have k0 : (kind == 0) = false := by simp; omega
  have k1 : (kind == 1) = false := by simp; omega
  have k2 : (kind == 2) = false := by simp; omega
  have k3 : (kind == 3) = false := by simp; omega
  have k4 : (kind == 4) = false := by simp; omega
  have k5 : (kind == 5) = false := by simp; omega
  have k6 : (kind == 6) = false := by simp; omega
  have k7 : (kind == 7) = false := by simp; omega
  have k8 : (kind == 8) = false := by simp; omega
  clear HG c1 c2 c3 c4
  go_enter Try.func24, Try.ntmps24
  go_wp2_with (at_builtin; refine stopAt ?_; intro q hq)
  go_ret
  exact ⟨by rfl, A, B, by rw [HG2.out]; exact HX.out.1.read HX.out.2.2.2.2.1⟩
end Go.Proofs.Ytnignhfallhblaa
