/- Both disks side by side: what a law's act does to both. Conditions: as the contracts name them. -/
import Derived.Test.YtenijbngmdaakaaRefC
import Derived.Test.YtenijbngmdaakaaShelf
import Derived.BigQuiet
namespace Go.Proofs.Ytenijbngmdaakaa
open Go.RowKit
open DM

/-- The program's disk b is D, the document's c is E; neither has a block of the other, or one that was there in w0. -/
structure Pair (w0 : World) (b c : Nat) (F G : Nat → Prop) (D E : Dk) (w : World) : Prop where
  one : DiskAt w b F D
  two : RefAt w c G E
  apart : ∀ k, F k → ¬ G k
  new : ∀ k, F k ∨ G k → w0.heap.size ≤ k
  keep : Keep (fun _ => False) w0 w

theorem Pair.step {w0 w w' : World} {b c : Nat} {F G : Nat → Prop} {D E : Dk} (h : Pair w0 b c F G D E w) (hk : Keep (fun _ => False) w w') : Pair w0 b c F G D E w' :=
  ⟨h.one.keep hk fun _ _ x => x, h.two.keep hk fun _ _ x => x, h.apart, h.new, h.keep.next hk (fun _ _ x => x) fun _ _ x => x⟩
theorem Pair.beside {w0 w w' : World} {b c : Nat} {F G H : Nat → Prop} {D E : Dk} (h : Pair w0 b c F G D E w) (hk : Keep H w w') (hH : ∀ k, H k → ¬ F k ∧ ¬ G k ∧ w0.heap.size ≤ k) : Pair w0 b c F G D E w' :=
  ⟨h.one.keep hk fun k x y => (hH k y).1 x, h.two.keep hk fun k x y => (hH k y).2.1 x, h.apart, h.new, h.keep.next hk (fun _ _ x => x) fun k hk' y => by have := (hH k y).2.2; omega⟩
theorem Pair.toD {w0 w w' : World} {b c : Nat} {F G : Nat → Prop} {D E D' : Dk} (h : Pair w0 b c F G D E w) (ht : DiskTo b F w D' w') : ∃ F', Pair w0 b c F' G D' E w' ∧ ∀ k, F' k → F k ∨ w.heap.size ≤ k :=
  let ⟨F', h1, h2, h3⟩ := ht
  ⟨F', ⟨h1, h.two.keep h2 fun k x y => h.apart k y x, fun k x y => (h3 k x).elim (fun z => h.apart k z y) fun z => by have := h.two.lt k y; omega,
    fun k x => x.elim (fun x => (h3 k x).elim (fun y => h.new k (.inl y)) fun y => Nat.le_trans h.keep.size y) fun x => h.new k (.inr x),
    h.keep.next h2 (fun _ _ x => x) fun k hk x => by have := h.new k (.inl x); omega⟩, h3⟩
theorem Pair.toR {w0 w w' : World} {b c : Nat} {F G : Nat → Prop} {D E E' : Dk} (h : Pair w0 b c F G D E w) (ht : RefTo c G w E' w') : ∃ G', Pair w0 b c F G' D E' w' ∧ ∀ k, G' k → G k ∨ w.heap.size ≤ k :=
  let ⟨G', h1, h2, h3⟩ := ht
  ⟨G', ⟨h.one.keep h2 fun k x y => h.apart k x y, h1, fun k x y => (h3 k y).elim (fun z => h.apart k x z) fun z => by have := h.one.lt k x; omega,
    fun k x => x.elim (fun x => h.new k (.inl x)) fun x => (h3 k x).elim (fun y => h.new k (.inr y)) fun y => Nat.le_trans h.keep.size y,
    h.keep.next h2 (fun _ _ x => x) fun k hk x => by have := h.new k (.inr x); omega⟩, h3⟩

def stepD (D : Dk) (x : Act3) : Dk :=
  if x.kind = 0 then (DM.write D x.at_ (rowL x.fill (rowN x.n))).2 else if x.kind = 1 then (DM.sync D).2 else if x.kind = 2 then DM.arm D x.n else if x.kind = 3 then DM.crash D x.keep else D
def codeD (D : Dk) (x : Act3) : Int :=
  if x.kind = 0 then (DM.write D x.at_ (rowL x.fill (rowN x.n))).1 else if x.kind = 1 then (DM.sync D).1 else 0

theorem stepD_waits (D : Dk) (x : Act3) : (stepD D x).waits.length ≤ D.waits.length + 1 := by
  unfold stepD
  split
  · unfold DM.write
    split
    · exact Nat.le_succ _
    · split
      · exact Nat.le_succ _
      · split <;> simp [act_waits]
  · split
    · unfold DM.sync
      split <;> simp [act_waits]
    · split
      · simp [DM.arm]
      · split
        · simp [DM.crash]
        · exact Nat.le_succ _

theorem cells5 {w : World} {b : Nat} {T : TypeId} {a0 a1 a2 a3 a4 : Value} (H : w.heap[b]? = some (.cells #[a0, a1, a2, a3, a4] T (0, 0))) :
    w.cell? ⟨b, 0, none⟩ = some a0 ∧ w.cell? ⟨b, 1, none⟩ = some a1 ∧ w.cell? ⟨b, 2, none⟩ = some a2 ∧ w.cell? ⟨b, 3, none⟩ = some a3 ∧ w.cell? ⟨b, 4, none⟩ = some a4 := by
  refine ⟨?_, ?_, ?_, ?_, ?_⟩ <;> simp [World.cell?, H]

set_option maxRecDepth 20000 in
set_option maxHeartbeats 2000000 in
theorem play_any (w0 w : World) (b c : Nat) (F G : Nat → Prop) (D E : Dk) (x : Act3) (kv : Value) (P : Pair w0 b c F G D E w) (hkv : Ints w0 kv x.keep)
    (b0 : -9223372036854775808 ≤ x.kind ∧ x.kind ≤ 9223372036854775807) (b1 : -9223372036854775808 ≤ x.at_ ∧ x.at_ ≤ 9223372036854775807) (b2 : -9223372036854775808 ≤ x.n ∧ x.n ≤ 9223372036854775807)
    (hD : D.waits.length ≤ 100000) (hE : E.waits.length ≤ 100000) :
    Calls Try.prog 20 #[.pointer (some ⟨b, 0, none⟩), .pointer (some ⟨c, 0, none⟩), .agg #[.int .i64 x.kind, .int .i64 x.at_, .int .u8 (x.fill.toNat : Int), .int .i64 x.n, kv]] w fun e w' =>
      e = .returned (.bool (decide (codeD D x = codeD E x))) ∧ ∃ F' G', Pair w0 b c F' G' (stepD D x) (stepD E x) w' := by
  obtain ⟨kind, at_, fill, n, ks⟩ := x
  simp only at *
  obtain ⟨aok, ck, rfl, hkc, hkm, hck, hwk⟩ := hkv.cells
  have hkn : ks.length ≤ 9223372036854775807 := by unfold maxLen at hkm; omega
  have oldk : ∀ (F : Nat → Prop), (∀ k, F k → w0.heap.size ≤ k) → 0 < ks.length → ∀ x, aok = some x → ¬ F x.block := fun F hF hp x hx y => by
    subst hx; have := hck.lt (by omega); have := hF _ y; omega
  have HK : Hid (ks.length ≤ 9223372036854775807 ∧ Cells w0 aok ks.length 1 (intsV ks) ∧ (∀ z ∈ ks, -9223372036854775808 ≤ z ∧ z ≤ 9223372036854775807) ∧ ∀ (F : Nat → Prop), (∀ k, F k → w0.heap.size ≤ k) → 0 < ks.length → ∀ x, aok = some x → ¬ F x.block) := hid ⟨hkn, hck, hwk, oldk⟩
  clear hkv hkm hck hwk hkn oldk hkc
  have hg1 := heap_alloc_new w (.cells #[.int .i64 kind, .int .i64 at_, .int .u8 (fill.toNat : Int), .int .i64 n, .slice aok ks.length ck] 37)
  have hk1 : Keep (fun _ => False) w (w.alloc (.cells #[.int .i64 kind, .int .i64 at_, .int .u8 (fill.toNat : Int), .int .i64 n, .slice aok ks.length ck] 37)) := (Keep.refl _ _).alloc _
  have P1 := P.step hk1
  have Hx := hid (And.intro hg1 (And.intro P1 hk1))
  have Pw := hid P
  clear hg1 hk1 P1 P
  by_cases k0 : kind = 0
  · subst k0
    have e1 : codeD D ⟨0, at_, fill, n, ks⟩ = (DM.write D at_ (rowL fill (rowN n))).1 := rfl
    have e2 : codeD E ⟨0, at_, fill, n, ks⟩ = (DM.write E at_ (rowL fill (rowN n))).1 := rfl
    have e3 : stepD D ⟨0, at_, fill, n, ks⟩ = (DM.write D at_ (rowL fill (rowN n))).2 := rfl
    have e4 : stepD E ⟨0, at_, fill, n, ks⟩ = (DM.write E at_ (rowL fill (rowN n))).2 := rfl
    rw [e1, e2, e3, e4]
    clear e1 e2 e3 e4
    go_enter Try.func20, Try.ntmps20
    go_wp2_with (at_builtin; refine stopAt ?_; intro q hq)
    obtain ⟨hg1, P1, -⟩ := Hx.out
    obtain ⟨w1, hw1⟩ : ∃ w1, w1 = w.alloc (.cells #[.int .i64 0, .int .i64 at_, .int .u8 (fill.toNat : Int), .int .i64 n, .slice aok ks.length ck] 37) := ⟨_, rfl⟩
    rw [← hw1] at hg1 P1 ⊢
    clear hw1
    refine (row_any w1 fill n b2.1 b2.2).mono ?_
    rintro e w2 ⟨v2, rfl, hf2⟩
    have P2 := P1.step hf2.keep
    have hg2 := hf2.keep.get hg1 id
    obtain ⟨aoB, cB, rfl, hcB, hB2, haB2⟩ := Fresh.srcN (F := fun k => F k ∨ G k) hf2 (fun k h => h.elim (P1.one.lt k) (P1.two.lt k)) _ rfl
    have hnF : ¬ F w.heap.size := fun h => by have := Pw.out.one.lt _ h; omega
    have hnG : ¬ G w.heap.size := fun h => by have := Pw.out.two.lt _ h; omega
    have hL : (rowL fill (rowN n)).length ≤ 9223372036854775807 := by obtain ⟨_, _, _, _, hm, _⟩ := hf2.row.form; unfold maxLen at hm; omega
    have hown1 := hf2.own
    have hrow2 := hf2.row
    have hsz1 : ∀ k, F k ∨ G k → k < w1.heap.size := fun k h => h.elim (P1.one.lt k) (P1.two.lt k)
    have hsz12 := hf2.keep.size
    clear hf2
    obtain ⟨bs, hbs⟩ : ∃ bs, bs = rowL fill (rowN n) := ⟨_, rfl⟩
    rw [← hbs] at hB2 hcB hL hrow2 hown1 ⊢
    have Hbs := hid hbs
    clear hbs
    obtain ⟨i0, i1, i2, i3, i4⟩ := cells5 hg2
    have Hy := hid (And.intro hg1 (And.intro hg2 (And.intro hrow2 (And.intro hown1 hsz1))))
    clear hg1 hg2 hrow2 hown1 hsz1
    go_wp2_with (at_builtin; refine stopAt ?_; intro q hq)
    refine (write_any w2 b F D at_ aoB _ cB bs P2.one hB2 (fun _ x hx hF => haB2 x hx (.inl hF)) (by omega) hL (by omega)).mono ?_
    rintro e w3 ⟨rfl, ht3⟩
    obtain ⟨F3, P3, hF3⟩ := P2.toD ht3
    obtain ⟨-, -, hk3, -⟩ := ht3
    have hB3 := hB2.keep0 hk3 (fun _ x hx hF => haB2 x hx (.inl hF))
    have hg3 := hk3.get Hy.out.2.1 hnF
    clear i0 i1 i2 i3 i4
    obtain ⟨i0, i1, i2, i3, i4⟩ := cells5 hg3
    have Hg3 := hid hg3
    have Hk3 := hid hk3
    clear hg3 hk3
    go_wp2_with (at_builtin; refine stopAt ?_; intro q hq)
    refine (ref_write w3 c G E at_ aoB _ cB bs P3.two hB3 (fun _ x hx hF => haB2 x hx (.inr hF)) (by omega) hL (by omega)).mono ?_
    rintro e w4 ⟨rfl, ht4⟩
    obtain ⟨G4, P4, hG4⟩ := P3.toR ht4
    obtain ⟨-, -, hk4, -⟩ := ht4
    have Hk4 := hid hk4
    clear i0 i1 i2 i3 i4 hk4
    go_wp2_with (at_builtin; refine stopAt ?_; intro q hq)
    obtain ⟨hg1, hg2, hrow2, hown1, hsz1⟩ := Hy.out
    have hrow4 := (hrow2.keep Hk3.out (fun k e hF => by have := hown1 k e; have := hsz1 k (.inl hF); omega)).keep Hk4.out (fun k e hF => by have := hown1 k e; have := hsz1 k (.inr hF); omega)
    refine (spoil_any w4 _ bs hrow4).mono ?_
    rintro e w5 ⟨rfl, hk5⟩
    have hsz := Pw.out.keep.size
    have hsz3 := Hk3.out.size
    have P5 := P4.beside hk5 (fun k hk => ⟨fun hF => by
        have h1 := hrow2.lt hk
        have h2 := hown1 k hk
        rcases hF3 k hF with h | h
        · have := hsz1 k (.inl h); omega
        · omega, fun hG => by
        have h1 := hrow2.lt hk
        have h2 := hown1 k hk
        rcases hG4 k hG with h | h
        · have := hsz1 k (.inr h); omega
        · omega, by have h2 := hown1 k hk; have := P1.keep.size; omega⟩)
    have P5' := hid P5
    clear P5 hk5 P4 P3 P2 P1 hrow4 hrow2
    go_wp2_with (at_builtin; refine stopAt ?_; intro q hq)
    go_ret
    rw [← Hbs.out]
    exact ⟨by rfl, F3, G4, P5'.out⟩
  · by_cases k1 : kind = 1
    · subst k1
      have e1 : codeD D ⟨1, at_, fill, n, ks⟩ = (DM.sync D).1 := rfl
      have e2 : codeD E ⟨1, at_, fill, n, ks⟩ = (DM.sync E).1 := rfl
      have e3 : stepD D ⟨1, at_, fill, n, ks⟩ = (DM.sync D).2 := rfl
      have e4 : stepD E ⟨1, at_, fill, n, ks⟩ = (DM.sync E).2 := rfl
      rw [e1, e2, e3, e4]
      clear e1 e2 e3 e4 k0
      go_enter Try.func20, Try.ntmps20
      go_wp2_with (at_builtin; refine stopAt ?_; intro q hq)
      obtain ⟨hg1, P1, -⟩ := Hx.out
      obtain ⟨w1, hw1⟩ : ∃ w1, w1 = w.alloc (.cells #[.int .i64 1, .int .i64 at_, .int .u8 (fill.toNat : Int), .int .i64 n, .slice aok ks.length ck] 37) := ⟨_, rfl⟩
      rw [← hw1] at hg1 P1 ⊢
      clear hw1 hg1
      refine (sync_any w1 b F D P1.one (by omega)).mono ?_
      rintro e w3 ⟨rfl, ht3⟩
      obtain ⟨F3, P3, -⟩ := P1.toD ht3
      clear ht3
      go_wp2_with (at_builtin; refine stopAt ?_; intro q hq)
      refine (ref_sync w3 c G E P3.two (by omega)).mono ?_
      rintro e w4 ⟨rfl, ht4⟩
      obtain ⟨G4, P4, -⟩ := P3.toR ht4
      clear ht4 P3 P1
      go_wp2_with (at_builtin; refine stopAt ?_; intro q hq)
      go_ret
      refine ⟨by rfl, F3, G4, P4⟩
    · by_cases k2 : kind = 2
      · subst k2
        have e1 : codeD D ⟨2, at_, fill, n, ks⟩ = 0 := rfl
        have e2 : codeD E ⟨2, at_, fill, n, ks⟩ = 0 := rfl
        have e3 : stepD D ⟨2, at_, fill, n, ks⟩ = DM.arm D n := rfl
        have e4 : stepD E ⟨2, at_, fill, n, ks⟩ = DM.arm E n := rfl
        rw [e1, e2, e3, e4]
        clear e1 e2 e3 e4 k0 k1
        go_enter Try.func20, Try.ntmps20
        go_wp2_with (at_builtin; refine stopAt ?_; intro q hq)
        obtain ⟨hg1, P1, -⟩ := Hx.out
        obtain ⟨w1, hw1⟩ : ∃ w1, w1 = w.alloc (.cells #[.int .i64 2, .int .i64 at_, .int .u8 (fill.toNat : Int), .int .i64 n, .slice aok ks.length ck] 37) := ⟨_, rfl⟩
        rw [← hw1] at hg1 P1 ⊢
        clear hw1
        have hnF : ¬ F w.heap.size := fun h => by have := Pw.out.one.lt _ h; omega
        refine (arm_any w1 b F D n (by omega) P1.one).mono ?_
        rintro e w3 ⟨rfl, ht3⟩
        obtain ⟨F3, P3, -⟩ := P1.toD ht3
        obtain ⟨-, -, hk3, -⟩ := ht3
        have hg3 := hk3.get hg1 hnF
        obtain ⟨i0, i1, i2, i3, i4⟩ := cells5 hg3
        clear hk3 hg3 hg1
        go_wp2_with (at_builtin; refine stopAt ?_; intro q hq)
        refine (ref_arm w3 c G E n (by omega) P3.two).mono ?_
        rintro e w4 ⟨rfl, ht4⟩
        obtain ⟨G4, P4, -⟩ := P3.toR ht4
        clear ht4 P3 P1
        go_wp2_with (at_builtin; refine stopAt ?_; intro q hq)
        go_ret
        refine ⟨by rfl, F3, G4, P4⟩
      · by_cases k3 : kind = 3
        · subst k3
          have e1 : codeD D ⟨3, at_, fill, n, ks⟩ = 0 := rfl
          have e2 : codeD E ⟨3, at_, fill, n, ks⟩ = 0 := rfl
          have e3 : stepD D ⟨3, at_, fill, n, ks⟩ = DM.crash D ks := rfl
          have e4 : stepD E ⟨3, at_, fill, n, ks⟩ = DM.crash E ks := rfl
          rw [e1, e2, e3, e4]
          clear e1 e2 e3 e4 k0 k1 k2
          go_enter Try.func20, Try.ntmps20
          go_wp2_with (at_builtin; refine stopAt ?_; intro q hq)
          obtain ⟨hg1, P1, -⟩ := Hx.out
          obtain ⟨w1, hw1⟩ : ∃ w1, w1 = w.alloc (.cells #[.int .i64 3, .int .i64 at_, .int .u8 (fill.toNat : Int), .int .i64 n, .slice aok ks.length ck] 37) := ⟨_, rfl⟩
          rw [← hw1] at hg1 P1 ⊢
          clear hw1
          have hnF : ¬ F w.heap.size := fun h => by have := Pw.out.one.lt _ h; omega
          refine (crash_any w1 b F D aok _ ck ks P1.one (HK.out.2.1.keep P1.keep (fun _ _ x => x)) (HK.out.2.2.2 F fun k hk => P1.new k (.inl hk)) HK.out.1 HK.out.2.2.1 (by omega)).mono ?_
          rintro e w3 ⟨rfl, ht3⟩
          obtain ⟨F3, P3, -⟩ := P1.toD ht3
          obtain ⟨-, -, hk3, -⟩ := ht3
          have hg3 := hk3.get hg1 hnF
          obtain ⟨i0, i1, i2, i3, i4⟩ := cells5 hg3
          clear hk3 hg3 hg1
          go_wp2_with (at_builtin; refine stopAt ?_; intro q hq)
          refine (ref_crash w3 c G E aok _ ck ks P3.two (HK.out.2.1.keep P3.keep (fun _ _ x => x)) (HK.out.2.2.2 G fun k hk => P3.new k (.inr hk)) HK.out.1 HK.out.2.2.1 (by omega)).mono ?_
          rintro e w4 ⟨rfl, ht4⟩
          obtain ⟨G4, P4, -⟩ := P3.toR ht4
          clear ht4 P3 P1
          go_wp2_with (at_builtin; refine stopAt ?_; intro q hq)
          go_ret
          refine ⟨by rfl, F3, G4, P4⟩
        · have e1 : codeD D ⟨kind, at_, fill, n, ks⟩ = 0 := by simp [codeD, k0, k1]
          have e2 : codeD E ⟨kind, at_, fill, n, ks⟩ = 0 := by simp [codeD, k0, k1]
          have e3 : stepD D ⟨kind, at_, fill, n, ks⟩ = D := by simp [stepD, k0, k1, k2, k3]
          have e4 : stepD E ⟨kind, at_, fill, n, ks⟩ = E := by simp [stepD, k0, k1, k2, k3]
          rw [e1, e2, e3, e4]
          clear e1 e2 e3 e4
          have c0 : (kind == 0) = false := by simpa using k0
          have c1 : (kind == 1) = false := by simpa using k1
          have c2 : (kind == 2) = false := by simpa using k2
          have c3 : (kind == 3) = false := by simpa using k3
          clear k0 k1 k2 k3
          go_enter Try.func20, Try.ntmps20
          go_wp2_with (at_builtin; refine stopAt ?_; intro q hq)
          go_ret
          refine ⟨by rfl, F, G, Hx.out.2.1⟩

set_option maxRecDepth 20000 in
set_option maxHeartbeats 2000000 in
theorem alike_any (w0 w : World) (b c : Nat) (F G : Nat → Prop) (D : Dk) (at_ : Int) (P : Pair w0 b c F G D D w) (hat : at_ < 9223372036854775808) (hD : D.waits.length ≤ 100000) :
    Calls Try.prog 21 #[.pointer (some ⟨b, 0, none⟩), .pointer (some ⟨c, 0, none⟩), .int .i64 at_] w fun e w' => e = .returned (.bool true) ∧ Keep (fun _ => False) w w' := by
  go_enter Try.func21, Try.ntmps21
  go_wp2_with (at_builtin; refine stopAt ?_; intro q hq)
  refine (read_any w b F D at_ P.one hat).mono ?_
  rintro e w1 ⟨v1, rfl, hr1, hk1, -⟩
  have P1 := P.step hk1
  have Hr1 := hid hr1
  clear hr1
  go_wp2_with (at_builtin; refine stopAt ?_; intro q hq)
  refine (ref_read w1 c G D at_ P1.two hat (by omega)).mono ?_
  rintro e w2 ⟨v2, rfl, hr2, hk2, -⟩
  have P2 := P1.step hk2
  have hr1 := Hr1.out.keep hk2 (fun _ _ x => x)
  have k02 : Keep (fun _ => False) w w2 := hk1.next hk2 (fun _ _ x => x) (fun _ _ x => x)
  obtain ⟨r, hr⟩ : ∃ r, r = (DM.read D at_).2 := ⟨_, rfl⟩
  obtain ⟨bs, hbs⟩ : ∃ bs, bs = (DM.read D at_).1 := ⟨_, rfl⟩
  rw [← hr]
  rw [← hbs] at hr1 hr2
  obtain ⟨ao1, c1, rfl, -⟩ := hr1.form
  obtain ⟨ao2, c2, rfl, -⟩ := hr2.form
  have hS : ∀ m, Calls Try.prog 18 #[.slice ao1 bs.length c1, .slice ao2 bs.length c2] (w2.drewN m) fun e w' => e = .returned (.bool true) ∧ w' = w2.drewN m := fun m =>
    (same_any (w2.drewN m) ao1 ao2 _ _ c1 c2 bs bs (Cells.of_row (hr1.keep ((Keep.refl (fun _ => False) w2).drewN m) (fun _ _ x => x))) (Cells.of_row (hr2.keep ((Keep.refl (fun _ => False) w2).drewN m) (fun _ _ x => x)))).mono fun _ _ h => ⟨by rw [h.1]; simp, h.2.symm⟩
  have hU : ∀ m, Calls Try.prog 17 #[.pointer (some ⟨b, 0, none⟩)] (w2.drewN m) fun e w' => e = .returned (.bool (!D.down)) ∧ w' = w2.drewN m := fun m =>
    (up_any (w2.drewN m) b F D (P2.step ((Keep.refl _ w2).drewN m)).one).mono fun _ _ h => ⟨h.1, h.2.symm⟩
  have hW : ∀ m, Calls Try.prog 22 #[.pointer (some ⟨b, 0, none⟩)] (w2.drewN m) fun e w' => e = .returned (.int .i64 (D.waits.length : Int)) ∧ w' = w2.drewN m := fun m =>
    (waiting_any (w2.drewN m) b F D (P2.step ((Keep.refl _ w2).drewN m)).one).mono fun _ _ h => ⟨h.1, h.2.symm⟩
  have hN : ∀ m, Calls Try.prog 27 #[.pointer (some ⟨b, 0, none⟩)] (w2.drewN m) fun e w' => e = .returned (.int .i64 (D.safe.length : Int)) ∧ w' = w2.drewN m := fun m =>
    (sectors_any (w2.drewN m) b F D (P2.step ((Keep.refl _ w2).drewN m)).one).mono fun _ _ h => ⟨h.1, h.2.symm⟩
  obtain ⟨vs, vw, hI⟩ := P2.two
  have hh := hI.head
  unfold refCells at hh
  obtain ⟨ads, cs, rfl, -⟩ := hI.safe.form
  obtain ⟨adw, cw, rfl, -⟩ := hI.waits.form
  obtain ⟨i0, i1, i2, i3, if1, ib1⟩ := cells4 hh
  obtain ⟨dn, hdn⟩ : ∃ dn, dn = D.down := ⟨_, rfl⟩
  obtain ⟨nw, hnw⟩ : ∃ nw, nw = D.waits.length := ⟨_, rfl⟩
  obtain ⟨ns, hns⟩ : ∃ ns, ns = D.safe.length := ⟨_, rfl⟩
  rw [← hdn] at hU i3
  rw [← hnw] at hW i1
  rw [← hns] at hN i0
  obtain ⟨n1, hn1⟩ : ∃ n1, n1 = bs.length := ⟨_, rfl⟩
  rw [← hn1] at hS ⊢
  have HS := hid hS
  have HU := hid hU
  have HW := hid hW
  have HN := hid hN
  have K02 := hid k02
  clear hdn hnw hns hS hU hW hN hh hI hr1 hr2 k02 P2 P1 P hk1 hk2 hr hbs hn1 Hr1
  have q0 : (r == r) = true := by simp
  have q1 : ((nw : Int) == (nw : Int)) = true := by simp
  have q2 : ((ns : Int) == (ns : Int)) = true := by simp
  cases dn
  all_goals
    go_wp2_with (at_builtin; refine stopAt ?_; intro q hq)
    go_quiet (first | (go_at_call 18; exact Calls.quiet_of_same (HS.out _)) | (go_at_call 17; exact Calls.quiet_of_same (HU.out _)) | (go_at_call 22; exact Calls.quiet_of_same (HW.out _)) | (go_at_call 27; exact Calls.quiet_of_same (HN.out _)))
    go_wp2_with (at_builtin; refine stopAt ?_; intro q hq)
    go_ret
    exact ⟨by rfl, K02.out.drewN _⟩
end Go.Proofs.Ytenijbngmdaakaa
