/- Texts WpN, WpO, WpP, WpQ, WrA, WrB, WrC, WrD, WrE, WrF in one. Conditions: as each law names them. -/
import Derived.Lib.SlBytesConst
import Derived.Test.YteemekckiafnfaaBad
import Derived.Test.YteemekckiafnfaaBaq
/- What the chapter's examples fix: known. Conditions: none. -/
namespace Go.Proofs.Yteemekckiafnfaa
open Go.RowKit
open DM BM WM

/-- A disk, a log, that the call made. -/
structure DLive (W w : World) (d : Nat) (Fd : Nat → Prop) (D : Dk) : Prop where
  disk : DiskAt w d Fd D
  new : ∀ k, Fd k → W.heap.size ≤ k
  keep : Same W w
structure WLive (W w : World) (b d : Nat) (F Fd : Nat → Prop) (D : Dk) (G : Lg) : Prop where
  log : LogAt w b d F Fd D G
  new : ∀ k, F k ∨ Fd k → W.heap.size ≤ k
  keep : Same W w
theorem DLive.later {W w w' : World} {d : Nat} {Fd : Nat → Prop} {D : Dk} (h : DLive W w d Fd D) (hk : Same w w') : DLive W w' d Fd D := ⟨h.disk.keep hk (fun _ _ x => x), h.new, Same.trans h.keep hk⟩
theorem WLive.later {W w w' : World} {b d : Nat} {F Fd : Nat → Prop} {D : Dk} {G : Lg} (h : WLive W w b d F Fd D G) (hk : Same w w') : WLive W w' b d F Fd D G :=
  ⟨h.log.keep hk (fun _ _ x => x) (fun _ _ x => x), h.new, Same.trans h.keep hk⟩
theorem WLive.disk {W w : World} {b d : Nat} {F Fd : Nat → Prop} {D : Dk} {G : Lg} (h : WLive W w b d F Fd D G) : DLive W w d Fd D := ⟨h.log.diskAt, fun k x => h.new k (.inr x), h.keep⟩
theorem DLive.to {W w w' : World} {d : Nat} {Fd : Nat → Prop} {D D' : Dk} (h : DLive W w d Fd D) (ht : DiskTo d Fd w D' w') : ∃ Fd', DLive W w' d Fd' D' := by
  obtain ⟨Fd', h1, h2, h3⟩ := ht
  have s := h.keep.size
  exact ⟨Fd', h1, fun k x => (h3 k x).elim (h.new k) (fun y => by omega), h.keep.next h2 (fun _ _ x => x) (fun k hk x => by have := h.new k x; omega)⟩
theorem WLive.to {W w w' : World} {b d : Nat} {F Fd : Nat → Prop} {D D' : Dk} {G G' : Lg} (h : WLive W w b d F Fd D G) (ht : LogTo b d F Fd w D' G' w') : ∃ F' Fd', WLive W w' b d F' Fd' D' G' := by
  obtain ⟨F', Fd', h1, h2, h3, h4⟩ := ht
  have s := h.keep.size
  exact ⟨F', Fd', h1, fun k x => x.elim (fun y => (h3 k y).elim (fun z => h.new k (.inl z)) (fun z => by omega)) (fun y => (h4 k y).elim (fun z => h.new k (.inr z)) (fun z => by omega)),
    h.keep.next h2 (fun _ _ x => x) (fun k hk x => by have := h.new k x; omega)⟩
theorem DLive.opens {W w w' : World} {d : Nat} {Fd : Nat → Prop} {D D' : Dk} {e : Ending} {g : Lg} {z : Int} (h : DLive W w d Fd D) (hp : OpenTo d Fd w (z, some g, D') e w') :
    ∃ b F Fd', e = .returned (.tuple #[.pointer (some ⟨b, 0, none⟩), .int .i64 z]) ∧ WLive W w' b d F Fd' D' g := by
  obtain ⟨b, F, Fd', he, h1, h2, h3, h4⟩ := hp
  have s := h.keep.size
  exact ⟨b, F, Fd', he, h1, fun k x => x.elim (fun y => by have := h3 k y; omega) (fun y => (h4 k y).elim (h.new k) (fun z => by omega)), h.keep.next h2 (fun _ _ x => x) (fun k hk x => by have := h.new k x; omega)⟩

/-- The bytes of a constant. -/
abbrev lit (w : World) (x : Int) : World := w.alloc (.cells #[.int .u8 x] 5 (1, 2))
theorem Cells.byte (w : World) (x : UInt8) : Cells (lit w (x.toNat : Int)) (some ⟨w.heap.size, 0, none⟩) 1 1 (bytesV [x]) :=
  ⟨rfl, fun _ => ⟨_, rfl, fun j u hu => by rw [addr_add, Nat.zero_add, cell_of_row _ _ _ _ _ _ (heap_alloc_new w _)]; simpa [bytesV] using hu⟩⟩
theorem keep_lit (w : World) (x : Int) : Same w (lit w x) := (Keep.refl _ _).alloc _

/-! ### the numbers -/
def kD0 : Dk := DM.new 10
def kD1 : Dk := (WM.append kD0 ⟨0, [], 0, false⟩ [97]).2.1
def kD2 : Dk := (WM.syncW kD1 ⟨0, [[97]], 0, false⟩).2.1
def kD3 : Dk := (WM.reset kD2 ⟨0, [[97]], 1, false⟩ [[98], [99]]).2.1
def kD4 : Dk := DM.crash kD3 []
def kD5 : Dk := (openW kD4).2.2
theorem k_open0 : openW kD0 = (0, some ⟨0, [], 0, false⟩, kD0) := by kernel_rfl
theorem k_append : WM.append kD0 ⟨0, [], 0, false⟩ [97] = (0, kD1, ⟨0, [[97]], 0, false⟩) := by kernel_rfl
theorem k_gone1 : gone kD1 ⟨0, [[97]], 0, false⟩ = false := by kernel_rfl
theorem k_gone0 : gone kD0 ⟨0, [], 0, false⟩ = false := by kernel_rfl
theorem k_room1 : room kD1 ⟨0, [[97]], 0, false⟩ = 117 := by kernel_rfl
theorem k_crash1 : DM.crash kD1 [] = kD0 := by kernel_rfl
theorem k_sync : WM.syncW kD1 ⟨0, [[97]], 0, false⟩ = (0, kD2, ⟨0, [[97]], 1, false⟩) := by kernel_rfl
theorem k_reset : WM.reset kD2 ⟨0, [[97]], 1, false⟩ [[98], [99]] = (0, kD3, ⟨1, [[98], [99]], 2, false⟩) := by kernel_rfl
theorem k_open4 : openW kD4 = (0, some ⟨1, [[98], [99]], 2, false⟩, kD5) := by kernel_rfl
theorem k_room5 : room kD5 ⟨1, [[98], [99]], 2, false⟩ = 106 := by kernel_rfl
theorem k_gone5 : gone kD5 ⟨1, [[98], [99]], 2, false⟩ = false := by kernel_rfl
theorem k_waits : kD1.waits.length ≤ 700000 ∧ kD0.waits.length ≤ 700000 ∧ kD2.waits.length ≤ 700000 ∧ kD3.waits.length ≤ 700000 ∧ kD4.waits.length ≤ 700000 := by decide +kernel
end Go.Proofs.Yteemekckiafnfaa
/- A contract for known. Conditions: none. -/
namespace Go.Proofs.Yteemekckiafnfaa
open Go.RowKit
open DM BM WM

/-- Two texts of one byte each, and a slice of them. -/
abbrev two (w : World) (x y : Int) : World :=
  ((w.alloc (.cells #[.int .u8 x] 5 (1, 2))).alloc (.cells #[.int .u8 y] 5 (1, 2))).alloc
    (.cells #[.slice (some ⟨w.heap.size, 0, none⟩) 1 1, .slice (some ⟨w.heap.size + 1, 0, none⟩) 1 1] 36)
theorem keep_two (w : World) (x y : Int) : Same w (two w x y) := (((Keep.refl _ _).alloc _).alloc _).alloc _
theorem lists_two (w : World) (x y : UInt8) : Lists (two w (x.toNat : Int) (y.toNat : Int)) (some ⟨w.heap.size + 1 + 1, 0, none⟩) [[x], [y]] := by
  have k1 : Same (w.alloc (.cells #[.int .u8 (x.toNat : Int)] 5 (1, 2))) (two w (x.toNat : Int) (y.toNat : Int)) := ((Keep.refl _ _).alloc _).alloc _
  have k2 : Same ((w.alloc (.cells #[.int .u8 (x.toNat : Int)] 5 (1, 2))).alloc (.cells #[.int .u8 (y.toNat : Int)] 5 (1, 2))) (two w (x.toNat : Int) (y.toNat : Int)) := (Keep.refl _ _).alloc _
  have c1 := (Cells.byte w x).keep k1 (fun _ _ x => x)
  have c2 := (Cells.byte (w.alloc (.cells #[.int .u8 (x.toNat : Int)] 5 (1, 2))) y).keep k2 (fun _ _ x => x)
  have hs : (w.alloc (.cells #[.int .u8 (x.toNat : Int)] 5 (1, 2))).heap.size = w.heap.size + 1 := by simp
  rw [hs] at c2
  have hg := heap_alloc_new ((w.alloc (.cells #[.int .u8 (x.toNat : Int)] 5 (1, 2))).alloc (.cells #[.int .u8 (y.toNat : Int)] 5 (1, 2))) (.cells #[.slice (some ⟨w.heap.size, 0, none⟩) 1 1, .slice (some ⟨w.heap.size + 1, 0, none⟩) 1 1] 36)
  rw [show ((w.alloc (.cells #[.int .u8 (x.toNat : Int)] 5 (1, 2))).alloc (.cells #[.int .u8 (y.toNat : Int)] 5 (1, 2))).heap.size = w.heap.size + 1 + 1 by simp] at hg
  intro j hj
  have hj2 : j = 0 ∨ j = 1 := by simp at hj; omega
  rcases hj2 with rfl | rfl
  · exact ⟨_, _, 1, rfl, by rw [addr_add, Nat.zero_add, cell_of_row _ _ _ _ _ _ hg]; rfl, by simp, c1⟩
  · exact ⟨_, _, 1, rfl, by rw [addr_add, Nat.zero_add, cell_of_row _ _ _ _ _ _ hg]; rfl, by simp, c2⟩

set_option maxRecDepth 20000 in
set_option maxHeartbeats 2000000 in
theorem known_any (w : World) : Calls Try.prog 10 #[] w fun e w' => e = .returned (.bool true) ∧ Keep (fun _ => False) w w' := by
  have kc := fun (w : World) (C : Array Value) (n c : Nat) => Lib.run_convert_bytes_const (P := Try.prog) w 36 5 C n c Try.underlying36 Try.underlying5
  have kc2 : ∀ (w : World) (X : Obj) (C : Array Value) (n c : Nat), (convert 36 36 (.slice (some ⟨w.heap.size + 1, 0, none⟩) n c)).run Try.prog ((w.alloc X).alloc (.cells C 5)) = .ok (.slice (some ⟨w.heap.size + 1, 0, none⟩) n c) ((w.alloc X).alloc (.cells C 5 (C.size, C.size + 1))) := fun w X C n c => by
    have h := kc (w.alloc X) C n c
    rw [show (w.alloc X).heap.size = w.heap.size + 1 by simp] at h
    exact h
  have k0 : ∀ w : World, Cells w none 0 1 (intsV []) := fun w => ⟨rfl, fun h => by omega⟩
  go_enter Try.func10, Try.ntmps10
  go_wp2_with (at_builtin; refine stopAt ?_; intro q hq)
  refine (new_any w 10 (by decide) (by decide)).mono ?_
  rintro e w1 ⟨d, Pd, rfl, hD1, hk1, hP1⟩
  have L1 : DLive w w1 d Pd kD0 := ⟨hD1, hP1, hk1⟩
  clear hD1 hk1 hP1
  have ho := open_any w1 d Pd kD0 L1.disk (by have := k_waits; omega)
  rw [k_open0] at ho
  go_wp2_with (at_builtin; refine stopAt ?_; intro q hq)
  refine ho.mono ?_
  intro e w2 hp
  obtain ⟨b, F, Fd, rfl, L2⟩ := L1.opens hp
  clear ho hp L1
  go_wp2_with (at_builtin; refine stopAt ?_; intro q hq)
  have hb := Cells.byte w2 97
  have L3 := L2.later (keep_lit w2 97)
  have ha := wappend_any _ b d F Fd kD0 ⟨0, [], 0, false⟩ L3.log _ 1 1 [97] hb (fun x _ hx => by cases hx; exact ⟨fun y => Nat.lt_irrefl _ (L2.log.ltw _ (.inl y)), fun y => Nat.lt_irrefl _ (L2.log.ltw _ (.inr y))⟩) (by decide) (by have := k_waits; omega)
  rw [k_append] at ha
  refine ha.mono ?_
  rintro e w4 ⟨rfl, ht⟩
  obtain ⟨F4, Fd4, L4⟩ := L3.to ht
  clear ht ha hb L3 L2
  have hr := room_up w4 b d F4 Fd4 kD1 _ L4.log k_gone1
  rw [k_room1] at hr
  go_wp2_with (at_builtin; refine stopAt ?_; intro q hq)
  refine hr.mono ?_
  rintro e w5 ⟨rfl, rfl⟩
  have L5 := (L4.later ((Keep.refl _ _).drew)).disk
  have hc := crash_any w4.drew d Fd4 kD1 none 0 0 [] L5.disk (k0 _) (fun h => by omega) (by decide) (by simp) (by have := k_waits; omega)
  rw [k_crash1] at hc
  clear hr L4
  go_wp2_with (at_builtin; refine stopAt ?_; intro q hq)
  refine hc.mono ?_
  rintro e w6 ⟨rfl, ht⟩
  obtain ⟨Fd6, L6⟩ := L5.to ht
  clear ht hc L5
  have ho := open_any w6 d Fd6 kD0 L6.disk (by have := k_waits; omega)
  rw [k_open0] at ho
  go_wp2_with (at_builtin; refine stopAt ?_; intro q hq)
  refine ho.mono ?_
  intro e w7 hp
  obtain ⟨b7, F7, Fd7, rfl, L7⟩ := L6.opens hp
  clear ho hp L6
  have hr := records_up w7 b7 d F7 Fd7 kD0 _ L7.log k_gone0
  go_wp2_with (at_builtin; refine stopAt ?_; intro q hq)
  refine hr.mono ?_
  rintro e w8 ⟨v8, rfl, hm, hk⟩
  obtain ⟨ao8, cl8, rfl, -⟩ := hm.form
  have L8 := L7.later hk
  clear hr hm hk L7
  go_wp2_with (at_builtin; refine stopAt ?_; intro q hq)
  have hb := Cells.byte w8 97
  have L9 := L8.later (keep_lit w8 97)
  have ha := wappend_any _ b7 d F7 Fd7 kD0 ⟨0, [], 0, false⟩ L9.log _ 1 1 [97] hb (fun x _ hx => by cases hx; exact ⟨fun y => Nat.lt_irrefl _ (L8.log.ltw _ (.inl y)), fun y => Nat.lt_irrefl _ (L8.log.ltw _ (.inr y))⟩) (by decide) (by have := k_waits; omega)
  rw [k_append] at ha
  refine ha.mono ?_
  rintro e w10 ⟨rfl, ht⟩
  obtain ⟨F10, Fd10, L10⟩ := L9.to ht
  clear ht ha hb L9 L8
  have hs := wsync_any w10 b7 d F10 Fd10 kD1 _ L10.log (by have := k_waits; omega)
  rw [k_sync] at hs
  go_wp2_with (at_builtin; refine stopAt ?_; intro q hq)
  refine hs.mono ?_
  rintro e w11 ⟨rfl, ht⟩
  obtain ⟨F11, Fd11, L11⟩ := L10.to ht
  clear ht hs L10
  go_wp2_with (at_builtin; refine stopAt ?_; intro q hq)
  have L12 := L11.later (keep_two w11 98 99)
  have hr := wreset_any _ b7 d F11 Fd11 kD2 ⟨0, [[97]], 1, false⟩ L12.log _ 2 [[98], [99]] (lists_two w11 98 99) (by decide) (by have := k_waits; omega)
  rw [k_reset] at hr
  refine hr.mono ?_
  rintro e w13 ⟨rfl, ht⟩
  obtain ⟨F13, Fd13, L13⟩ := L12.to ht
  clear ht hr L12 L11
  have L13 := L13.disk
  have hc := crash_any w13 d Fd13 kD3 none 0 0 [] L13.disk (k0 _) (fun h => by omega) (by decide) (by simp) (by have := k_waits; omega)
  go_wp2_with (at_builtin; refine stopAt ?_; intro q hq)
  refine hc.mono ?_
  rintro e w14 ⟨rfl, ht⟩
  obtain ⟨Fd14, L14⟩ := L13.to ht
  clear ht hc L13
  have ho := open_any w14 d Fd14 kD4 L14.disk (by have := k_waits; omega)
  rw [k_open4] at ho
  go_wp2_with (at_builtin; refine stopAt ?_; intro q hq)
  refine ho.mono ?_
  intro e w15 hp
  obtain ⟨b15, F15, Fd15, rfl, L15⟩ := L14.opens hp
  clear ho hp L14
  have hn := open_nil w15
  go_wp2_with (at_builtin; refine stopAt ?_; intro q hq)
  refine hn.mono ?_
  rintro e w16 ⟨rfl, rfl⟩
  have hr := records_up w16 b15 d F15 Fd15 kD5 _ L15.log k_gone5
  clear hn
  go_wp2_with (at_builtin; refine stopAt ?_; intro q hq)
  refine hr.mono ?_
  rintro e w17 ⟨v17, rfl, hm, hk⟩
  obtain ⟨ao17, cl17, rfl, hl17⟩ := hm.form
  have L17 := L15.later hk
  clear hr hm hk L15
  go_wp2_with (at_builtin; refine stopAt ?_; intro q hq)
  have L18 := L17.later (keep_two w17 98 99)
  refine (samelists_any _ ao17 _ cl17 2 [[98], [99]] [[98], [99]] (hl17.keep (keep_two w17 98 99)) (lists_two w17 98 99) (by decide)).mono ?_
  rintro e w19 ⟨rfl, hk⟩
  have L19 := L18.later hk
  clear L17 L18 hk hl17
  have hr := room_up w19 b15 d F15 Fd15 kD5 _ L19.log k_gone5
  rw [k_room5] at hr
  go_wp2_with (at_builtin; refine stopAt ?_; intro q hq)
  refine hr.mono ?_
  rintro e w20 ⟨rfl, rfl⟩
  have L20 := L19.later ((Keep.refl _ _).drew)
  have hs := safe_up w19.drew b15 d F15 Fd15 kD5 _ L20.log k_gone5
  clear hr L19
  go_wp2_with (at_builtin; refine stopAt ?_; intro q hq)
  refine hs.mono ?_
  rintro e w21 ⟨rfl, rfl⟩
  have HU := hid L20.keep
  clear hs L20
  go_wp2_with (at_builtin; refine stopAt ?_; intro q hq)
  go_ret
  exact ⟨by trivial, HU.out⟩
end Go.Proofs.Yteemekckiafnfaa
/- The pair's disks by themselves; how much may wait behind an act; one given act. Conditions: as the laws name them. -/
namespace Go.Proofs.Yteemekckiafnfaa
open Go.RowKit Go.Deep
open DM BM WM

structure Duo (W w : World) (p d m : Nat) (Pd Qd : Nat → Prop) (D E : Dk) (wv rv : Value) : Prop where
  head : w.heap[p]? = some (.cells #[.pointer (some ⟨d, 0, none⟩), wv, .pointer (some ⟨m, 0, none⟩), rv] 32 (0, 0))
  disk : DiskAt w d Pd D
  ref : RefAt w m Qd E
  apart : ∀ k, Pd k → ¬ Qd k
  selfn : ¬ Pd p ∧ ¬ Qd p
  new : ∀ k, Pd k ∨ Qd k ∨ k = p → W.heap.size ≤ k
  keep : Same W w

theorem Duo.later {W w w' : World} {p d m : Nat} {Pd Qd : Nat → Prop} {D E : Dk} {wv rv : Value} (h : Duo W w p d m Pd Qd D E wv rv) (hk : Same w w') : Duo W w' p d m Pd Qd D E wv rv :=
  ⟨hk.get h.head id, h.disk.keep hk (fun _ _ x => x), h.ref.keep hk (fun _ _ x => x), h.apart, h.selfn, h.new, Same.trans h.keep hk⟩
theorem Duo.toD {W w w' : World} {p d m : Nat} {Pd Qd : Nat → Prop} {D E D' : Dk} {wv rv : Value} (h : Duo W w p d m Pd Qd D E wv rv) (ht : DiskTo d Pd w D' w') : ∃ Pd', Duo W w' p d m Pd' Qd D' E wv rv := by
  obtain ⟨Pd', a1, a2, a3⟩ := ht
  have s := h.keep.size
  have lp := heap_lt h.head
  refine ⟨Pd', a2.get h.head h.selfn.1, a1, h.ref.keep a2 (fun k x y => h.apart k y x), fun k x y => ?_, ⟨fun x => ?_, h.selfn.2⟩, fun k x => ?_, h.keep.next a2 (fun _ _ x => x) (fun k hk x => by have := h.new k (.inl x); omega)⟩
  · rcases a3 k x with z | z
    · exact h.apart k z y
    · have := h.ref.lt k y; omega
  · rcases a3 p x with z | z
    · exact h.selfn.1 z
    · omega
  · rcases x with x | x
    · rcases a3 k x with z | z
      · exact h.new k (.inl z)
      · omega
    · exact h.new k (.inr x)
theorem Duo.toR {W w w' : World} {p d m : Nat} {Pd Qd : Nat → Prop} {D E E' : Dk} {wv rv : Value} (h : Duo W w p d m Pd Qd D E wv rv) (ht : RefTo m Qd w E' w') : ∃ Qd', Duo W w' p d m Pd Qd' D E' wv rv := by
  obtain ⟨Qd', a1, a2, a3⟩ := ht
  have s := h.keep.size
  have lp := heap_lt h.head
  refine ⟨Qd', a2.get h.head h.selfn.2, h.disk.keep a2 (fun k x y => h.apart k x y), a1, fun k x y => ?_, ⟨h.selfn.1, fun x => ?_⟩, fun k x => ?_, h.keep.next a2 (fun _ _ x => x) (fun k hk x => by have := h.new k (.inr (.inl x)); omega)⟩
  · rcases a3 k y with z | z
    · exact h.apart k x z
    · have := h.disk.lt k x; omega
  · rcases a3 p x with z | z
    · exact h.selfn.2 z
    · omega
  · rcases x with x | x | x
    · exact h.new k (.inl x)
    · rcases a3 k x with z | z
      · exact h.new k (.inr (.inl z))
      · omega
    · exact h.new k (.inr (.inr x))
theorem Duo.old {W w : World} {p d m : Nat} {Pd Qd : Nat → Prop} {D : Dk} {wv rv : Value} (h : Duo W w p d m Pd Qd D D wv rv) : PairOld W w p D :=
  ⟨d, m, fun _ => False, Pd, fun _ => False, Qd, wv, rv, ⟨h.head, h.disk, h.ref, fun k x y => x.elim id fun x => y.elim id fun y => h.apart k x y, ⟨fun x => x.elim id h.selfn.1, fun x => x.elim id h.selfn.2⟩⟩,
    fun k x => by
      rcases x with (x | x) | (x | x) | x
      · exact x.elim
      · exact h.new k (.inl x)
      · exact x.elim
      · exact h.new k (.inr (.inl x))
      · exact h.new k (.inr (.inr x)), h.keep⟩
theorem PairNew.duo {W w : World} {p : Nat} {D : Dk} {g : Option Lg} (h : PairNew W w p D g) : ∃ d m Pd Qd wv rv, Duo W w p d m Pd Qd D D wv rv := by
  obtain ⟨d, m, Pw, Pd, Qw, Qd, wv, rv, hI, hn, hk⟩ := h
  refine ⟨d, m, Pd, Qd, wv, rv, hI.head, hI.disk, hI.ref, fun k x y => hI.apart k (.inr x) (.inr y), ⟨fun x => hI.selfn.1 (.inr x), fun x => hI.selfn.2 (.inr x)⟩, fun k x => ?_, hk⟩
  rcases x with x | x | x
  · exact hn k (.inl (.inr x))
  · exact hn k (.inr (.inl (.inr x)))
  · exact hn k (.inr (.inr x))
theorem Both.duo {W w : World} {p d m b c : Nat} {Pw Pd Qw Qd : Nat → Prop} {D E : Dk} {G J : Lg} (h : Both W w p d m b c Pw Pd Qw Qd D G E J) :
    Duo W w p d m Pd Qd D E (.pointer (some ⟨b, 0, none⟩)) (.pointer (some ⟨c, 0, none⟩)) := by
  refine ⟨h.head, h.one.diskAt, h.two.diskAt, fun k x y => h.apart k (.inr x) (.inr y), ⟨fun x => h.selfn.1 (.inr x), fun x => h.selfn.2 (.inr x)⟩, fun k x => ?_, h.keep⟩
  rcases x with x | x | x
  · exact h.new k (.inl (.inr x))
  · exact h.new k (.inr (.inl (.inr x)))
  · exact h.new k (.inr (.inr x))

/-! ### how much waits -/
theorem half_le {D : Dk} (h : D.safe.length ≤ 2048) : half D ≤ 1023 := by unfold half; omega
theorem append_waits {D : Dk} (h : D.safe.length ≤ 2048) (G : Lg) (b : List UInt8) : (WM.append D G b).2.1.waits.length ≤ D.waits.length + 2048 := by
  have hh := half_le h
  unfold WM.append
  split
  · exact Nat.le_add_right _ _
  · split
    · exact Nat.le_add_right _ _
    · split
      · exact Nat.le_add_right _ _
      · rename_i h3
        have h1 := flat_snoc G.l b
        have h2 := lay_waits G.ep (area D (G.l ++ [b])) (((flat (G.l ++ [b])).length - 1) / 32 - (flat G.l).length / 32 + 1) ((flat G.l).length / 32) D
        unfold room at h3
        simp only
        omega
theorem syncW_waits (D : Dk) (G : Lg) : (WM.syncW D G).2.1.waits.length ≤ D.waits.length := by
  unfold WM.syncW
  split
  · exact Nat.le_refl _
  · have := sync_waits D
    simp only
    split <;> exact this
theorem turn_waits {D : Dk} (h : D.safe.length ≤ 2048) (ep : Nat) (b : List UInt8) : (turnW ep b D).2.waits.length ≤ D.waits.length + 1024 := by
  have hh := half_le h
  unfold turnW
  have h1 := lay_waits ep b (half D) 0 D
  generalize lay ep b 0 (half D) D = r at *
  simp only
  split
  · omega
  · have h2 := sync_waits r.2
    generalize DM.sync r.2 = y at *
    split
    · omega
    · have h3 := write_waits y.2 ((ep % 2 : Nat) : Int) (headSec ep)
      generalize DM.write y.2 ((ep % 2 : Nat) : Int) (headSec ep) = z at *
      split
      · omega
      · have h4 := sync_waits z.2
        omega
theorem reset_waits {D : Dk} (h : D.safe.length ≤ 2048) (G : Lg) (L : List (List UInt8)) : (WM.reset D G L).2.1.waits.length ≤ D.waits.length + 1024 := by
  have h1 := turn_waits h (G.ep + 1) (area D L)
  unfold WM.reset
  split
  · exact Nat.le_add_right _ _
  · split
    · exact Nat.le_add_right _ _
    · split
      · exact Nat.le_add_right _ _
      · simp only
        split <;> exact h1
theorem openW_waits {D : Dk} (h : D.safe.length ≤ 2048) : (openW D).2.2.waits.length ≤ D.waits.length + 1024 := by
  have hh := half_le h
  unfold openW
  split
  · exact Nat.le_add_right _ _
  · split
    · exact Nat.le_add_right _ _
    · simp only
      have h1 := wipe_waits (epoch D) (WM.bytes D (epoch D)) (scan (WM.bytes D (epoch D)) ((WM.bytes D (epoch D)).length + 1) 0).2 (half D) 0 false D
      generalize wipe (epoch D) (WM.bytes D (epoch D)) (scan (WM.bytes D (epoch D)) ((WM.bytes D (epoch D)).length + 1) 0).2 0 (half D) false D = r at *
      split
      · exact Nat.le_trans h1 (by omega)
      · split
        · have h2 := sync_waits r.2.2
          split
          · exact Nat.le_trans h2 (by omega)
          · exact Nat.le_trans h2 (by omega)
        · exact Nat.le_trans h1 (by omega)
theorem step_waits {D : Dk} (h : D.safe.length ≤ 2048) (g : Option Lg) (x : Act4) : (step D g x).1.waits.length ≤ D.waits.length + 2048 := by
  unfold step
  split
  · have h1 : (DM.crash D x.keep).safe.length ≤ 2048 := by
      show (tear _ _ _).length ≤ _
      rw [tear_length]; exact h
    have h2 := openW_waits h1
    have h3 : (DM.crash D x.keep).waits.length = 0 := rfl
    show (openW (DM.crash D x.keep)).2.2.waits.length ≤ _
    omega
  · split
    · exact Nat.le_add_right _ _
    · split
      · exact Nat.le_add_right _ _
      · rename_i G
        split
        · exact append_waits h G _
        · split
          · have := syncW_waits D G
            show (WM.syncW D G).2.1.waits.length ≤ _
            omega
          · split
            · have := reset_waits h G x.list
              show (WM.reset D G x.list).2.1.waits.length ≤ _
              omega
            · exact Nat.le_add_right _ _

/-- One given act as the code reads it whole. -/
theorem Acts4.row {w w' : World} {ao : Option Addr} {m c : Nat} {l : List Act4} (h : Acts4 w (.slice ao m c) l) (hk : Keep (fun _ => False) w w') (i : Nat) (hi : i < l.length) :
    ∃ ad lv kv, ao = some ad ∧ (∀ j u, [Value.int .i64 l[i].kind, .int .i64 l[i].n, .int .u8 (l[i].fill.toNat : Int), lv, kv][j]? = some u → w'.cell? ((ad.add (i * 5)).add j) = some u) ∧ Texts w lv l[i].list ∧ Ints w kv l[i].keep ∧
      (-9223372036854775808 ≤ l[i].kind ∧ l[i].kind ≤ 9223372036854775807) ∧ (-9223372036854775808 ≤ l[i].n ∧ l[i].n ≤ 9223372036854775807) := by
  obtain ⟨ao', c', hv, _, _, h3⟩ := h
  cases hv
  obtain ⟨ad, rfl, h4⟩ := h3 (by omega)
  obtain ⟨cs, _, ⟨lv, kv, rfl, h5⟩, hc⟩ := h4 i hi
  exact ⟨ad, lv, kv, rfl, fun j u hu => by rw [add_add]; exact cell_old hk _ _ (hc j u hu), h5⟩

theorem light_len {L : List (List UInt8)} (h : ¬ 4000 < hv L 0) : L.length ≤ 4000 ∧ ∀ x ∈ L, x.length ≤ 4000 := by
  have h1 := hv_light L 0 (by omega)
  have h2 : ∀ M : List (List UInt8), M.length ≤ (M.map (fun x => x.length + 1)).sum := fun M => by
    induction M with
    | nil => simp
    | cons x t ih => simp only [List.length_cons, List.map_cons, List.sum_cons]; omega
  have h3 : ∀ M : List (List UInt8), ∀ x ∈ M, x.length ≤ (M.map (fun x => x.length + 1)).sum := fun M => by
    induction M with
    | nil => simp
    | cons y t ih =>
      intro x hx
      simp only [List.map_cons, List.sum_cons]
      rcases List.mem_cons.1 hx with rfl | hx
      · omega
      · have := ih x hx; omega
  exact ⟨by have := h2 L; omega, fun x hx => by have := h3 L x hx; omega⟩
end Go.Proofs.Yteemekckiafnfaa
/- WalPlays: the walk. Conditions: none but that the arguments are an int and acts. -/

namespace Go.Proofs.Yteemekckiafnfaa
open Go.ChangeShapes Go.WideShapes Go.RowKit Go.Deep
open DM BM WM

section
variable {P : Program} {w : World} {a : Act} {o : Oper} {K : Act → World → Prop} {Q : Exit → Act → World → Prop}
/-- An aggregate read out of any place. -/
theorem wp_load_any (ty : TypeId) (x : Operand) (ho : o.op = .load ty x) (p : Addr) (hx : a.eval x = .pointer (some p)) (cs : List Value)
    (hc : ∀ j u, cs[j]? = some u → w.cell? (p.add j) = some u) (d : TypeDesc)
    (hu : P.underlying ty = some d) (hd : (match d with | .struct _ | .array _ _ => true | _ => false) = true) (hi : (P.info? ty).map (·.size) = some cs.length)
    (h : K (a.put o.dst (.agg cs.toArray)) w) : o.wp P a w K Q := by
  have hl := run_loadCells_list (P := P) w p cs hc
  cases hq : P.info? ty with
  | none => simp [hq] at hi
  | some i =>
    have hs : i.size = cs.length := by simpa [hq] using hi
    have hagg : (isAgg ty).run P w = .ok true w := by
      unfold isAgg
      rw [Sem.run_bind, run_underlying hu w]
      cases d <;> simp_all
    have hr : (loadVar ty p).run P w = .ok (.agg cs.toArray) w := by
      simp [loadVar, Sem.run_bind, hagg, sizeOf, typeInfo, hq, hs, hl]
    unfold Oper.wp execOp
    simp only [ho, hx, Instr.loadAt, Instr.sureAddr, Sem.run_bind, Sem.run_pure, Result.andThen_ok, hr]
    exact h
end

/-- A play so far. -/
structure PlRel (W : World) (p : Nat) (k : Nat) (wr : World) : Prop where
  ex : ∃ D g, PairNew W wr p D g ∧ D.waits.length ≤ 1024 + 2048 * k

abbrev mk3 (w : World) : World := w.alloc (.cells #[.int .i64 9, .int .i64 32, .int .i64 5] 3)
theorem keep_mk3 (w : World) : Same w (mk3 w) := (Keep.refl _ _).alloc _
theorem cells_mk3 (w : World) : Cells (mk3 w) (some ⟨w.heap.size, 0, none⟩) 3 1 (intsV [9, 32, 5]) :=
  ⟨rfl, fun _ => ⟨_, rfl, fun j u hu => by rw [addr_add, Nat.zero_add, cell_of_row _ _ _ _ _ _ (heap_alloc_new w _)]; simpa [intsV] using hu⟩⟩
theorem wf_mk3 : ∀ z ∈ [(9 : Int), 32, 5], -9223372036854775808 ≤ z ∧ z ≤ 9223372036854775807 := by decide

theorem PairNew.few {W w : World} {p : Nat} {D : Dk} {g : Option Lg} (h : PairNew W w p D g) : D.safe.length ≤ 2048 := by
  obtain ⟨d, m, Pw, Pd, Qw, Qd, wv, rv, hI, -, -⟩ := h
  exact hI.ref.ok.few

set_option maxRecDepth 20000 in
set_option maxHeartbeats 2000000 in
theorem plays_walk (w : World) (a : Int) (ha : -9223372036854775808 ≤ a) (hb : a ≤ 9223372036854775807) (v : Value) (l : List Act4) (hl : Acts4 w v l) :
    Calls Try.prog 5 #[.int .i64 a, v] w fun e w' => e = .returned (.bool true) ∧ Keep (fun _ => False) w w' := by
  obtain ⟨ao, c, rfl, hlc, hcm⟩ := hl.form
  have HL := hid hl
  clear hl hcm
  obtain ⟨m, hm⟩ : ∃ m, m = l.length := ⟨_, rfl⟩
  rw [← hm] at HL hlc ⊢
  have Hm := hid hm
  clear hm
  by_cases big : 40 < a ∧ a ≤ 2048
  · obtain ⟨g1, g2⟩ := big
    go_enter Try.func5, Try.ntmps5
    go_wp2_with (at_builtin; refine stopAt ?_; intro q hq)
    refine (known_any w).mono ?_
    rintro e w1 ⟨rfl, hk1⟩
    go_wp2_with (at_builtin; refine stopAt ?_; intro q hq)
    go_ret
    exact ⟨by rfl, hk1⟩
  · have big' : ¬ 40 < a ∨ (40 < a ∧ ¬ a ≤ 2048) := by omega
    by_cases none_ : a < 1 ∨ 2048 < a
    · have N1 := hid (pstart_none w a none_)
      have n1' : a < 1 ∨ (¬ a < 1 ∧ 2048 < a) := by omega
      clear none_ big
      rcases big' with g1 | ⟨g0, g1⟩
      all_goals rcases n1' with n1 | ⟨n0, n1⟩
      all_goals
        go_enter Try.func5, Try.ntmps5
        go_wp2_with (at_builtin; refine stopAt ?_; intro q hq)
        refine N1.out.mono ?_
        rintro e w1 ⟨rfl, rfl⟩
        go_wp2_with (at_builtin; refine stopAt ?_; intro q hq)
        refine (known_any _).mono ?_
        rintro e w1 ⟨rfl, hk1⟩
        go_wp2_with (at_builtin; refine stopAt ?_; intro q hq)
        go_ret
        exact ⟨by rfl, hk1⟩
    · obtain ⟨n, rfl⟩ : ∃ n : Nat, (n : Int) = a := ⟨a.toNat, by omega⟩
      have n1 : 0 < n := by omega
      have n2 : n ≤ 40 := by omega
      have g1 : ¬ 40 < (n : Int) := by omega
      clear big big' none_ ha hb
      go_enter Try.func5, Try.ntmps5
      go_wp2_with (at_builtin; refine stopAt ?_; intro q hq)
      refine (pstart_any w n n1 (by omega)).mono ?_
      rintro e w1 ⟨p, rfl, hP1⟩
      have HR1 := hid (PlRel.mk (k := 0) ⟨_, _, hP1, by have := openW_waits (D := DM.new n) (by simp [DM.new]; omega); simpa [DM.new] using this⟩)
      clear hP1
      go_wp2_with (at_builtin; refine stopAt ?_; intro q hq)
      go_loopw [7] (fun i wr => ∃ k : Nat, k ≤ m ∧ k ≤ 60 ∧ i = .int .i64 k ∧ Hid (PlRel w p k wr)) (fun i _ => 60 - (intOf i).toNat)
      case atStart => exact ⟨0, Nat.zero_le _, Nat.zero_le _, rfl, HR1⟩
      case round =>
        clear HR1
        obtain ⟨k, hk, hk60, rfl, HR⟩ := hrel
        by_cases hgo : k < m ∧ k < 60
        · have h2 : (k : Int) < m := by omega
          have h1 : (k : Int) < 60 := by omega
          have hkl : k < l.length := by rw [← Hm.out]; exact hgo.1
          obtain ⟨D, g, hP, hw⟩ := HR.out.ex
          obtain ⟨ad, lv, kv, rfl, hrow, hlv, hkv, b0, b1⟩ := Acts4.row HL.out hP.keep k hkl
          have a1 := hrow 1 _ rfl
          have a3 := hrow 3 _ rfl
          rw [add_pos _ _ (by decide)] at a1 a3
          have Hrow := hid hrow
          have hgo1 := hgo.1
          have hgo2 := hgo.2
          clear hgo hrow
          obtain ⟨aol, cl, rfl, -, -, hLL⟩ := hlv.lists
          have hhe := heavy_any wr aol cl _ (hLL.keep hP.keep)
          obtain ⟨ll, hll⟩ : ∃ ll, ll = (l[k]).list.length := ⟨_, rfl⟩
          obtain ⟨nn, hnn⟩ : ∃ nn, nn = (l[k]).n := ⟨_, rfl⟩
          have HQ := hid (And.intro hP (And.intro hw (And.intro hlv (And.intro hkv (And.intro b0 b1)))))
          have HE := hid (And.intro hll hnn)
          clear hP hw hlv hkv b0 b1 hLL
          by_cases hv4 : 4000 < hv (l[k]).list 0
          · rw [show decide (4000 < hv (l[k]).list 0) = true from decide_eq_true hv4] at hhe
            rw [← hll] at hhe a3
            clear hv4 hll hnn
            go_wp2_with (at_builtin; refine stopAt ?_; intro q hq)
            refine hhe.mono ?_
            rintro e w3 ⟨rfl, rfl⟩
            go_wp2_with (at_builtin; refine stopAt ?_; intro q hq)
            refine (known_any _).mono ?_
            rintro e w4 ⟨rfl, hk4⟩
            have HZ := hid (Same.trans HQ.out.1.keep hk4)
            clear hk4
            go_wp2_with (at_builtin; refine stopAt ?_; intro q hq)
            go_ret
            exact ⟨by rfl, HZ.out⟩
          · rw [show decide (4000 < hv (l[k]).list 0) = false from decide_eq_false hv4] at hhe
            have hlen := (light_len hv4).1
            rw [← hll] at hhe a3 hlen
            rw [← hnn] at a1
            clear hv4 hll hnn
            by_cases hN : 1030 < nn
            · go_wp2_with (at_builtin; refine stopAt ?_; intro q hq)
              refine hhe.mono ?_
              rintro e w3 ⟨rfl, rfl⟩
              go_wp2_with (at_builtin; refine stopAt ?_; intro q hq)
              refine (known_any _).mono ?_
              rintro e w4 ⟨rfl, hk4⟩
              have HZ := hid (Same.trans HQ.out.1.keep hk4)
              clear hk4
              go_wp2_with (at_builtin; refine stopAt ?_; intro q hq)
              go_ret
              exact ⟨by rfl, HZ.out⟩
            · go_wp2_with (at_builtin; refine stopAt ?_; intro q hq)
              refine hhe.mono ?_
              rintro e w3 ⟨rfl, rfl⟩
              go_wp2_with (first | (at_builtin; refine stopAt ?_; intro q hq) | (refine stopOp (.load 50 _) rfl ?_; intro q hq))
              (refine hq.out ?_; clear hq q)
              refine wpList_plain rfl (fun K hK => ?_)
              refine wp_load_any 50 (.tmp 67) rfl (ad.add (k * 5)) rfl _ Hrow.out _ Try.underlying50 rfl (by kernel_rfl) ?_
              refine hK _ _ ?_
              clear hK K
              obtain ⟨hP, hw, hlv, hkv, b0, b1⟩ := HQ.out
              have hpl := play_any w _ p D g l[k] _ _ hP hlv hkv b1 (by have := HE.out.1; omega) (by omega)
              have hsw := step_waits hP.few g l[k]
              have HW := hid (And.intro hw hsw)
              clear hP hw hlv hkv b0 b1 hsw
              go_wp2_with (at_builtin; refine stopAt ?_; intro q hq)
              refine hpl.mono ?_
              rintro e w4 ⟨rfl, hP4⟩
              have hal := alike_any w w4 p _ _ hP4
              clear hP4 hpl
              go_wp2_with (at_builtin; refine stopAt ?_; intro q hq)
              refine hal.mono ?_
              rintro e w5 ⟨rfl, hP5⟩
              have HZ := hid (PlRel.mk (k := k + 1) ⟨_, _, hP5, by have := HW.out; omega⟩)
              clear hal hP5
              go_wp2_with (at_builtin; refine stopAt ?_; intro q hq)
              go_roundw
              case rel => exact ⟨k + 1, by omega, by omega, by go_num, HZ⟩
              case measure => simp [intOf]; omega
        · obtain ⟨D, g, hP, hw⟩ := HR.out.ex
          obtain ⟨d, mm, Pd, Qd, wv, rv, hD⟩ := hP.duo
          obtain ⟨h0, h1, h2, h3, hf, hb1⟩ := cells4 hD.head
          have HD := hid hD
          clear hP hD
          have hw9 : D.waits.length ≤ 200000 := by omega
          clear hw
          have cut : (¬ (k : Int) < m) ∨ ((k : Int) < m ∧ ¬ (k : Int) < 60) := by omega
          clear hgo
          rcases cut with c1 | ⟨c0, c1⟩
          all_goals
            go_wp2_with (at_builtin; refine stopAt ?_; intro q hq)
            have D2 := HD.out.later (keep_mk3 wr)
            have hcr := crash_any (mk3 wr) d Pd D _ 3 3 [9, 32, 5] D2.disk (cells_mk3 wr) (fun _ x hx => by cases hx; exact fun y => Nat.lt_irrefl _ (HD.out.disk.lt _ y)) (by decide) wf_mk3 (by omega)
            clear h0 h1 h2 h3 hf
            refine hcr.mono ?_
            rintro e w3 ⟨rfl, ht⟩
            obtain ⟨Pd3, D3⟩ := D2.toD ht
            clear hcr ht D2
            obtain ⟨h0, h1, h2, h3, hf, hb3⟩ := cells4 D3.head
            have H3 := hid D3
            clear D3
            go_wp2_with (at_builtin; refine stopAt ?_; intro q hq)
            have D4 := H3.out.later (keep_mk3 w3)
            have hcr := ref_crash (mk3 w3) mm Qd D _ 3 3 [9, 32, 5] D4.ref (cells_mk3 w3) (fun _ x hx => by cases hx; exact fun y => Nat.lt_irrefl _ (H3.out.ref.lt _ y)) (by decide) wf_mk3 (by omega)
            clear h0 h1 h2 h3 hf
            refine hcr.mono ?_
            rintro e w5 ⟨rfl, ht⟩
            obtain ⟨Qd5, D5⟩ := D4.toR ht
            clear hcr ht D4
            have H5 := hid D5
            clear D5
            go_wp2_with (at_builtin; refine stopAt ?_; intro q hq)
            obtain ⟨wq, hwq⟩ : ∃ wq, wq = w5 := ⟨_, rfl⟩
            subst hwq
            go_loopw [9] (fun i wr => ∃ j : Nat, j ≤ n ∧ i = .int .i64 j ∧ Hid (Same wq wr)) (fun i _ => n - (intOf i).toNat)
            case atStart => exact ⟨0, Nat.zero_le _, rfl, hid (Keep.refl _ _)⟩
            case round =>
              obtain ⟨j, hj, rfl, HK⟩ := hrel
              have D6 := H5.out.later HK.out
              by_cases hjn : j < n
              · have e1 : (j : Int) < n := by omega
                obtain ⟨h0, h1, h2, h3, hf, hb6⟩ := cells4 D6.head
                have hrd := read_any _ d Pd3 _ j D6.disk (by omega)
                have H6 := hid D6
                clear D6
                go_wp2_with (at_builtin; refine stopAt ?_; intro q hq)
                refine hrd.mono ?_
                rintro e w7 ⟨v7, rfl, hr7, hk7, ho7⟩
                have D7 := H6.out.later hk7
                clear h0 h1 h2 h3 hf
                obtain ⟨h0, h1, h2, h3, hf, hb7⟩ := cells4 D7.head
                have hrr := ref_read w7 mm Qd5 _ j D7.ref (by omega) (by simp [DM.crash])
                have H7 := hid (And.intro D7 hr7)
                have HK7 := hid hk7
                clear D7 hr7 ho7 hk7
                go_wp2_with (at_builtin; refine stopAt ?_; intro q hq)
                refine hrr.mono ?_
                rintro e w8 ⟨v8, rfl, hr8, hk8, ho8⟩
                have hr7 := H7.out.2.keep hk8 (fun _ _ x => x)
                obtain ⟨a7, c7, rfl, -⟩ := hr7.form
                obtain ⟨a8, c8, rfl, -⟩ := hr8.form
                have hsm := same_any w8 a7 a8 _ _ c7 c8 _ _ (Cells.of_row hr7) (Cells.of_row hr8)
                rw [show decide ((DM.read (DM.crash D [9, 32, 5]) j).1 = (DM.read (DM.crash D [9, 32, 5]) j).1) = true from decide_eq_true rfl] at hsm
                have HK8 := hid (Same.trans HK.out (Same.trans HK7.out hk8))
                clear h0 h1 h2 h3 hf hr7 hr8 ho8 hk8
                go_wp2_with (at_builtin; refine stopAt ?_; intro q hq)
                refine hsm.mono ?_
                rintro e w9 ⟨rfl, rfl⟩
                go_wp2_with (at_builtin; refine stopAt ?_; intro q hq)
                go_roundw
                case rel => exact ⟨j + 1, by omega, by go_num, HK8⟩
                case measure => simp [intOf]; omega
              · have e1 : ¬ (j : Int) < n := by omega
                have H6 := hid D6.keep
                clear D6
                go_wp2_with (at_builtin; refine stopAt ?_; intro q hq)
                refine (known_any _).mono ?_
                rintro e w7 ⟨rfl, hk7⟩
                have HZ := hid (Same.trans H6.out hk7)
                clear hk7
                go_wp2_with (at_builtin; refine stopAt ?_; intro q hq)
                go_ret
                exact ⟨by rfl, HZ.out⟩
end Go.Proofs.Yteemekckiafnfaa
/- A log on a disk that is not armed: what is written goes well. Conditions: as the laws name them. -/
namespace Go.Proofs.Yteemekckiafnfaa
open Go.RowKit
open DM BM WM

def Calm (D : Dk) : Prop := D.left = none ∧ D.down = false

theorem write_calm {D : Dk} (h : Calm D) (i : Nat) (hi : i < D.safe.length) (b : Sec) (hb : b.length = 32) : DM.write D (i : Int) b = (0, { D with waits := D.waits ++ [(i, b)] }) := by
  have ha : DM.act D = (true, D) := by unfold DM.act; rw [h.2, h.1]; rfl
  unfold DM.write
  rw [h.2, ha]
  rw [if_neg (by simp), if_neg (by omega)]
  simp [h.2]
theorem sync_calm {D : Dk} (h : Calm D) : DM.sync D = (0, { D with safe := now D, waits := [] }) := by
  have ha : DM.act D = (true, D) := by unfold DM.act; rw [h.2, h.1]; rfl
  unfold DM.sync
  rw [ha]
  simp

theorem lay_calm (ep : Nat) (b : List UInt8) {s : Nat} (hs : 6 ≤ s) (hb : b.length = 32 * ((s - 2) / 2)) : ∀ k i D, Calm D → D.safe.length = s → i + k ≤ (s - 2) / 2 → (lay ep b i k D).1 = 0 ∧ Calm (lay ep b i k D).2 ∧ (lay ep b i k D).2.safe = D.safe
  | 0, i, D, hc, _, _ => ⟨rfl, hc, rfl⟩
  | k + 1, i, D, hc, hl, hik => by
    have hh : half D = (s - 2) / 2 := by unfold half; rw [hl]
    have hw := write_calm hc (WM.first D ep + i) (first_lt ep i (by omega) (by omega)) (secOf b i) (by unfold secOf; rw [List.length_take, List.length_drop]; omega)
    unfold lay
    rw [hw]
    simp only [if_true]
    exact lay_calm ep b hs hb k (i + 1) { D with waits := D.waits ++ [(WM.first D ep + i, secOf b i)] } hc hl (by omega)

theorem append_calm {D : Dk} {G : Lg} {b : List UInt8} (hc : Calm D) (h6 : 6 ≤ D.safe.length) (hd : G.dead = false) (hf : (flat G.l).length ≤ 32 * half D) (hb : b.length ≤ 1024) :
    if room D G < b.length + 10 then WM.append D G b = (5, D, G)
    else (WM.append D G b).1 = 0 ∧ (WM.append D G b).2.2 = { G with l := G.l ++ [b] } ∧ Calm (WM.append D G b).2.1 ∧ (WM.append D G b).2.1.safe = D.safe := by
  have hg : gone D G = false := by unfold gone; rw [hd, hc.2]; rfl
  split
  · rename_i h
    unfold WM.append
    rw [hg, if_neg (by simp), if_neg (by omega), if_pos h]
  · rename_i h
    have hsn := flat_snoc G.l b
    have hfit : (flat (G.l ++ [b])).length ≤ 32 * half D := by unfold room at h; omega
    have hal : (area D (G.l ++ [b])).length = 32 * half D := areaH_length hfit
    obtain ⟨h1, h2, h3⟩ := lay_calm G.ep (area D (G.l ++ [b])) (s := D.safe.length) h6 hal (((flat (G.l ++ [b])).length - 1) / 32 - (flat G.l).length / 32 + 1) ((flat G.l).length / 32) D hc rfl
      (by have : (D.safe.length - 2) / 2 = half D := rfl; omega)
    unfold WM.append
    rw [hg, if_neg (by simp), if_neg (by omega), if_neg h]
    simp only
    rw [h1]
    refine ⟨rfl, ?_, h2, h3⟩
    obtain ⟨ep, l, safe, dead⟩ := G
    simp only at hd
    subst hd
    rfl
theorem room_snoc {D E : Dk} {G J : Lg} {b : List UInt8} (hl : J.l = G.l ++ [b]) (hh : E.safe.length = D.safe.length) : room E J = room D G - (b.length + 10) := by
  have hsn := flat_snoc G.l b
  unfold room
  rw [hl, show half E = half D by unfold half; rw [hh]]
  omega
end Go.Proofs.Yteemekckiafnfaa
/- WalRoom: the walk. Conditions: none but that the arguments are ints and a byte. -/
namespace Go.Proofs.Yteemekckiafnfaa
open Go.ChangeShapes Go.WideShapes Go.RowKit Go.Deep
open DM BM WM

/-- A log that nothing befell, beside another one. -/
structure CalmAt (W : World) (p s : Nat) (D : Dk) (G : Lg) (wr : World) : Prop where
  ex : ∃ d m b c Pw Pd Qw Qd E J, Both W wr p d m b c Pw Pd Qw Qd D G E J
  calm : Calm D
  size : D.safe.length = s
  up : G.dead = false

theorem CalmAt.later {W w w' : World} {p s : Nat} {D : Dk} {G : Lg} (h : CalmAt W p s D G w) (hk : Same w w') : CalmAt W p s D G w' := by
  obtain ⟨d, m, b, c, Pw, Pd, Qw, Qd, E, J, hB⟩ := h.ex
  exact ⟨⟨d, m, b, c, Pw, Pd, Qw, Qd, E, J, hB.later hk⟩, h.calm, h.size, h.up⟩
theorem CalmAt.gone {W w : World} {p s : Nat} {D : Dk} {G : Lg} (h : CalmAt W p s D G w) : WM.gone D G = false := by
  unfold WM.gone; rw [h.up, h.calm.2]; rfl
theorem CalmAt.keep {W w : World} {p s : Nat} {D : Dk} {G : Lg} (h : CalmAt W p s D G w) : Same W w := by
  obtain ⟨d, m, b, c, Pw, Pd, Qw, Qd, E, J, hB⟩ := h.ex
  exact hB.keep
theorem CalmAt.start {W w : World} {p n : Nat} (_h6 : 6 ≤ n) (h : PairNew W w p (DM.new n) (some ⟨0, [], 0, false⟩)) : CalmAt W p n (DM.new n) ⟨0, [], 0, false⟩ w := by
  obtain ⟨d, m, b, c, Pw, Pd, Qw, Qd, hB⟩ := h.both
  exact ⟨⟨d, m, b, c, Pw, Pd, Qw, Qd, _, _, hB⟩, ⟨rfl, rfl⟩, by simp [DM.new], rfl⟩

def nD : Dk := DM.new 14
theorem n_open : openW (DM.new 14) = (0, some ⟨0, [], 0, false⟩, DM.new 14) := by kernel_rfl

set_option maxRecDepth 20000 in
set_option maxHeartbeats 2000000 in
theorem room_walk (w : World) (v : Value) (l : List Int) (hl : Ints w v l) (f : UInt8) :
    Calls Try.prog 3 #[v, .int .u8 (f.toNat : Int)] w fun e w' => e = .returned (.bool true) ∧ Keep (fun _ => False) w w' := by
  obtain ⟨ao, c, rfl, hlc, hcm, hcl, hwf⟩ := hl.cells
  have HL := hid (And.intro hcl hwf)
  clear hl hcm hcl hwf
  obtain ⟨m, hm⟩ : ∃ m, m = l.length := ⟨_, rfl⟩
  rw [← hm] at HL hlc ⊢
  have Hm := hid hm
  clear hm
  obtain ⟨fn, hfn⟩ : ∃ fn, fn = (f.toNat : Int) := ⟨_, rfl⟩
  have hst := pstart_any w 14 (by decide) (by decide)
  rw [n_open] at hst
  have Hf := hid hfn
  rw [← hfn]
  clear hfn
  go_enter Try.func3, Try.ntmps3
  go_wp2_with (at_builtin; refine stopAt ?_; intro q hq)
  refine hst.mono ?_
  rintro e w1 ⟨p, rfl, hP1⟩
  have HR1 := hid (show ∃ D G, CalmAt w p 14 D G w1 ∧ G.l.length = 0 ∧ G.safe = 0 ∧ D.waits.length ≤ 2048 * 0 from ⟨_, _, CalmAt.start (by decide) hP1, rfl, rfl, by simp [DM.new]⟩)
  clear hP1 hst
  go_wp2_with (at_builtin; refine stopAt ?_; intro q hq)
  go_loopw [7, 8] (fun nv i wr => ∃ k n : Nat, k ≤ m ∧ k ≤ 40 ∧ n ≤ k ∧ nv = .int .i64 n ∧ i = .int .i64 k ∧ Hid (∃ D G, CalmAt w p 14 D G wr ∧ G.l.length = n ∧ G.safe = 0 ∧ D.waits.length ≤ 2048 * k)) (fun _ i _ => 40 - (intOf i).toNat)
  case atStart => exact ⟨0, 0, Nat.zero_le _, Nat.zero_le _, Nat.le_refl _, rfl, rfl, HR1⟩
  case round =>
    clear HR1
    obtain ⟨k, n, hk, hk40, hnk, rfl, rfl, HR⟩ := hrel
    obtain ⟨D, G, hC, hn, hsf, hwt⟩ := HR.out
    obtain ⟨d, mm, b, c', Pw, Pd, Qw, Qd, E, J, hB⟩ := hC.ex
    obtain ⟨h0, h1, h2, h3, hf, hb1⟩ := cells4 hB.head
    have hg := hC.gone
    have HX := hid (And.intro hC (And.intro hB (And.intro hn (And.intro hsf (And.intro hwt hg)))))
    by_cases hgo : k < m ∧ k < 40
    · have g2 : (k : Int) < m := by omega
      have g1 : (k : Int) < 40 := by omega
      have hkl : k < l.length := by rw [← Hm.out]; exact hgo.1
      obtain ⟨ad, rfl, hcs⟩ := HL.out.1.2 (by omega)
      have hiW : w.cell? (ad.add k) = some (.int .i64 l[k]) := hcs k _ (by simp [intsV, hkl])
      have hi0 := cell_old hC.keep _ _ hiW
      obtain ⟨z, hz⟩ : ∃ z, z = l[k] := ⟨_, rfl⟩
      have hzb := HL.out.2 l[k] (List.getElem_mem hkl)
      rw [← hz] at hi0 hiW hzb
      have hgo1 := hgo.1
      have hgo2 := hgo.2
      have HI := hid hiW
      clear hgo hC hB hn hsf hwt hz hiW
      by_cases hbad : z < 0 ∨ 1024 < z
      · have bad' : z < 0 ∨ (¬ z < 0 ∧ 1024 < z) := by omega
        clear hbad
        rcases bad' with c1 | ⟨c0, c1⟩
        all_goals
          go_wp2_with (at_builtin; refine stopAt ?_; intro q hq)
          refine (known_any _).mono ?_
          rintro e w4 ⟨rfl, hk4⟩
          have HZ := hid (Same.trans HX.out.1.keep hk4)
          clear hk4
          go_wp2_with (at_builtin; refine stopAt ?_; intro q hq)
          go_ret
          exact ⟨by rfl, HZ.out⟩
      · have c0 : ¬ z < 0 := by omega
        have c1 : ¬ 1024 < z := by omega
        clear hbad
        obtain ⟨s, rfl⟩ : ∃ s : Nat, (s : Int) = z := ⟨z.toNat, by omega⟩
        have hro := room_up wr b d Pw Pd D G HX.out.2.1.one hg
        obtain ⟨r, hr⟩ : ∃ r, r = room D G := ⟨_, rfl⟩
        rw [← hr] at hro
        have Hr := hid (And.intro hr (show r ≤ 32 * half D by rw [hr]; unfold room; omega))
        clear hr
        go_wp2_with (at_builtin; refine stopAt ?_; intro q hq)
        refine hro.mono ?_
        rintro e w2 ⟨rfl, rfl⟩
        obtain ⟨w2, hw2⟩ : ∃ w2, w2 = wr.drew := ⟨_, rfl⟩
        have hk2 : Same wr w2 := by rw [hw2]; exact (Keep.refl _ _).drew
        rw [← hw2]
        clear h0 h1 h2 h3 hf hw2
        have hB2 := HX.out.2.1.later hk2
        obtain ⟨h0, h1, h2, h3, hf, hb2⟩ := cells4 hB2.head
        have hi0 := cell_old hk2 _ _ hi0
        have hbody := fun w' => body_any w' (s : Int) f ⟨by omega, by omega⟩
        rw [show min ((s : Nat) : Int).toNat 1030 = s by omega, ← Hf.out] at hbody
        have HB2 := hid (And.intro hB2 hk2)
        clear hB2 hk2
        go_upto_region 11 with fail
        refine wp_region_canon [59] (by kernel_rfl) (by kernel_rfl) ?_
        repeat (first | (apply wpC_pure (by rfl); (intro K w'; go_simp; exact id)) | (apply wpC_load (by rfl); (intro K; go_simp; exact id)))
        refine wpC_new (by rfl) (by rfl) (fun K hK => ?_)
        go_simp
        refine (hbody _).mono ?_
        rintro e w3 ⟨v3, rfl, hF⟩
        have hrow := hF.row
        have hown := hF.own
        obtain ⟨ao3, cb3, rfl, -⟩ := hrow.form
        have hbl := bodyL_length s f
        rw [hbl] at hrow hown ⊢
        have hB3 := HB2.out.1.later (Same.trans (Keep.refl _ _).drew hF.keep)
        refine hK _ _ (Pre.of_keep hF.keep) ?_
        have hap := wappend_any w3 b d Pw Pd D G hB3.one ao3 _ cb3 (bodyL s f) (Cells.of_row hrow) (fun x _ hx => by
          subst hx
          have h1 := hown x.block rfl
          have h2 : w2.drew.heap.size = w2.heap.size := rfl
          exact ⟨fun y => by have := HB2.out.1.lt x.block (.inl (.inl y)); omega, fun y => by have := HB2.out.1.lt x.block (.inl (.inr y)); omega⟩) (by omega) (by have := HX.out.2.2.2.2.1; omega)
        obtain ⟨R, hR⟩ : ∃ R, R = WM.append D G (bodyL s f) := ⟨_, rfl⟩
        rw [← hR] at hap
        have H3 := hid (And.intro hB3 (And.intro hR hbl))
        clear hK K hF hrow hown hB3 hR hbody hbl
        repeat (first | (apply wpC_pure (by rfl); (intro K w'; go_simp; exact id)) | (apply wpC_load (by rfl); (intro K; go_simp; exact id)))
        refine wpC_act (by rfl) (by rfl) (fun K hK => ?_)
        go_simp
        refine hap.mono ?_
        rintro e w4 ⟨rfl, ht⟩
        obtain ⟨hC, hB, hn, hsf, hwt, hg⟩ := HX.out
        obtain ⟨Pw4, Pd4, hB4, -⟩ := H3.out.1.toW ht
        have hac := append_calm (b := bodyL s f) hC.calm (by have := hC.size; omega) hC.up hB.one.ok.fit (by have := H3.out.2.2; omega)
        rw [← H3.out.2.1, H3.out.2.2, ← Hr.out.1] at hac
        refine hK _ _ ?_
        clear hK K h0 h1 h2 h3 hf hC hB hn hsf hwt hg ht hap
        obtain ⟨h0, h1, h2, h3, hf, hb4⟩ := cells4 hB4.head
        have hi0 := cell_old hB4.keep _ _ HI.out
        have hr32 : (r : Int) ≤ 65536 := by have := HX.out.2.1.one.ok.few; have := Hr.out.2; omega
        have hs1 : (s : Int) ≤ 1024 := by omega
        have e1 : IntKind.i64.wrap ((r : Int) - 10) = (r : Int) - 10 := by simp [IntKind.wrap, IntKind.signed, IntKind.bits]; omega
        by_cases hfit : r < s + 10
        · rw [if_pos hfit] at hac
          subst hac
          have q1 : decide ((s : Int) ≤ (r : Int) - 10) = false := decide_eq_false (by omega)
          have hro4 := fun t : Later w4 => room_up t.val b d Pw4 Pd4 D G (hB4.one.keep t.keep (fun _ _ x => x) (fun _ _ x => x)) HX.out.2.2.2.2.2
          rw [← Hr.out.1] at hro4
          have HR4 := hid (fun t : Later w4 => (hro4 t).mono fun e w' ⟨h1, h2⟩ => (show e = Ending.returned (.int .i64 (r : Nat)) ∧ Same t.val w' from ⟨h1, by rw [h2]; exact (Keep.refl _ _).drew⟩))
          have H4 := hid hB4
          have j1 := fun t : Later w4 => t.cell h1
          clear hro4 hB4 hr32 hs1
          clear hfit
          repeat (first | (apply wpC_pure (by rfl); (intro K w'; go_simp; exact id)) | (apply wpC_load (by rfl); (intro K; go_simp; exact id)))
          refine wpC_nil ?_
          go_upto_region 13 with fail
          clear h0 h1 h2 h3 hf
          (refine wp_region_later (by kernel_rfl) (by kernel_rfl) ?_; (repeat (go_big_quiet_step ((go_at_call 11; exact Later.call (HR4.out _))))); refine wpQuiet_nil ?_; rintro _ ⟨sq, rfl⟩)
          have HZ := hid (show ∃ D G, CalmAt w p 14 D G sq.val ∧ G.l.length = n ∧ G.safe = 0 ∧ D.waits.length ≤ 2048 * (k + 1) from
            ⟨D, G, ⟨⟨d, mm, b, c', Pw4, Pd4, Qw, Qd, E, J, H4.out.later sq.keep⟩, HX.out.1.calm, HX.out.1.size, HX.out.1.up⟩, HX.out.2.2.1, HX.out.2.2.2.1, by have := HX.out.2.2.2.2.1; omega⟩)
          clear j1 hi0 q1 e1
          go_wp2_with (at_builtin; refine stopAt ?_; intro q hq)
          go_roundw
          case rel => exact ⟨k + 1, n, by omega, by omega, by omega, rfl, by go_num, HZ⟩
          case measure => simp [intOf]; omega
        · rw [if_neg hfit] at hac
          obtain ⟨a1, a2, a3, a4⟩ := hac
          rw [a1]
          obtain ⟨r2, hr2⟩ : ∃ r2, r2 = r - (s + 10) := ⟨_, rfl⟩
          have hrm := room_snoc (D := D) (E := R.2.1) (G := G) (J := R.2.2) (b := bodyL s f) (by rw [a2]) (by rw [a4])
          rw [← Hr.out.1, H3.out.2.2, ← hr2] at hrm
          have hup : R.2.2.dead = false := by rw [a2]; exact HX.out.1.up
          have hg4 : gone R.2.1 R.2.2 = false := by unfold gone; rw [hup, a3.2]; rfl
          have q1 : (s : Int) ≤ (r : Int) - 10 := by omega
          have e2 : (r : Int) - (s : Int) = ((r - s : Nat) : Int) := by omega
          have e3 : ((r - s : Nat) : Int) - 10 = (r2 : Int) := by omega
          have e4 := wi64 (r - s) (by omega)
          have e5 := wi64 r2 (by omega)
          obtain ⟨rs, hrs⟩ : ∃ rs, rs = r - s := ⟨_, rfl⟩
          rw [← hrs] at e2 e3 e4
          have hro4 := fun t : Later w4 => room_up t.val b d Pw4 Pd4 R.2.1 R.2.2 (hB4.one.keep t.keep (fun _ _ x => x) (fun _ _ x => x)) hg4
          rw [hrm] at hro4
          have HR4 := hid (fun t : Later w4 => (hro4 t).mono fun e w' ⟨h1, h2⟩ => (show e = Ending.returned (.int .i64 (r2 : Nat)) ∧ Same t.val w' from ⟨h1, by rw [h2]; exact (Keep.refl _ _).drew⟩))
          have H4 := hid (And.intro hB4 (And.intro a2 (And.intro a3 (And.intro a4 hup))))
          have j1 := fun t : Later w4 => t.cell h1
          have j2 := fun t : Later w4 => t.cell hi0
          have hwa := append_waits (D := D) (by have := HX.out.1.size; omega) G (bodyL s f)
          rw [← H3.out.2.1] at hwa
          have HW := hid hwa
          clear hro4 hB4 hr32 hs1 a1 a2 a3 a4 hrm hup hg4 hr2 hrs hfit hwa
          repeat (first | (apply wpC_pure (by rfl); (intro K w'; go_simp; exact id)) | (apply wpC_load (by rfl); (intro K; go_simp; exact id)))
          refine wpC_nil ?_
          go_upto_region 13 with fail
          clear h0 h1 h2 h3 hf
          (refine wp_region_later (by kernel_rfl) (by kernel_rfl) ?_; (repeat (go_big_quiet_step ((go_at_call 11; exact Later.call (HR4.out _))))); refine wpQuiet_nil ?_; rintro _ ⟨sq, rfl⟩)
          have HZ := hid (show ∃ D G, CalmAt w p 14 D G sq.val ∧ G.l.length = n + 1 ∧ G.safe = 0 ∧ D.waits.length ≤ 2048 * (k + 1) from by
            obtain ⟨hB4, a2, a3, a4, hup⟩ := H4.out
            exact ⟨R.2.1, R.2.2, ⟨⟨d, mm, b, c', Pw4, Pd4, Qw, Qd, E, J, hB4.later sq.keep⟩, a3, by rw [a4]; exact HX.out.1.size, hup⟩, by rw [a2]; simp [HX.out.2.2.1], by rw [a2]; exact HX.out.2.2.2.1, by have := HX.out.2.2.2.2.1; have := HW.out; omega⟩)
          clear j1 j2 hi0 q1 e1 e2 e3 e4 e5
          go_wp2_with (at_builtin; refine stopAt ?_; intro q hq)
          go_roundw
          case rel => exact ⟨k + 1, n + 1, by omega, by omega, by omega, by go_num, by go_num, HZ⟩
          case measure => simp [intOf]; omega
    · clear hC hB hn hsf hwt
      have cut : (¬ (k : Int) < m) ∨ ((k : Int) < m ∧ ¬ (k : Int) < 40) := by omega
      clear hgo
      rcases cut with c1 | ⟨c0, c1⟩
      all_goals
        have hre := records_up wr b d Pw Pd D G HX.out.2.1.one hg
        go_wp2_with (at_builtin; refine stopAt ?_; intro q hq)
        refine hre.mono ?_
        rintro e w2 ⟨v2, rfl, hm2, hk2⟩
        obtain ⟨ao2, cl2, rfl, -⟩ := hm2.form
        rw [HX.out.2.2.1]
        have hB2 := HX.out.2.1.later hk2
        have hsa := safe_up w2 b d Pw Pd D G hB2.one hg
        rw [HX.out.2.2.2.1] at hsa
        clear h0 h1 h2 h3 hf
        obtain ⟨h0, h1, h2, h3, hf, hb2⟩ := cells4 hB2.head
        have H2 := hid hB2
        clear hB2 hm2 hk2 hre
        go_wp2_with (at_builtin; refine stopAt ?_; intro q hq)
        refine hsa.mono ?_
        rintro e w3 ⟨rfl, rfl⟩
        go_wp2_with (at_builtin; refine stopAt ?_; intro q hq)
        refine (known_any _).mono ?_
        rintro e w4 ⟨rfl, hk4⟩
        have HZ := hid (Same.trans H2.out.keep hk4)
        clear hk4
        go_wp2_with (at_builtin; refine stopAt ?_; intro q hq)
        go_ret
        exact ⟨by rfl, HZ.out⟩
end Go.Proofs.Yteemekckiafnfaa
/- The program's log: Records, whose each record has memory of its own; what is lent. Conditions: as the contracts name them. -/
namespace Go.Proofs.Yteemekckiafnfaa
open Go.RowKit
open DM BM WM

def Apart (a b : Value) : Prop := ∀ k, a.ownBlock = some k → b.ownBlock ≠ some k
theorem Apart.symm {a b : Value} (h : Apart a b) : Apart b a := fun k x y => h k y x
def MadeX (w0 : World) (v : Value) (L : List (List UInt8)) (w : World) : Prop := ∃ vs, Recs w (fun k => w0.heap.size ≤ k) (fun _ => False) v L vs ∧ vs.Pairwise Apart

set_option maxRecDepth 20000 in
set_option maxHeartbeats 1000000 in
theorem records_own (w : World) (b d : Nat) (F Fd : Nat → Prop) (D : Dk) (G : Lg) (H : LogAt w b d F Fd D G) (hg : gone D G = false) :
    Calls Try.prog 14 #[.pointer (some ⟨b, 0, none⟩)] w fun e w' => ∃ v, e = .returned v ∧ MadeX w v G.l w' ∧ Keep (fun _ => False) w w' := by
  have HH := hid H
  obtain ⟨ga, ca, vl, vs, HL⟩ := H
  have hh := HL.wal.head
  unfold walCells at hh
  obtain ⟨h0, h1, h2, h3, h4, h5, h6, h7, hf, hb⟩ := cells8 hh
  have hcnt := HL.wal.ok.count
  have hsml := hid HL.wal.ok.small
  obtain ⟨adl, cl, rfl, -⟩ := HL.wal.recs.row.form
  have HR := hid HL.wal.recs
  have H0 := hid (show ∃ vs', Recs w (fun k => w.heap.size ≤ k) (fun _ => False) (.slice none 0 0) (G.l.take 0) vs' ∧ Keep (fun _ => False) w w ∧ vs'.Pairwise Apart from ⟨[], Recs.nil _ _ _, Keep.refl _ _, List.Pairwise.nil⟩)
  clear hh HL h0 h1 h2 h3 h5 h6 h7 hf hb
  go_enter Try.func14, Try.ntmps14
  go_wp2_with (at_builtin; refine stopAt ?_; intro q hq)
  refine (ready_up w b d F Fd D G HH.out hg).mono ?_
  rintro e w ⟨rfl, rfl⟩
  go_wp2_with (at_builtin; refine stopAt ?_; intro q hq)
  go_loopw [3, 14] (fun ov iv wr => ∃ i : Nat, i ≤ G.l.length ∧ iv = .int .i64 i ∧ (∃ ad c, ov = .slice ad i c) ∧ Hid (∃ vs', Recs wr (fun k => w.heap.size ≤ k) (fun _ => False) ov (G.l.take i) vs' ∧ Keep (fun _ => False) w wr ∧ vs'.Pairwise Apart)) (fun _ iv _ => G.l.length - (intOf iv).toNat)
  case atStart => exact ⟨0, Nat.zero_le _, rfl, ⟨none, 0, rfl⟩, H0⟩
  case round =>
    clear H0
    obtain ⟨i, hi, rfl, ⟨ad, c, rfl⟩, HI⟩ := hrel
    by_cases hin : i < G.l.length
    · obtain ⟨vs', hr', hk', hpw⟩ := HI.out
      have HPW := hid hpw
      clear hpw
      obtain ⟨g, ad2, c2, rfl, hc, hrow, hc2⟩ := (HR.out.keep hk' fun _ _ _ x => x).one i hin
      obtain ⟨x, hx⟩ : ∃ x, x = G.l[i] := ⟨_, rfl⟩
      have hxl : x.length ≤ 1024 := by rw [hx]; exact hsml.out _ (List.getElem_mem hin)
      rw [← hx] at hc hrow hc2
      have hl1 : (G.l.take i).length = i := by rw [List.length_take]; omega
      have HX := hid (show G.l.take (i + 1) = G.l.take i ++ [x] by rw [List.take_succ_eq_append_getElem hin, hx])
      have q1 : (i : Int) < (G.l.length : Int) := by omega
      have HRr := hid (And.intro hr' (And.intro hk' (And.intro hrow (And.intro hc2 hl1))))
      clear hr' hk' hrow hc2 hx hl1
      obtain ⟨n, hn⟩ : ∃ n, n = x.length := ⟨_, rfl⟩
      rw [← hn] at hc hxl HRr
      have HN := hid hn
      clear hn
      go_wp2_with (at_builtin; refine stopAt ?_; intro q hq)
      (refine hq.out ?_; clear hq q)
      have hf6 : Fresh wr (.slice (some ⟨wr.heap.size, 0, none⟩) 0 0) [] (wr.alloc (.cells #[] 5)) := fresh_build rfl rfl rfl (by unfold maxLen; decide)
      obtain ⟨w6, hw6⟩ : ∃ w6, w6 = wr.alloc (.cells #[] 5) := ⟨_, rfl⟩
      rw [← hw6] at hf6 ⊢
      clear hw6
      have HF6 := hid hf6
      clear hf6
      refine wpList_plain rfl (fun K hK => ?_)
      refine wp_append_new (r := x) _ _ rfl rfl HF6.out _ n c2 rfl ((Cells.of_row HRr.out.2.2.1).keep HF6.out.keep (fun _ _ h => h)) (by omega) ?_
      intro v7 w7 hf7 hk7
      obtain ⟨ad7, c7, hv7, -⟩ := hf7.row.form
      rw [← HN.out] at hv7
      subst hv7
      refine hK _ _ ?_
      clear hK K
      have HF7 := hid hf7
      clear hf7 hk7
      go_wp2_with (at_builtin; refine stopAt ?_; intro q hq)
      (refine hq.out ?_; clear hq q)
      obtain ⟨w8, hw8⟩ : ∃ w8, w8 = w7.alloc (.cells #[.slice ad7 n c7] 36) := ⟨_, rfl⟩
      have hnew8 : w8.heap[w7.heap.size]? = some (.cells #[.slice ad7 n c7] 36) := by rw [hw8]; exact heap_alloc_new w7 _
      have hk78 : Keep (fun _ => False) w7 w8 := by rw [hw8]; exact (Keep.refl _ _).alloc _
      rw [← hw8]
      clear hw8
      have H8 := hid (And.intro hnew8 hk78)
      clear hnew8 hk78
      refine wpList_plain rfl (fun K hK => ?_)
      obtain ⟨hr', hk', hrow, hc2, hl1⟩ := HRr.out
      have hkr8 : Keep (fun _ => False) wr w8 := HF7.out.keep.next H8.out.2 (fun _ _ x => x) (fun _ _ x => x)
      have hr8 := hr'.keep hkr8 (fun _ _ _ x => x)
      have hrow8 := hr8.row
      rw [hl1] at hrow8
      refine wp_append ty_recs _ _ rfl rfl hrow8 (some ⟨w7.heap.size, 0, none⟩) 1 1 [.slice ad7 n c7] rfl
        ⟨rfl, fun _ => ⟨_, rfl, fun j u hu => by rw [addr_add, Nat.zero_add, cell_of_row _ _ _ _ _ _ H8.out.1]; simpa using hu⟩⟩ (by intro u hu; simp at hu; subst hu; rfl) (by unfold maxLen; omega) (by omega) ?_
      intro v9 w9 hr9 hk9 hv9
      obtain ⟨ad9, c9, rfl, -⟩ := hr9.form
      refine hK _ _ ?_
      clear hK K
      have HZ := hid (show ∃ vs', Recs w9 (fun k => w.heap.size ≤ k) (fun _ => False) (.slice ad9 (i + 1) c9) (G.l.take (i + 1)) vs' ∧ Keep (fun _ => False) w w9 ∧ vs'.Pairwise Apart by
        have s1 := hk'.size
        have s2 := hkr8.size
        refine ⟨vs' ++ [.slice ad7 n c7], ?_, ?_, ?_⟩
        · rw [HX.out]
          refine hr8.push (HF7.out.row.keep H8.out.2 fun _ _ x => x) (fun k e => ?_) (by rw [hl1]; exact hr9) hk9 (fun k x => x) (fun k e => ?_)
          · have := HF7.out.own k e
            refine ⟨by omega, fun x => x, fun e' => ?_⟩
            have := hr'.row.lt e'
            omega
          · rcases hv9 with ⟨_, h0⟩ | ⟨k', h1, h2⟩
            · omega
            · rw [e] at h1; cases h1
              rcases h2 with h2 | h2
              · exact .inl h2
              · exact .inr ⟨by omega, by omega, fun x => x⟩
        · refine (hk'.next hkr8 (H := fun _ => False) (fun _ _ x => x) (fun _ _ x => x)).next hk9 (fun _ _ x => x) fun k hk x => ?_
          have := (hr'.own k x).1
          omega
        · rw [List.pairwise_append]
          refine ⟨HPW.out, List.pairwise_singleton _ _, fun a ha b hb => ?_⟩
          simp only [List.mem_singleton] at hb
          subst hb
          obtain ⟨j, hj, rfl⟩ := List.getElem_of_mem ha
          intro k e e'
          have hjl : j < (G.l.take i).length := by have := hr'.row.1; rw [Nat.mul_one] at this; omega
          obtain ⟨u, hu, hru, -⟩ := hr'.each j hjl
          rw [List.getElem?_eq_getElem hj] at hu
          cases hu
          have h1 := hru.lt e
          have h2 := HF7.out.own k e'
          omega)
      clear hr' hk' hrow hc2 hl1 hkr8 hr8 hrow8 hr9 hk9 hv9 HRr HF7 H8
      go_wp2_with (at_builtin; refine stopAt ?_; intro q hq)
      go_roundw
      case rel => exact ⟨i + 1, by omega, by go_num, ⟨ad9, c9, rfl⟩, HZ⟩
      case measure => simp [intOf]; omega
    · obtain rfl : i = G.l.length := by omega
      have q1 : ¬ ((G.l.length : Int) < (G.l.length : Int)) := by omega
      go_wp2_with (at_builtin; refine stopAt ?_; intro q hq)
      go_ret
      obtain ⟨vs', hr', hk', hpw⟩ := HI.out
      rw [List.take_length] at hr'
      exact ⟨_, rfl, ⟨vs', hr', hpw⟩, hk'⟩

/-- Values that no two share a block, nor with v: whose each block is. -/
theorem colours (v : Value) (vs : List Value) (hd : vs.Pairwise fun a b => ∀ k, a.ownBlock = some k → b.ownBlock ≠ some k) (ho : ∀ u ∈ vs, ∀ k, u.ownBlock = some k → v.ownBlock ≠ some k) :
    ∃ c : Nat → Nat, (∀ k, v.ownBlock = some k → c k = 0) ∧ ∀ (j : Nat) u k, vs[j]? = some u → u.ownBlock = some k → c k = j + 2 := by
  refine ⟨fun k => match vs.findIdx? (fun u => decide (u.ownBlock = some k)) with | some j => j + 2 | none => 0, fun k hk => ?_, fun j u k hu hk => ?_⟩
  · have : vs.findIdx? (fun u => decide (u.ownBlock = some k)) = none := by
      rw [List.findIdx?_eq_none_iff]
      intro u hu
      simp only [decide_eq_false_iff_not]
      exact fun e => ho u hu k e hk
    simp only [this]
  · obtain ⟨hj, rfl⟩ := List.getElem?_eq_some_iff.1 hu
    have : vs.findIdx? (fun u => decide (u.ownBlock = some k)) = some j := by
      rw [List.findIdx?_eq_some_iff_getElem]
      refine ⟨hj, by simpa using hk, fun i hi => ?_⟩
      simp only [decide_eq_true_eq]
      exact fun e => List.pairwise_iff_getElem.1 hd i j (by omega) hj hi k e hk
    simp only [this]

/-- What is lent: a row of two bytes more. -/
structure LentIs (w w' : World) (g n cap : Nat) (l : List UInt8) : Prop where
  row : Row w' 5 1 (.slice (some ⟨g, 0, none⟩) (n + 2) cap) (n + 2) (bytesV (l ++ [91, 92]))
  new : w.heap.size ≤ g
  keep : Keep (fun _ => False) w w'

set_option maxRecDepth 20000 in
set_option maxHeartbeats 400000 in
theorem lent_any (w : World) (ao : Option Addr) (n c : Nat) (l : List UInt8) (h1 : Cells w ao n 1 (bytesV l)) (hn : n ≤ 1000000) :
    Calls Try.prog 17 #[.slice ao n c] w fun e w' => ∃ g cap, e = .returned (.slice (some ⟨g, 0, none⟩) n cap) ∧ LentIs w w' g n cap l := by
  have hl : l.length = n := by have := h1.1; rw [bytesV_length] at this; omega
  have H1 := hid (And.intro h1 hl)
  clear h1 hl
  go_enter Try.func17, Try.ntmps17
  go_wp2_with (at_builtin; refine stopAt ?_; intro q hq)
  refine (copy_any w ao n c l H1.out.1 (by omega)).mono ?_
  rintro e w2 ⟨v2, rfl, hF⟩
  obtain ⟨ao2, c2, rfl, -⟩ := hF.row.form
  have hr := hF.row
  have ho := hF.own
  rw [H1.out.2] at hr ho ⊢
  have HF := hid (And.intro hr (And.intro hF.keep ho))
  clear hr hF ho
  go_wp2_with (at_builtin; refine stopAt ?_; intro q hq)
  (refine hq.out ?_; clear hq q)
  obtain ⟨hr, hk2, ho⟩ := HF.out
  have hB := heap_alloc_new w2 (.cells #[.int .u8 91, .int .u8 92] 5)
  have kB : Keep (fun _ => False) w2 (w2.alloc (.cells #[.int .u8 91, .int .u8 92] 5)) := (Keep.refl _ _).alloc _
  obtain ⟨wB, hwB⟩ : ∃ wB, wB = w2.alloc (.cells #[.int .u8 91, .int .u8 92] 5) := ⟨_, rfl⟩
  rw [← hwB] at hB kB ⊢
  have hev : Cells wB (some ⟨w2.heap.size, 0, none⟩) 2 1 (bytesV [91, 92]) := ⟨rfl, fun _ => ⟨_, rfl, fun j u hu => by rw [addr_add, Nat.zero_add, cell_of_row _ _ _ _ _ _ hB]; simpa [bytesV] using hu⟩⟩
  refine wpList_plain rfl (fun K hK => ?_)
  refine wp_append (v := .slice ao2 n c2) ty_bytes (.tmp 6) (.tmp 7) rfl rfl (hr.keep kB fun _ _ x => x) (some ⟨w2.heap.size, 0, none⟩) 2 2 (bytesV [91, 92]) rfl hev (bytesV_one _) (by unfold maxLen; omega) (by omega) ?_
  intro v6 w6 hr6 hk6 hv6
  refine hK _ _ ?_
  clear hK K
  obtain ⟨g, cap, rfl, hcap⟩ : ∃ g cap, v6 = .slice (some ⟨g, 0, none⟩) (n + 2) cap ∧ n + 2 ≤ cap := by
    obtain ⟨g, cap, _, _, h1, _, _, h2, _⟩ := hr6.some (by omega)
    exact ⟨g, cap, h1, h2⟩
  have HL := hid (show LentIs w w6 g n cap l from ⟨by rw [bytesV_append]; exact hr6, by
    rcases hv6 with ⟨_, z⟩ | ⟨k', y, z⟩
    · exact absurd z (by omega)
    · cases y
      rcases z with z | z
      · exact ho _ z
      · have z' : g = wB.heap.size := z
        have := hk2.size; have := kB.size; omega, (hk2.next kB (fun _ _ x => x) (fun _ _ x => x)).next hk6 (fun _ _ x => x) (fun k hk x => by have := ho k x; omega)⟩)
  have hsl := fun w => run_sliceAt_hi2 (P := Try.prog) ty_bytes (some ⟨g, 0, none⟩) (n + 2) cap .i64 n (by omega) w
  clear hr6 hk6 hv6 hev hB kB hwB hr hk2 ho hcap
  go_wp2_with (at_builtin; refine stopAt ?_; intro q hq)
  go_ret
  exact ⟨g, cap, by rfl, HL.out⟩

set_option maxRecDepth 20000 in
set_option maxHeartbeats 400000 in
theorem whole_any (w : World) (g n cap c : Nat) (ao : Option Addr) (l : List UInt8) (h1 : Row w 5 1 (.slice (some ⟨g, 0, none⟩) (n + 2) cap) (n + 2) (bytesV (l ++ [91, 92]))) (h2 : Cells w ao n 1 (bytesV l)) (hn : n ≤ 1000000) :
    Calls Try.prog 18 #[.slice (some ⟨g, 0, none⟩) n cap, .slice ao n c] w fun e w' => e = .returned (.bool true) ∧ Keep (fun _ => False) w w' := by
  have hl : l.length = n := by have := h2.1; rw [bytesV_length] at this; omega
  have hcap : n + 2 ≤ cap := by
    obtain ⟨_, _, _, _, h, _, _, h3, _⟩ := h1.some (by omega)
    cases h
    exact h3
  have c0 : w.cell? ⟨g, n, none⟩ = some (.int .u8 91) := by
    rw [h1.cell n (by omega)]
    rw [bytesV_append, List.getElem?_append_right (by rw [bytesV_length]; omega), bytesV_length, hl, Nat.sub_self]
    rfl
  have c1 : w.cell? ⟨g, n + 1, none⟩ = some (.int .u8 92) := by
    rw [h1.cell (n + 1) (by omega)]
    rw [bytesV_append, List.getElem?_append_right (by rw [bytesV_length]; omega), bytesV_length, hl, show n + 1 - n = 1 by omega]
    rfl
  have hx : Cells w (some ⟨g, 0, none⟩) n 1 (bytesV l) := by
    have := Cells.of_row (h1.cut n (by omega))
    rwa [Nat.mul_one, bytesV_append, List.take_left' (by rw [bytesV_length]; exact hl)] at this
  have hs1 := run_str (P := Try.prog) Try.underlying36 Try.underlying5 Try.underlying9 (c := cap) hx
  have hs2 := run_str (P := Try.prog) Try.underlying36 Try.underlying5 Try.underlying9 (c := c) h2
  have hsl := fun w => run_sliceAt_hi2 (P := Try.prog) ty_bytes (some ⟨g, 0, none⟩) n cap .i64 (n + 2) hcap w
  rw [show (((n + 2 : Nat) : Nat) : Int) = (n : Int) + 2 by omega] at hsl
  clear h1 h2 hl hx hcap
  go_enter Try.func18, Try.ntmps18
  go_wp2_with (at_builtin; refine stopAt ?_; intro q hq)
  go_ret
  exact ⟨by rfl, Keep.refl _ _⟩
end Go.Proofs.Yteemekckiafnfaa
/- What a law lends, and what it wants back, beside a log: memory in colours. Conditions: av the laws name them. -/
namespace Go.Proofs.Yteemekckiafnfaa
open Go.RowKit Go.Deep
open DM BM WM

/-- gs: slices that were lent, those from s on not yet written over; k5 of them lie in the row v5; k6 of the given ones, av, in v6. Colours: 0 the log's blocks, 1 v5's, 2 v6's, j + 3 that of gs[j]. -/
structure Lends (W w : World) (s k5 k6 : Nat) (gs av : List Value) (v5 v6 : Value) (Pf : Nat → Prop) (col : Nat → Nat) : Prop where
  lent : Row w 36 1 v5 k5 (gs.take k5)
  each : ∀ j, s ≤ j → j < gs.length → ∃ g n cap xs, gs[j]? = some (.slice (some ⟨g, 0, none⟩) n cap) ∧ Row w 5 1 (.slice (some ⟨g, 0, none⟩) n cap) n (bytesV xs) ∧ xs.length = n
  gcol : ∀ (j : Nat) u x, gs[j]? = some u → u.ownBlock = some x → col x = j + 3 ∧ W.heap.size ≤ x
  want : Row w 36 1 v6 k6 (av.take k6)
  c0 : ∀ x, Pf x → col x = 0 ∧ x < w.heap.size
  c1 : ∀ x, v5.ownBlock = some x → col x = 1 ∧ W.heap.size ≤ x
  c2 : ∀ x, v6.ownBlock = some x → col x = 2 ∧ W.heap.size ≤ x
  glt : ∀ (j : Nat) u x, gs[j]? = some u → u.ownBlock = some x → x < w.heap.size

section
variable {W w w' : World} {s k5 k6 : Nat} {gs av : List Value} {v5 v6 : Value} {Pf : Nat → Prop} {col : Nat → Nat}

theorem Lends.later (h : Lends W w s k5 k6 gs av v5 v6 Pf col) (hk : Same w w') : Lends W w' s k5 k6 gs av v5 v6 Pf col :=
  ⟨h.lent.keep hk (fun _ _ x => x), fun j h1 h2 => let ⟨g, n, cap, xs, a, b, c⟩ := h.each j h1 h2; ⟨g, n, cap, xs, a, b.keep hk (fun _ _ x => x), c⟩, h.gcol, h.want.keep hk (fun _ _ x => x),
   fun x hx => ⟨(h.c0 x hx).1, Nat.lt_of_lt_of_le (h.c0 x hx).2 hk.size⟩, h.c1, h.c2, fun j u x a b => Nat.lt_of_lt_of_le (h.glt j u x a b) hk.size⟩

/-- New blocks get a colour of their own. -/
theorem Lends.tint (h : Lends W w s k5 k6 gs av v5 v6 Pf col) (c : Nat) : Lends W w s k5 k6 gs av v5 v6 Pf (fun x => if x < w.heap.size then col x else c) :=
  ⟨h.lent, h.each, fun j u x a b => ⟨by rw [if_pos (h.glt j u x a b)]; exact (h.gcol j u x a b).1, (h.gcol j u x a b).2⟩, h.want, fun x hx => ⟨by rw [if_pos (h.c0 x hx).2]; exact (h.c0 x hx).1, (h.c0 x hx).2⟩,
   fun x e => ⟨by rw [if_pos (h.lent.lt e)]; exact (h.c1 x e).1, (h.c1 x e).2⟩, fun x e => ⟨by rw [if_pos (h.want.lt e)]; exact (h.c2 x e).1, (h.c2 x e).2⟩, h.glt⟩

/-- One is lent. -/
theorem Lends.lend {g n cap : Nat} {xs : List UInt8} (h : Lends W w s k5 k6 gs av v5 v6 Pf col) (hk : Same w w') (hW : W.heap.size ≤ w.heap.size) (hg : w.heap.size ≤ g) (_hs : s ≤ gs.length) (h5 : k5 ≤ gs.length)
    (hr : Row w' 5 1 (.slice (some ⟨g, 0, none⟩) n cap) n (bytesV xs)) (hx : xs.length = n) : ∃ col', Lends W w' s k5 k6 (gs ++ [.slice (some ⟨g, 0, none⟩) n cap]) av v5 v6 Pf col' := by
  have H := (h.tint (gs.length + 3)).later hk
  have hown : (Value.slice (some ⟨g, 0, none⟩) n cap).ownBlock = some g := rfl
  refine ⟨_, ⟨by rw [List.take_append_of_le_length h5]; exact H.lent, fun j h1 h2 => ?_, fun j u x a b => ?_, H.want, H.c0, H.c1, H.c2, fun j u x a b => ?_⟩⟩
  · rw [List.length_append, List.length_singleton] at h2
    rcases Nat.lt_or_eq_of_le (Nat.le_of_lt_succ h2) with q | q
    · obtain ⟨g', n', cap', xs', e1, e2⟩ := H.each j h1 q
      exact ⟨g', n', cap', xs', by rw [List.getElem?_append_left q]; exact e1, e2⟩
    · subst q
      exact ⟨g, n, cap, xs, by simp, hr, hx⟩
  · by_cases q : j < gs.length
    · rw [List.getElem?_append_left q] at a
      exact H.gcol j u x a b
    · have hj : j = gs.length := by have := (List.getElem?_eq_some_iff.1 a).1; rw [List.length_append, List.length_singleton] at this; omega
      subst hj
      simp at a
      subst a
      rw [hown] at b
      cases b
      exact ⟨by rw [if_neg (by omega)], by omega⟩
  · by_cases q : j < gs.length
    · rw [List.getElem?_append_left q] at a
      exact H.glt j u x a b
    · have hj : j = gs.length := by have := (List.getElem?_eq_some_iff.1 a).1; rw [List.length_append, List.length_singleton] at this; omega
      subst hj
      simp at a
      subst a
      exact hr.lt b

/-- The log goes on. -/
theorem Lends.foot {K Pf' : Nat → Prop} (h : Lends W w s k5 k6 gs av v5 v6 Pf col) (hk : Keep K w w') (hK : ∀ x, K x → Pf x) (hP : ∀ x, Pf' x → (Pf x ∨ w.heap.size ≤ x) ∧ x < w'.heap.size) : ∃ col', Lends W w' s k5 k6 gs av v5 v6 Pf' col' := by
  have H := h.tint 0
  have n5 : ∀ x, v5.ownBlock = some x → ¬ K x := fun x e y => by have := (h.c1 x e).1; have := (h.c0 x (hK x y)).1; omega
  have n6 : ∀ x, v6.ownBlock = some x → ¬ K x := fun x e y => by have := (h.c2 x e).1; have := (h.c0 x (hK x y)).1; omega
  refine ⟨_, ⟨h.lent.keep hk n5, fun j h1 h2 => ?_, H.gcol, h.want.keep hk n6, fun x hx => ?_, H.c1, H.c2, fun j u x a b => Nat.lt_of_lt_of_le (h.glt j u x a b) hk.size⟩⟩
  · obtain ⟨g, n, cap, xs, e1, e2, e3⟩ := h.each j h1 h2
    exact ⟨g, n, cap, xs, e1, e2.keep hk (fun x e y => by have := (h.gcol j _ x e1 e).1; have := (h.c0 x (hK x y)).1; omega), e3⟩
  · obtain ⟨h1, h2⟩ := hP x hx
    refine ⟨?_, h2⟩
    rcases h1 with h1 | h1
    · exact (H.c0 x h1).1
    · rw [if_neg (by omega)]

/-- One more in the row of what was lent. -/
theorem Lends.push5 {v5' : Value} (h : Lends W w s k5 k6 gs av v5 v6 Pf col) (hW : W.heap.size ≤ w.heap.size) (hr : Row w' 36 1 v5' (k5 + 1) (gs.take (k5 + 1))) (hk : Keep (fun x => v5.ownBlock = some x) w w')
    (hv : ∀ x, v5'.ownBlock = some x → v5.ownBlock = some x ∨ w.heap.size ≤ x) : ∃ col', Lends W w' s (k5 + 1) k6 gs av v5' v6 Pf col' := by
  have H := h.tint 1
  have n6 : ∀ x, v6.ownBlock = some x → ¬ v5.ownBlock = some x := fun x e y => by have := (h.c2 x e).1; have := (h.c1 x y).1; omega
  refine ⟨_, ⟨hr, fun j h1 h2 => ?_, H.gcol, h.want.keep hk n6, fun x hx => ⟨(H.c0 x hx).1, Nat.lt_of_lt_of_le (h.c0 x hx).2 hk.size⟩, fun x e => ?_, H.c2, fun j u x a b => Nat.lt_of_lt_of_le (h.glt j u x a b) hk.size⟩⟩
  · obtain ⟨g, n, cap, xs, e1, e2, e3⟩ := h.each j h1 h2
    exact ⟨g, n, cap, xs, e1, e2.keep hk (fun x e y => by have := (h.gcol j _ x e1 e).1; have := (h.c1 x y).1; omega), e3⟩
  · rcases hv x e with q | q
    · exact H.c1 x q
    · exact ⟨by rw [if_neg (by omega)], by omega⟩
theorem Lends.push6 {v6' : Value} (h : Lends W w s k5 k6 gs av v5 v6 Pf col) (hW : W.heap.size ≤ w.heap.size) (hr : Row w' 36 1 v6' (k6 + 1) (av.take (k6 + 1))) (hk : Keep (fun x => v6.ownBlock = some x) w w')
    (hv : ∀ x, v6'.ownBlock = some x → v6.ownBlock = some x ∨ w.heap.size ≤ x) : ∃ col', Lends W w' s k5 (k6 + 1) gs av v5 v6' Pf col' := by
  have H := h.tint 2
  have n5 : ∀ x, v5.ownBlock = some x → ¬ v6.ownBlock = some x := fun x e y => by have := (h.c1 x e).1; have := (h.c2 x y).1; omega
  refine ⟨_, ⟨h.lent.keep hk n5, fun j h1 h2 => ?_, H.gcol, hr, fun x hx => ⟨(H.c0 x hx).1, Nat.lt_of_lt_of_le (h.c0 x hx).2 hk.size⟩, H.c1, fun x e => ?_, fun j u x a b => Nat.lt_of_lt_of_le (h.glt j u x a b) hk.size⟩⟩
  · obtain ⟨g, n, cap, xs, e1, e2, e3⟩ := h.each j h1 h2
    exact ⟨g, n, cap, xs, e1, e2.keep hk (fun x e y => by have := (h.gcol j _ x e1 e).1; have := (h.c2 x y).1; omega), e3⟩
  · rcases hv x e with q | q
    · exact H.c2 x q
    · exact ⟨by rw [if_neg (by omega)], by omega⟩

/-- One is written over. -/
theorem Lends.spoil {u : Value} (h : Lends W w s k5 k6 gs av v5 v6 Pf col) (hu : gs[s]? = some u) (hk : Keep (fun x => u.ownBlock = some x) w w') : Lends W w' (s + 1) k5 k6 gs av v5 v6 Pf col := by
  refine ⟨h.lent.keep hk (fun x e y => by have := (h.c1 x e).1; have := (h.gcol s u x hu y).1; omega), fun j h1 h2 => ?_, h.gcol, h.want.keep hk (fun x e y => by have := (h.c2 x e).1; have := (h.gcol s u x hu y).1; omega),
    fun x hx => ⟨(h.c0 x hx).1, Nat.lt_of_lt_of_le (h.c0 x hx).2 hk.size⟩, h.c1, h.c2, fun j u x a b => Nat.lt_of_lt_of_le (h.glt j u x a b) hk.size⟩
  obtain ⟨g, n, cap, xs, e1, e2, e3⟩ := h.each j (by omega) h2
  exact ⟨g, n, cap, xs, e1, e2.keep hk (fun x e y => by have := (h.gcol j _ x e1 e).1; have := (h.gcol s u x hu y).1; omega), e3⟩
end

/-- The log's blocks. -/
abbrev foot (Pw Pd Qw Qd : Nat → Prop) (p : Nat) : Nat → Prop := fun x => (Pw x ∨ Pd x) ∨ (Qw x ∨ Qd x) ∨ x = p
theorem Both.foot_lt {W w : World} {p d m b c : Nat} {Pw Pd Qw Qd : Nat → Prop} {D E : Dk} {G J : Lg} (h : Both W w p d m b c Pw Pd Qw Qd D G E J) : ∀ x, foot Pw Pd Qw Qd p x → x < w.heap.size := fun x y => by
  rcases y with y | y | y
  · exact h.lt x (.inl y)
  · exact h.lt x (.inr y)
  · subst y; exact heap_lt h.head

theorem flat_sum (L : List (List UInt8)) : (flat L).length = (L.map (fun x => x.length + 1)).sum + 9 * L.length := by
  induction L with
  | nil => rfl
  | cons x t ih => rw [flat_cons, List.length_append, frame_length, ih]; simp only [List.map_cons, List.sum_cons, List.length_cons]; omega
theorem flat_take_sum (L : List (List UInt8)) (k : Nat) : (flat (L.take k)).length ≤ (L.map (fun x => x.length + 1)).sum + 9 * k := by
  have h1 : ((L.take k).map (fun x => x.length + 1)).sum ≤ (L.map (fun x => x.length + 1)).sum := by
    conv => rhs; rw [← List.take_append_drop k L]
    rw [List.map_append, List.sum_append]
    exact Nat.le_add_right _ _
  rw [flat_sum]
  have h2 : (L.take k).length ≤ k := by rw [List.length_take]; omega
  omega
end Go.Proofs.Yteemekckiafnfaa
/- A new disk is opened; given slices as a list of values. Conditions: as the laws name them. -/
namespace Go.Proofs.Yteemekckiafnfaa
open Go.RowKit Go.Deep
open DM BM WM

theorem new_read (n i : Nat) (h : i < n) : DM.read (DM.new n) (i : Int) = (DM.blank, 0) := by
  unfold DM.read
  have h1 : (DM.new n).down = false := rfl
  rw [h1, if_neg (by simp), if_neg (by simp [DM.new]; omega)]
  have h2 : now (DM.new n) = List.replicate n DM.blank := rfl
  rw [h2]
  simp [h]
theorem new_bytes (n ep h : Nat) (hh : ∀ i, i < h → WM.first (DM.new n) ep + i < n) : ((List.range h).map fun i => (DM.read (DM.new n) ((WM.first (DM.new n) ep + i : Nat) : Int)).1).flatten = List.replicate (32 * h) 0 := by
  induction h with
  | zero => rfl
  | succ h ih =>
    rw [List.range_succ, List.map_append, List.flatten_append, ih fun i hi => hh i (by omega)]
    simp only [List.map_cons, List.map_nil, List.flatten_cons, List.flatten_nil, List.append_nil]
    rw [new_read n _ (hh h (by omega))]
    unfold DM.blank
    rw [List.replicate_append_replicate]
    congr 1
theorem new_head (n i : Nat) (h : i < n) : WM.head (DM.new n) i = none := by
  unfold WM.head
  rw [new_read n i h]
  rw [show BM.get (DM.blank, (0 : Int)).1 0 = BM.Got.no 20 by kernel_rfl]
theorem new_open (n : Nat) (h : 6 ≤ n) : openW (DM.new n) = (0, some ⟨0, [], 0, false⟩, DM.new n) := by
  have hl : (DM.new n).safe.length = n := by simp [DM.new]
  have he : epoch (DM.new n) = 0 := by
    unfold epoch
    rw [new_head n 0 (by omega), new_head n 1 (by omega)]
    rfl
  have hf : ∀ i, i < half (DM.new n) → WM.first (DM.new n) 0 + i < n := fun i hi => by
    have := first_lt (D := DM.new n) 0 i (by omega) hi
    omega
  have hb : WM.bytes (DM.new n) 0 = List.replicate (32 * half (DM.new n)) 0 := new_bytes n 0 _ hf
  have hs := scan_area [] (32 * half (DM.new n)) (32 * half (DM.new n) + 1) (by simp) (by simp)
  simp only [flat, List.map_nil, List.flatten_nil, List.nil_append, List.length_nil] at hs
  have hw : wipe 0 (List.replicate (32 * half (DM.new n)) 0) 0 0 (half (DM.new n)) false (DM.new n) = (0, false, DM.new n) := by
    have hd : ∀ j, dirty (List.replicate (32 * half (DM.new n)) 0) 0 j = false := fun j => by
      unfold dirty
      rw [List.any_eq_false]
      intro k hk
      simp only [Bool.and_eq_true, decide_eq_true_eq, not_and, Decidable.not_not]
      intro _
      rw [List.getD_eq_getElem?_getD, List.getElem?_replicate]
      split <;> rfl
    have := wipe_skip 0 (List.replicate (32 * half (DM.new n)) 0) 0 (half (DM.new n)) 0 0 false (DM.new n) (fun j _ _ => hd j)
    rw [Nat.add_zero] at this
    rw [this]
    rfl
  unfold openW
  rw [if_neg (by omega), if_neg (by simp [DM.new]), he, hb]
  simp only [List.length_replicate]
  rw [hs]
  simp only
  rw [hw]
  simp

/-- The values of given slices. -/
def avOf (W : World) (ao : Option Addr) (n : Nat) : List Value :=
  match ao with
  | some ad => (List.range n).map fun j => (W.cell? (ad.add j)).getD undef
  | none => []
theorem av_get {W : World} {ao : Option Addr} {L : List (List UInt8)} (h : Lists W ao L) (j : Nat) (hj : j < L.length) :
    ∃ ad ao' c', ao = some ad ∧ (avOf W ao L.length)[j]? = some (.slice ao' L[j].length c') ∧ W.cell? (ad.add j) = some (.slice ao' L[j].length c') ∧ L[j].length ≤ c' ∧ Cells W ao' L[j].length 1 (bytesV L[j]) := by
  obtain ⟨ad, ao', c', rfl, h1, h2, h3⟩ := h j hj
  refine ⟨ad, ao', c', rfl, ?_, h1, h2, h3⟩
  show ((List.range L.length).map fun j => (W.cell? (ad.add j)).getD undef)[j]? = _
  rw [List.getElem?_map, List.getElem?_range hj]
  simp only [Option.map_some, h1, Option.getD_some]
end Go.Proofs.Yteemekckiafnfaa
/- WalOwn: the walk, up to what was lent. Conditions: none but that the argument is a slice of texts. -/
namespace Go.Proofs.Yteemekckiafnfaa
open Go.ChangeShapes Go.WideShapes Go.RowKit Go.Deep
open DM BM WM

structure OwnRel (W : World) (p : Nat) (l : List (List UInt8)) (av : List Value) (s k : Nat) (lv wv : Value) (wr : World) : Prop where
  ex : ∃ d m b c Pw Pd Qw Qd D G E J gs col, Both W wr p d m b c Pw Pd Qw Qd D G E J ∧ Calm D ∧ D.safe.length = 300 ∧ G = ⟨0, l.take k, 0, false⟩ ∧ D.waits.length ≤ 2048 * k ∧
    Lends W wr s k k gs av lv wv (foot Pw Pd Qw Qd p) col ∧ gs.length = k

/-- Both reads of the records, piled up: a's row grows. -/
structure AllRel (w0 : World) (va : Value) (us us2 : List Value) (k j : Nat) (v : Value) (wr : World) : Prop where
  row : Row wr 36 1 v (k + j) (us ++ us2.take j)
  keep : Keep (fun x => va.ownBlock = some x) w0 wr
  own : ∀ x, v.ownBlock = some x → va.ownBlock = some x ∨ w0.heap.size ≤ x

theorem AllRel.push {w0 w w' : World} {va v v' u : Value} {us us2 : List Value} {k j : Nat} (h : AllRel w0 va us us2 k j v w) (hj : us2[j]? = some u) (hr : Row w' 36 1 v' (k + j + 1) ((us ++ us2.take j) ++ [u]))
    (hk : Keep (fun x => v.ownBlock = some x) w w') (hv : ∀ x, v'.ownBlock = some x → v.ownBlock = some x ∨ w.heap.size ≤ x) : AllRel w0 va us us2 k (j + 1) v' w' := by
  obtain ⟨hjl, rfl⟩ := List.getElem?_eq_some_iff.1 hj
  have s := h.keep.size
  refine ⟨by rw [List.take_succ_eq_append_getElem hjl, ← List.append_assoc]; exact hr, h.keep.next hk (fun _ _ x => x) (fun x hx e => (h.own x e).elim id fun q => by omega), fun x e => (hv x e).elim (h.own x) fun q => .inr (by omega)⟩

/-- The pile is a lot of rows, each with memory of its own. -/
theorem AllRel.lot {wa wb w0 wr : World} {va vb v : Value} {L : List (List UInt8)} {us us2 : List Value} {k : Nat} (h : AllRel w0 va us us2 k k v wr) (hk : k = L.length) (ha : Recs w0 (fun x => wa.heap.size ≤ x) (fun _ => False) va L us) (hb : Recs w0 (fun x => wb.heap.size ≤ x) (fun _ => False) vb L us2)
    (hua : ∀ u ∈ us, ∀ x, u.ownBlock = some x → x < wb.heap.size) (hva : ∀ x, va.ownBlock = some x → x < wb.heap.size) (p1 : us.Pairwise Apart) (p2 : us2.Pairwise Apart) (hL : ∀ x ∈ L, x.length ≤ 4000) (hab : wa.heap.size ≤ wb.heap.size) :
    ∃ c ns, Lot c wr v (us ++ us2) (k + k) ns (fun _ _ => True) ∧ (∀ j, ns j ≤ 1099511627776) ∧ ∀ u ∈ us ++ us2, ∀ x, u.ownBlock = some x → wa.heap.size ≤ x ∧ x < w0.heap.size := by
  have l1 : us.length = k := by have := ha.row.1; rw [Nat.mul_one] at this; omega
  have l2 : us2.length = k := by have := hb.row.1; rw [Nat.mul_one] at this; omega
  have get : ∀ u ∈ us ++ us2, ∃ ao m c xs, u = .slice ao m c ∧ m ≤ 4000 ∧ Row w0 5 1 (.slice ao m c) m xs ∧ (∀ x, (Value.slice ao m c).ownBlock = some x → wa.heap.size ≤ x ∧ va.ownBlock ≠ some x) := fun u hu => by
    rcases List.mem_append.1 hu with hu | hu
    · obtain ⟨j, hj, rfl⟩ := List.getElem_of_mem hu
      obtain ⟨u, e1, e2, e3⟩ := ha.each j (by omega)
      rw [List.getElem?_eq_getElem hj] at e1
      cases e1
      obtain ⟨ao, c, hf, -⟩ := e2.form
      rw [hf] at e2 e3 ⊢
      exact ⟨ao, _, c, _, rfl, hL _ (List.getElem_mem _), e2, fun x e => ⟨(e3 x e).1, (e3 x e).2.2⟩⟩
    · obtain ⟨j, hj, rfl⟩ := List.getElem_of_mem hu
      obtain ⟨u, e1, e2, e3⟩ := hb.each j (by omega)
      rw [List.getElem?_eq_getElem hj] at e1
      cases e1
      obtain ⟨ao, c, hf, -⟩ := e2.form
      rw [hf] at e2 e3 ⊢
      exact ⟨ao, _, c, _, rfl, hL _ (List.getElem_mem _), e2, fun x e => ⟨by have := (e3 x e).1; omega, fun q => by have := hva x q; have := (e3 x e).1; omega⟩⟩
  have own : ∀ u ∈ us ++ us2, ∀ x, u.ownBlock = some x → wa.heap.size ≤ x ∧ x < w0.heap.size := fun u hu x e => by
    obtain ⟨ao, m, c, xs, rfl, _, q3, q4⟩ := get u hu
    exact ⟨(q4 x e).1, q3.lt e⟩
  have hpw : (us ++ us2).Pairwise Apart := by
    rw [List.pairwise_append]
    refine ⟨p1, p2, fun a ha' b hb' x e e' => ?_⟩
    have q1 := hua a ha' x e
    obtain ⟨j, hj, rfl⟩ := List.getElem_of_mem hb'
    obtain ⟨u, e1, e2, e3⟩ := hb.each j (by omega)
    rw [List.getElem?_eq_getElem hj] at e1
    cases e1
    have := (e3 x e').1
    omega
  obtain ⟨c, c1, c2⟩ := colours v (us ++ us2) hpw fun u hu x e q => by
    obtain ⟨ao, m, c, xs, rfl, _, q3, q4⟩ := get u hu
    rcases h.own x q with z | z
    · exact (q4 x e).2 z
    · have := q3.lt e; omega
  have hrow := h.row
  rw [List.take_of_length_le (by omega)] at hrow
  refine ⟨c, fun j => match (us ++ us2)[j]? with | some (.slice _ m _) => m | _ => 0, ⟨hrow, fun j hj => ?_, c1, c2⟩, fun j => ?_, own⟩
  · have hjl : j < (us ++ us2).length := by rw [List.length_append]; omega
    obtain ⟨ao, m, cc, xs, q1, _, q3, q4⟩ := get _ (List.getElem_mem hjl)
    rw [List.getElem?_eq_getElem hjl, q1]
    exact ⟨_, xs, rfl, q3.keep h.keep fun x e z => (q4 x e).2 z, trivial⟩
  · dsimp only
    cases hq : (us ++ us2)[j]? with
    | none => exact Nat.zero_le _
    | some u =>
      obtain ⟨ao, m, cc, xs, rfl, q2, _, _⟩ := get u (List.mem_of_getElem? hq)
      show m ≤ _
      omega

/-- What is wanted, as lists of bytes. -/
theorem want_lists {W w : World} {l : List (List UInt8)} {av : List Value} {ad : Option Addr} {k c : Nat} (hr : Row w 36 1 (.slice ad k c) k (av.take k)) (hk : Same W w) (hkl : k ≤ l.length)
    (hav : ∀ (j : Nat) (hj : j < l.length), ∃ ao' c', av[j]? = some (.slice ao' l[j].length c') ∧ l[j].length ≤ c' ∧ Cells W ao' l[j].length 1 (bytesV l[j])) : Lists w ad (l.take k) := fun j hj => by
  rw [List.length_take] at hj
  obtain ⟨ao', c', h1, h2, h3⟩ := hav j (by omega)
  have h4 : (av.take k)[j]? = some (.slice ao' l[j].length c') := by rw [List.getElem?_take, if_pos (by omega)]; exact h1
  obtain ⟨g, cap, hv, hc⟩ := hr.getCell h4
  cases hv
  refine ⟨⟨g, 0, none⟩, ao', c', rfl, ?_, ?_, ?_⟩
  · rw [addr_add, Nat.zero_add, hc]
    simp
  · simpa using h2
  · simpa using h3.keep hk fun _ _ x => x

set_option maxRecDepth 20000 in
set_option maxHeartbeats 4000000 in
theorem own_walk (w : World) (v : Value) (l : List (List UInt8)) (hl : Texts w v l) :
    Calls Try.prog 4 #[v] w fun e w' => e = .returned (.bool true) ∧ Keep (fun _ => False) w w' := by
  obtain ⟨ao, c, rfl, hlc, hcm, hL⟩ := hl.lists
  have hhe := heavy_any w ao c l hL
  have hav := fun j hj => av_get hL j hj
  obtain ⟨av, hav0⟩ : ∃ av, av = avOf w ao l.length := ⟨_, rfl⟩
  rw [← hav0] at hav
  have HA := hid hav
  clear hl hcm hav0 hav hL
  obtain ⟨m, hm⟩ : ∃ m, m = l.length := ⟨_, rfl⟩
  rw [← hm] at hlc hhe ⊢
  have Hm := hid hm
  clear hm
  by_cases hv4 : 4000 < hv l 0
  · rw [show decide (4000 < hv l 0) = true from decide_eq_true hv4] at hhe
    clear hv4
    go_enter Try.func4, Try.ntmps4
    go_wp2_with (at_builtin; refine stopAt ?_; intro q hq)
    refine hhe.mono ?_
    rintro e w3 ⟨rfl, rfl⟩
    go_wp2_with (at_builtin; refine stopAt ?_; intro q hq)
    refine (known_any _).mono ?_
    rintro e w4 ⟨rfl, hk4⟩
    go_wp2_with (at_builtin; refine stopAt ?_; intro q hq)
    go_ret
    exact ⟨by rfl, hk4⟩
  rw [show decide (4000 < hv l 0) = false from decide_eq_false hv4] at hhe
  have hsum := hv_light l 0 (by omega)
  have HS := hid (And.intro hsum (light_len hv4))
  clear hsum hv4
  have hst := pstart_any w 300 (by decide) (by decide)
  rw [new_open 300 (by decide)] at hst
  go_enter Try.func4, Try.ntmps4
  go_wp2_with (at_builtin; refine stopAt ?_; intro q hq)
  refine hhe.mono ?_
  rintro e w3 ⟨rfl, rfl⟩
  go_wp2_with (at_builtin; refine stopAt ?_; intro q hq)
  refine hst.mono ?_
  rintro e w1 ⟨p, rfl, hP1⟩
  have HR1 := hid (show OwnRel w3 p l av 0 0 (.slice none 0 0) (.slice none 0 0) w1 from by
    obtain ⟨d, mm, b, c', Pw, Pd, Qw, Qd, hB⟩ := hP1.both
    exact ⟨d, mm, b, c', Pw, Pd, Qw, Qd, _, _, _, _, [], fun _ => 0, hB, ⟨rfl, rfl⟩, by simp [DM.new], rfl, by simp [DM.new],
      ⟨Row.nil _ _ _, fun j _ h => absurd h (Nat.not_lt_zero _), fun j u x h => by simp at h, Row.nil _ _ _, fun x h => ⟨rfl, hB.foot_lt x h⟩, fun x h => by simp [Value.ownBlock] at h, fun x h => by simp [Value.ownBlock] at h, fun j u x h => by simp at h⟩, rfl⟩)
  clear hP1 hst hhe
  go_wp2_with (at_builtin; refine stopAt ?_; intro q hq)
  go_loopw [5, 6, 7] (fun lv wv iv wr => ∃ k : Nat, k ≤ m ∧ k ≤ 20 ∧ iv = .int .i64 k ∧ (∃ ad c, lv = .slice ad k c) ∧ (∃ ad c, wv = .slice ad k c) ∧ Hid (OwnRel w3 p l av 0 k lv wv wr)) (fun _ _ iv _ => 20 - (intOf iv).toNat)
  case atStart => exact ⟨0, Nat.zero_le _, Nat.zero_le _, rfl, ⟨none, 0, rfl⟩, ⟨none, 0, rfl⟩, HR1⟩
  case round =>
    clear HR1
    obtain ⟨k, hk, hk20, rfl, ⟨ad5, c5, rfl⟩, ⟨ad6, c6, rfl⟩, HR⟩ := hrel
    obtain ⟨d, mm, b, c', Pw, Pd, Qw, Qd, D, G, E, J, gs, col, hB, hC, hsz, hG, hwt, hLe, hgl⟩ := HR.out.ex
    obtain ⟨h0, h1, h2, h3, hf, hb1⟩ := cells4 hB.head
    by_cases hgo : k < m ∧ k < 20
    · have g2 : (k : Int) < m := by omega
      have g1 : (k : Int) < 20 := by omega
      have hkl : k < l.length := by rw [← Hm.out]; exact hgo.1
      obtain ⟨ad, ao', cl, rfl, hav1, hi0, hcl, hcc⟩ := HA.out k hkl
      obtain ⟨x, hx⟩ : ∃ x, x = l[k] := ⟨_, rfl⟩
      rw [← hx] at hav1 hi0 hcl hcc
      obtain ⟨n, hn⟩ : ∃ n, n = x.length := ⟨_, rfl⟩
      rw [← hn] at hav1 hi0 hcl hcc
      have HI := hid (And.intro hi0 (And.intro hcc (And.intro hav1 (And.intro hx hn))))
      have hi1 := cell_old hB.keep _ _ hi0
      have hle := lent_any wr ao' n cl x (hcc.keep hB.keep fun _ _ x => x)
      have HX := hid (And.intro hB (And.intro hC (And.intro hsz (And.intro hG (And.intro hwt (And.intro hLe hgl))))))
      have hgo1 := hgo.1
      have hgo2 := hgo.2
      clear hgo hav1 hi0 hcl hcc hx hn hB hC hsz hG hwt hLe hgl
      by_cases hlong : 1024 < n
      · have c1 : (1024 : Int) < (n : Int) := by omega
        clear hle
        go_wp2_with (at_builtin; refine stopAt ?_; intro q hq)
        refine (known_any _).mono ?_
        rintro e w4 ⟨rfl, hk4⟩
        have HZ := hid (Same.trans HX.out.1.keep hk4)
        clear hk4
        go_wp2_with (at_builtin; refine stopAt ?_; intro q hq)
        go_ret
        exact ⟨by rfl, HZ.out⟩
      · have c1 : decide ((1024 : Int) < (n : Int)) = false := decide_eq_false (by omega)
        have hle := hle (by omega)
        go_wp2_with (at_builtin; refine stopAt ?_; intro q hq)
        refine hle.mono ?_
        rintro e w2 ⟨g, cap, rfl, hLI⟩
        obtain ⟨hB, hC, hsz, hG, hwt, hLe, hgl⟩ := HX.out
        have hrow2 := hLI.row
        have hcut : Row w2 5 1 (.slice (some ⟨g, 0, none⟩) n cap) n (bytesV x) := by
          have := hrow2.cut n (by omega)
          rwa [Nat.mul_one, bytesV_append, List.take_left' (by rw [bytesV_length]; exact HI.out.2.2.2.2.symm)] at this
        obtain ⟨col2, hLe2⟩ := hLe.lend hLI.keep hB.keep.size hLI.new (Nat.zero_le _) (by omega) hcut HI.out.2.2.2.2.symm
        have hB2 := hB.later hLI.keep
        have hgc : col2 g = k + 3 := by
          have := (hLe2.gcol gs.length (.slice (some ⟨g, 0, none⟩) n cap) g (by simp) rfl).1
          omega
        have hnf : ∀ y, foot Pw Pd Qw Qd p y → y ≠ g := fun y hy e => by subst e; have := (hLe2.c0 y hy).1; omega
        have hap := wappend_any w2 b d Pw Pd D G hB2.one (some ⟨g, 0, none⟩) n cap x (Cells.of_row hcut) (fun y _ hy => by
          cases hy
          exact ⟨fun z => hnf g (.inl (.inl z)) rfl, fun z => hnf g (.inl (.inr z)) rfl⟩) (by omega) (by omega)
        have hfl : (flat G.l).length + (n + 10) ≤ 32 * half D := by
          have h1 := flat_take_sum l (k + 1)
          rw [List.take_succ_eq_append_getElem hkl] at h1
          have h2 := flat_snoc (l.take k) l[k]
          rw [← HI.out.2.2.2.1, ← HI.out.2.2.2.2] at h2
          rw [← HI.out.2.2.2.1] at h1
          have h3 := HS.out.1
          have h4 : half D = 149 := by unfold half; omega
          rw [show G.l = l.take k by rw [hG]]
          omega
        have hac := append_calm (b := x) hC (by omega) (by rw [hG]) hB.one.ok.fit (by have := HI.out.2.2.2.2; omega)
        rw [if_neg (by have := HI.out.2.2.2.2; unfold room; omega)] at hac
        obtain ⟨R, hR⟩ : ∃ R, R = WM.append D G x := ⟨_, rfl⟩
        rw [← hR] at hap hac
        obtain ⟨a1, a2, a3, a4⟩ := hac
        rw [a1] at hap
        have hwa := append_waits (D := D) (by omega) G x
        rw [← hR] at hwa
        have hG2 : R.2.2 = ⟨0, l.take (k + 1), 0, false⟩ := by
          rw [a2, hG, List.take_succ_eq_append_getElem hkl, HI.out.2.2.2.1]
        clear h0 h1 h2 h3 hf
        obtain ⟨h0, h1, h2, h3, hf, hb2⟩ := cells4 hB2.head
        have H2 := hid (And.intro hB2 (And.intro hLe2 (And.intro hrow2 (And.intro hgc (And.intro hgl (And.intro hG2 (And.intro a3 (And.intro (a4.symm ▸ hsz : R.2.1.safe.length = 300) (show R.2.1.waits.length ≤ 2048 * (k + 1) by omega)))))))))
        have hi2 := cell_old hLI.keep _ _ hi1
        clear hB hC hsz hG hwt hLe hgl hrow2 hcut hLe2 hB2 hgc hnf hfl hR a1 a2 a3 a4 hwa hG2 hLI hle hi1
        go_wp2_with (at_builtin; refine stopAt ?_; intro q hq)
        refine hap.mono ?_
        rintro e w4 ⟨rfl, ht⟩
        obtain ⟨hB2, hLe2, hrow2, hgc, hgl, hG2, a3, hsz, hwt⟩ := H2.out
        obtain ⟨Pw4, Pd4, hB4, hs4⟩ := hB2.toW ht
        obtain ⟨-, -, -, hk4, -⟩ := ht
        obtain ⟨col4, hLe4⟩ := hLe2.foot (Pf' := foot Pw4 Pd4 Qw Qd p) hk4 (fun y hy => .inl hy) (fun y hy => ⟨by
          rcases hy with z | z | z
          · exact (hs4 y z).imp .inl id
          · exact .inl (.inr (.inl z))
          · exact .inl (.inr (.inr z)), hB4.foot_lt y hy⟩)
        have hrow4 := hrow2.keep hk4 (fun y e z => by cases e; have := (hLe2.c0 g (.inl z)).1; omega)
        have hwh := whole_any w4 g n cap cl ao' x hrow4 (HI.out.2.1.keep hB4.keep fun _ _ x => x) (by omega)
        have hi4 := cell_old hB4.keep _ _ HI.out.1
        have H4 := hid (And.intro hB4 (And.intro hLe4 (And.intro hgl (And.intro hG2 (And.intro a3 (And.intro hsz hwt))))))
        clear h0 h1 h2 h3 hf hB2 hLe2 hrow2 hgc hgl hG2 a3 hsz hwt hB4 hs4 hk4 hLe4 hrow4 hap hi2
        go_wp2_with (at_builtin; refine stopAt ?_; intro q hq)
        refine hwh.mono ?_
        rintro e w5 ⟨rfl, hk5⟩
        have hi5 := cell_old hk5 _ _ hi4
        have HK5 := hid hk5
        clear hi4 hk5 hwh
        go_wp2_with (at_builtin; refine stopAt ?_; intro q hq)
        (refine hq.out ?_; clear hq q)
        have kB : Same w5 (w5.alloc (.cells #[.slice (some ⟨g, 0, none⟩) n cap] 36)) := (Keep.refl _ _).alloc _
        have hnB := heap_alloc_new w5 (.cells #[.slice (some ⟨g, 0, none⟩) n cap] 36)
        obtain ⟨wB, hwB⟩ : ∃ wB, wB = w5.alloc (.cells #[.slice (some ⟨g, 0, none⟩) n cap] 36) := ⟨_, rfl⟩
        rw [← hwB] at kB hnB ⊢
        clear hwB
        obtain ⟨hB4, hLe4, hgl, hG2, a3, hsz, hwt⟩ := H4.out
        have hLB := (hLe4.later HK5.out).later kB
        have hBB := (hB4.later HK5.out).later kB
        refine wpList_plain rfl (fun K hK => ?_)
        refine wp_append ty_lists _ _ rfl rfl hLB.lent (some ⟨w5.heap.size, 0, none⟩) 1 1 [.slice (some ⟨g, 0, none⟩) n cap] rfl
          ⟨rfl, fun _ => ⟨_, rfl, fun j u hu => by rw [addr_add, Nat.zero_add, cell_of_row _ _ _ _ _ _ hnB]; simpa using hu⟩⟩ (by intro u hu; simp at hu; subst hu; rfl) (by unfold maxLen; omega) (by omega) ?_
        intro v7 w7 hr7 hk7 hv7
        obtain ⟨ad7, c7, rfl, -⟩ := hr7.form
        refine hK _ _ ?_
        clear hK K
        have hs7 : (gs ++ [Value.slice (some ⟨g, 0, none⟩) n cap]).take (k + 1) = (gs ++ [Value.slice (some ⟨g, 0, none⟩) n cap]).take k ++ [Value.slice (some ⟨g, 0, none⟩) n cap] := by
          rw [List.take_succ_eq_append_getElem (by rw [List.length_append, List.length_singleton]; omega)]
          congr 1
          simp [← hgl]
        obtain ⟨col7, hLe7⟩ := hLB.push5 hBB.keep.size (by rw [hs7]; exact hr7) hk7 (fun y e => by
          rcases hv7 with ⟨_, q⟩ | ⟨k', q1, q2⟩
          · omega
          · rw [e] at q1; cases q1
            rcases q2 with q2 | q2
            · exact .inl q2
            · exact .inr (by omega))
        have hB7 := hBB.step hk7 (fun y e => by
          have q1 := hLB.c1 y e
          refine ⟨fun z => ?_, fun z => ?_, fun z => ?_, q1.2⟩
          · have := (hLB.c0 y (.inl z)).1; omega
          · have := (hLB.c0 y (.inr (.inl z))).1; omega
          · have := (hLB.c0 y (.inr (.inr z))).1; omega)
        have hi7 := cell_old hB7.keep _ _ HI.out.1
        have H7 := hid (And.intro hB7 hLe7)
        clear hB4 hLe4 hgl hG2 a3 hsz hwt hLB hBB hr7 hk7 hv7 hs7 hB7 hLe7 kB hnB hi5 HK5
        go_wp2_with (at_builtin; refine stopAt ?_; intro q hq)
        (refine hq.out ?_; clear hq q)
        have kC : Same w7 (w7.alloc (.cells #[.slice ao' n cl] 36)) := (Keep.refl _ _).alloc _
        have hnC := heap_alloc_new w7 (.cells #[.slice ao' n cl] 36)
        obtain ⟨wC, hwC⟩ : ∃ wC, wC = w7.alloc (.cells #[.slice ao' n cl] 36) := ⟨_, rfl⟩
        rw [← hwC] at kC hnC ⊢
        clear hwC
        obtain ⟨hB7, hLe7⟩ := H7.out
        have hLC := hLe7.later kC
        have hBC := hB7.later kC
        refine wpList_plain rfl (fun K hK => ?_)
        refine wp_append ty_lists _ _ rfl rfl hLC.want (some ⟨w7.heap.size, 0, none⟩) 1 1 [.slice ao' n cl] rfl
          ⟨rfl, fun _ => ⟨_, rfl, fun j u hu => by rw [addr_add, Nat.zero_add, cell_of_row _ _ _ _ _ _ hnC]; simpa using hu⟩⟩ (by intro u hu; simp at hu; subst hu; rfl) (by unfold maxLen; omega) (by omega) ?_
        intro v8 w8 hr8 hk8 hv8
        obtain ⟨ad8, c8, rfl, -⟩ := hr8.form
        refine hK _ _ ?_
        clear hK K
        have hs8 : av.take (k + 1) = av.take k ++ [Value.slice ao' n cl] := by
          obtain ⟨hj, hq⟩ := List.getElem?_eq_some_iff.1 HI.out.2.2.1
          rw [List.take_succ_eq_append_getElem hj, hq]
        obtain ⟨col8, hLe8⟩ := hLC.push6 hBC.keep.size (by rw [hs8]; exact hr8) hk8 (fun y e => by
          rcases hv8 with ⟨_, q⟩ | ⟨k', q1, q2⟩
          · omega
          · rw [e] at q1; cases q1
            rcases q2 with q2 | q2
            · exact .inl q2
            · exact .inr (by omega))
        have hB8 := hBC.step hk8 (fun y e => by
          have q1 := hLC.c2 y e
          refine ⟨fun z => ?_, fun z => ?_, fun z => ?_, q1.2⟩
          · have := (hLC.c0 y (.inl z)).1; omega
          · have := (hLC.c0 y (.inr (.inl z))).1; omega
          · have := (hLC.c0 y (.inr (.inr z))).1; omega)
        have HZ := hid (show OwnRel w3 p l av 0 (k + 1) (.slice ad7 (k + 1) c7) (.slice ad8 (k + 1) c8) w8 from by
          obtain ⟨hB4, hLe4, hgl, hG2, a3, hsz, hwt⟩ := H4.out
          exact ⟨d, mm, b, c', Pw4, Pd4, Qw, Qd, _, _, E, J, _, col8, hB8, a3, hsz, hG2, hwt, hLe8, by rw [List.length_append, List.length_singleton, hgl]⟩)
        clear hLC hBC hr8 hk8 hv8 hs8 hB8 hLe8 kC hnC hB7 hLe7 H7 hi7
        go_wp2_with (at_builtin; refine stopAt ?_; intro q hq)
        go_roundw
        case rel => exact ⟨k + 1, by omega, by omega, by go_num, ⟨ad7, c7, rfl⟩, ⟨ad8, c8, rfl⟩, HZ⟩
        case measure => simp [intOf]; omega
    · have cut : (¬ (k : Int) < m) ∨ ((k : Int) < m ∧ ¬ (k : Int) < 20) := by omega
      clear hgo h0 h1 h2 h3 hf hB hC hsz hG hwt hLe hgl
      rcases cut with c1 | ⟨c0, c1⟩
      all_goals
        go_wp2_with (at_builtin; refine stopAt ?_; intro q hq)
        go_loopw [9] (fun iv wq => ∃ j : Nat, j ≤ k ∧ iv = .int .i64 j ∧ Hid (OwnRel w3 p l av j k (.slice ad5 k c5) (.slice ad6 k c6) wq)) (fun iv _ => k - (intOf iv).toNat)
        case atStart => exact ⟨0, Nat.zero_le _, rfl, HR⟩
        case round =>
          obtain ⟨j, hj, rfl, HJ⟩ := hrel
          obtain ⟨d, mm, b, c', Pw, Pd, Qw, Qd, D, G, E, J, gs, col, hB, hC, hsz, hG, hwt, hLe, hgl⟩ := HJ.out.ex
          by_cases hjk : j < k
          · obtain ⟨g, n, cap, xs, e1, e2, e3⟩ := hLe.each j (Nat.le_refl _) (by omega)
            have e4 : (gs.take k)[j]? = some (.slice (some ⟨g, 0, none⟩) n cap) := by rw [List.getElem?_take, if_pos hjk]; exact e1
            obtain ⟨g5, cap5, hv5, hc5⟩ := hLe.lent.getCell e4
            cases hv5
            have hsp := spoil_any _ _ xs (by rw [e3]; exact e2)
            have g1 : (j : Int) < (k : Int) := by omega
            have HX := hid (And.intro hB (And.intro hLe (And.intro e1 (And.intro hC (And.intro hsz (And.intro hG (And.intro hwt hgl)))))))
            clear hB hC hsz hG hwt hLe hgl e1 e2 e3 e4
            go_wp2_with (at_builtin; refine stopAt ?_; intro q hq)
            refine hsp.mono ?_
            rintro e w4 ⟨rfl, hk4⟩
            have HZ := hid (show OwnRel w3 p l av (j + 1) k (.slice (some ⟨g5, 0, none⟩) k c5) (.slice ad6 k c6) w4 from by
              obtain ⟨hB, hLe, e1, hC, hsz, hG, hwt, hgl⟩ := HX.out
              refine ⟨d, mm, b, c', Pw, Pd, Qw, Qd, D, G, E, J, gs, col, hB.step hk4 (fun y q => ?_), hC, hsz, hG, hwt, hLe.spoil e1 hk4, hgl⟩
              have q1 := hLe.gcol j _ y e1 q
              refine ⟨fun z => ?_, fun z => ?_, fun z => ?_, q1.2⟩
              · have := (hLe.c0 y (.inl z)).1; omega
              · have := (hLe.c0 y (.inr (.inl z))).1; omega
              · have := (hLe.c0 y (.inr (.inr z))).1; omega)
            clear hsp hk4 hc5
            go_wp2_with (at_builtin; refine stopAt ?_; intro q hq)
            go_roundw
            case rel => exact ⟨j + 1, by omega, by go_num, HZ⟩
            case measure => simp [intOf]; omega
          · obtain rfl : j = k := by omega
            have g1 : ¬ (j : Int) < (j : Int) := by omega
            have hg : gone D G = false := by unfold gone; rw [hG, hC.2]; rfl
            have hGl : G.l = l.take j := by rw [hG]
            have hjl : j ≤ l.length := by have := Hm.out; omega
            have HJL := hid hjl
            have hlk : (l.take j).length = j := by rw [List.length_take]; omega
            clear hjl
            obtain ⟨h0, h1, h2, h3, hf, hb1⟩ := cells4 hB.head
            have hr1 := records_own _ b d Pw Pd D G hB.one hg
            rw [hGl] at hr1
            have HX := hid (And.intro hB (And.intro hLe (And.intro hg (And.intro hGl hlk))))
            clear hB hC hsz hG hwt hLe hgl hg hGl hlk
            go_wp2_with (at_builtin; refine stopAt ?_; intro q hq)
            refine hr1.mono ?_
            rintro e wA ⟨va, rfl, ⟨us, hRa, hpa⟩, hka⟩
            obtain ⟨hB, hLe, hg, hGl, hlk⟩ := HX.out
            have hrowa := hRa.row
            rw [hlk] at hrowa
            obtain ⟨aoa, ca, rfl, -⟩ := hrowa.form
            have hBa := hB.later hka
            clear h0 h1 h2 h3 hf
            obtain ⟨h0, h1, h2, h3, hf, hba⟩ := cells4 hBa.head
            have hr2 := records_own wA b d Pw Pd D G hBa.one hg
            rw [hGl] at hr2
            have HA2 := hid (And.intro hRa (And.intro hpa (And.intro hka hBa)))
            clear hr1 hB hLe hg hGl hlk hrowa hBa hRa hpa hka
            go_wp2_with (at_builtin; refine stopAt ?_; intro q hq)
            refine hr2.mono ?_
            rintro e wB ⟨vb, rfl, ⟨us2, hRb, hpb⟩, hkb⟩
            obtain ⟨hB, hLe, hg, hGl, hlk⟩ := HX.out
            obtain ⟨hRa, hpa, hka, hBa⟩ := HA2.out
            have hrowb := hRb.row
            rw [hlk] at hrowb
            obtain ⟨aob, cb, rfl, -⟩ := hrowb.form
            have hBb := hBa.later hkb
            have hLb := (hLe.later hka).later hkb
            have hwl := want_lists (l := l) hLb.want hBb.keep HJL.out (fun i hi => by
              obtain ⟨_, ao', cl, _, q1, _, q2, q3⟩ := HA.out i hi
              exact ⟨ao', cl, q1, q2, q3⟩)
            have hRa2 := hRa.keep hkb (fun _ _ _ x => x)
            have hrowa := hRa2.row
            have hsm := samelists_any wB aoa ad6 ca c6 (l.take j) (l.take j) (by
              have h := hRa2
              exact Recs.lists (n := j) h) hwl (by omega)
            rw [hlk, show decide (l.take j = l.take j) = true from decide_eq_true rfl] at hsm
            have HB2 := hid (And.intro hRb (And.intro hpb (And.intro hkb hBb)))
            clear hr2 hB hLe hg hGl hlk hRa hpa hka hBa hrowb hBb hLb hwl hRa2 hrowa hRb hpb hkb h0 h1 h2 h3 hf
            go_wp2_with (at_builtin; refine stopAt ?_; intro q hq)
            refine hsm.mono ?_
            rintro e wC ⟨rfl, hkc⟩
            obtain ⟨hB, hLe, hg, hGl, hlk⟩ := HX.out
            obtain ⟨hRa, hpa, hka, hBa⟩ := HA2.out
            obtain ⟨hRb, hpb, hkb, hBb⟩ := HB2.out
            have hRac := hRa.keep (Same.trans hkb hkc) (fun _ _ _ x => x)
            have hRbc := hRb.keep hkc (fun _ _ _ x => x)
            have hBc := hBb.later hkc
            have hrowa := hRac.row
            rw [hlk] at hrowa
            have H0 := hid (show AllRel wC (.slice aoa j ca) us us2 j 0 (.slice aoa j ca) wC from ⟨by simpa using hrowa, Keep.refl _ _, fun x e => .inl e⟩)
            have HC2 := hid (And.intro hRac (And.intro hRbc (And.intro hBc (And.intro hkc (Same.trans hka (Same.trans hkb hkc))))))
            clear hsm hB hLe hg hGl hlk hRa hpa hka hBa hRb hpb hkb hBb hRac hRbc hBc hrowa hkc
            go_wp2_with (at_builtin; refine stopAt ?_; intro q hq)
            go_loopw [13, 14] (fun lv iv wq => ∃ i : Nat, i ≤ j ∧ iv = .int .i64 i ∧ (∃ ad c, lv = .slice ad (j + i) c) ∧ Hid (AllRel wC (.slice aoa j ca) us us2 j i lv wq)) (fun _ iv _ => j - (intOf iv).toNat)
            case atStart => exact ⟨0, Nat.zero_le _, rfl, ⟨aoa, ca, rfl⟩, H0⟩
            case round =>
              clear H0
              obtain ⟨i, hi, rfl, ⟨adl, cl, rfl⟩, HI⟩ := hrel
              by_cases hij : i < j
              · obtain ⟨hRac, hRbc, hBc, hkc, hkW⟩ := HC2.out
                have hlk := HX.out.2.2.2.2
                have hAll := HI.out
                have hvb : ∀ x, (Value.slice aob j cb).ownBlock = some x → ¬ (Value.slice aoa j ca).ownBlock = some x := fun x e e' => by
                  have h1 := (hRbc.own x e).1
                  have h2 := HA2.out.1.row.lt e'
                  omega
                have hrowb := hRbc.row.keep hAll.keep hvb
                rw [hlk] at hrowb
                obtain ⟨u, hu1, hu2, hu3⟩ := hRbc.each i (by omega)
                obtain ⟨gb, capb, hvb2, hcb⟩ := hrowb.getCell hu1
                cases hvb2
                obtain ⟨aou, cu, rfl, -⟩ := hu2.form
                obtain ⟨nu, hnu⟩ : ∃ nu, nu = ((l.take j)[i]'(by omega)).length := ⟨_, rfl⟩
                rw [← hnu] at hcb hu1
                have g1 : (i : Int) < (j : Int) := by omega
                have HY := hid (And.intro hAll hu1)
                clear hRac hRbc hBc hkc hkW hlk hAll hvb hrowb hu1 hu2 hu3 hnu
                go_wp2_with (at_builtin; refine stopAt ?_; intro q hq)
                (refine hq.out ?_; clear hq q)
                have kB : Same wr (wr.alloc (.cells #[.slice aou nu cu] 36)) := (Keep.refl _ _).alloc _
                have hnB := heap_alloc_new wr (.cells #[.slice aou nu cu] 36)
                obtain ⟨wD, hwD⟩ : ∃ wD, wD = wr.alloc (.cells #[.slice aou nu cu] 36) := ⟨_, rfl⟩
                rw [← hwD] at kB hnB ⊢
                clear hwD
                obtain ⟨hAll, hu1⟩ := HY.out
                have hAllD : AllRel wC (.slice aoa j ca) us us2 j i (.slice adl (j + i) cl) wD := ⟨hAll.row.keep kB (fun _ _ x => x), hAll.keep.next kB (fun _ _ x => x) (fun _ _ x => x.elim), hAll.own⟩
                refine wpList_plain rfl (fun K hK => ?_)
                refine wp_append ty_lists _ _ rfl rfl hAllD.row (some ⟨wr.heap.size, 0, none⟩) 1 1 [.slice aou nu cu] rfl
                  ⟨rfl, fun _ => ⟨_, rfl, fun j u hu => by rw [addr_add, Nat.zero_add, cell_of_row _ _ _ _ _ _ hnB]; simpa using hu⟩⟩ (by intro u hu; simp at hu; subst hu; rfl) (by unfold maxLen; omega) (by omega) ?_
                intro v7 w7 hr7 hk7 hv7
                obtain ⟨ad7, c7, rfl, -⟩ := hr7.form
                refine hK _ _ ?_
                clear hK K
                have HZ := hid (show AllRel wC (.slice aoa j ca) us us2 j (i + 1) (.slice ad7 (j + (i + 1)) c7) w7 from hAllD.push hu1 hr7 hk7 (fun y e => by
                  rcases hv7 with ⟨_, q⟩ | ⟨k', q1, q2⟩
                  · omega
                  · have e' : (Value.slice ad7 (j + i + 1) c7).ownBlock = some y := e
                    rw [e'] at q1; cases q1
                    rcases q2 with q2 | q2
                    · exact .inl q2
                    · exact .inr (by omega)))
                clear hAll hu1 hAllD hr7 hk7 hv7 kB hnB hcb HY
                go_wp2_with (at_builtin; refine stopAt ?_; intro q hq)
                go_roundw
                case rel => exact ⟨i + 1, by omega, by go_num, ⟨ad7, c7, by first | rfl | (congr 1)⟩, HZ⟩
                case measure => simp [intOf]; omega
              · obtain rfl : i = j := by omega
                have g1 : ¬ (i : Int) < (i : Int) := by omega
                obtain ⟨hRac, hRbc, hBc, hkc, hkW⟩ := HC2.out
                obtain ⟨cc, ns, hlot, hns, hown⟩ := HI.out.lot HX.out.2.2.2.2.symm hRac hRbc (fun u hu x e => by
                  obtain ⟨q, hq, rfl⟩ := List.getElem_of_mem hu
                  have hql : q < (l.take i).length := by have := HA2.out.1.row.1; rw [Nat.mul_one] at this; omega
                  obtain ⟨u, e1, e2, -⟩ := HA2.out.1.each q hql
                  rw [List.getElem?_eq_getElem hq] at e1
                  cases e1
                  exact e2.lt e) (fun x e => HA2.out.1.row.lt e) HA2.out.2.1 HB2.out.2.1 (fun x hx => HS.out.2.2 x (List.mem_of_mem_take hx)) HA2.out.2.2.1.size
                have how := own_any _ cc _ _ _ ns hlot (by omega) hns
                have HY := hid hown
                clear hRac hRbc hBc hkc hkW hlot hns hown
                go_wp2_with (at_builtin; refine stopAt ?_; intro q hq)
                refine how.mono ?_
                rintro e wE ⟨rfl, hkE⟩
                have HK := hid hkE
                clear how hkE
                go_wp2_with (at_builtin; refine stopAt ?_; intro q hq)
                refine (nil_append _ none 0 0).mono ?_
                rintro e wF ⟨rfl, hkF⟩
                have HKF := hid hkF
                clear hkF
                go_wp2_with (at_builtin; refine stopAt ?_; intro q hq)
                refine (wnil_sync _).mono ?_
                rintro e wG ⟨rfl, rfl⟩
                go_wp2_with (at_builtin; refine stopAt ?_; intro q hq)
                refine (nil_reset _ _).mono ?_
                rintro e wG ⟨rfl, rfl⟩
                go_wp2_with (at_builtin; refine stopAt ?_; intro q hq)
                refine (nil_records _).mono ?_
                rintro e wG ⟨rfl, rfl⟩
                go_wp2_with (at_builtin; refine stopAt ?_; intro q hq)
                refine (nil_safe _).mono ?_
                rintro e wG ⟨rfl, rfl⟩
                go_wp2_with (at_builtin; refine stopAt ?_; intro q hq)
                refine (nil_room _).mono ?_
                rintro e wG ⟨rfl, rfl⟩
                obtain ⟨hB, hLe, hg, hGl, hlk⟩ := HX.out
                obtain ⟨hRac, hRbc, hBc, hkc, hkW⟩ := HC2.out
                have hfin := ((hkW.next HI.out.keep (H := fun _ => False) (fun _ _ x => x) (fun k hk e => by have := (HA2.out.1.own k e).1; omega)).next HK.out (H := fun _ => False) (fun _ _ x => x)
                  (fun k hk e => by obtain ⟨u, hu, he⟩ := e; have := (HY.out u hu k he).1; omega)).next HKF.out (H := fun _ => False) (fun _ _ x => x) (fun _ _ x => x)
                have hBf := hB.later hfin
                obtain ⟨h0, h1, h2, h3, hf, hbf⟩ := cells4 hBf.head
                have hre := records_up _ b d Pw Pd D G hBf.one hg
                rw [hGl] at hre
                have HF := hid (And.intro hBf (hLe.later hfin))
                clear hB hLe hg hGl hlk hRac hRbc hBc hkc hkW hfin hBf
                go_wp2_with (at_builtin; refine stopAt ?_; intro q hq)
                refine hre.mono ?_
                rintro e wH ⟨vh, rfl, hm, hkh⟩
                obtain ⟨ah, ch, rfl, hLh⟩ := hm.form
                have hlk := HX.out.2.2.2.2
                have hwl := want_lists (l := l) (HF.out.2.later hkh).want (HF.out.1.later hkh).keep HJL.out (fun i hi => by
                  obtain ⟨_, ao', cl, _, q1, _, q2, q3⟩ := HA.out i hi
                  exact ⟨ao', cl, q1, q2, q3⟩)
                have hsm := samelists_any wH ah ad6 ch c6 (l.take i) (l.take i) hLh hwl (by omega)
                rw [hlk, show decide (l.take i = l.take i) = true from decide_eq_true rfl] at hsm
                rw [hlk]
                have HH := hid (HF.out.1.later hkh).keep
                clear hlk hwl hm hkh hLh hre h0 h1 h2 h3 hf
                go_wp2_with (at_builtin; refine stopAt ?_; intro q hq)
                refine hsm.mono ?_
                rintro e wI ⟨rfl, hkI⟩
                have HI2 := hid (Same.trans HH.out hkI)
                clear hkI
                go_wp2_with (at_builtin; refine stopAt ?_; intro q hq)
                refine (known_any _).mono ?_
                rintro e wJ ⟨rfl, hkJ⟩
                have HJ2 := hid (Same.trans HI2.out hkJ)
                clear hkJ
                go_wp2_with (at_builtin; refine stopAt ?_; intro q hq)
                go_ret
                exact ⟨by rfl, HJ2.out⟩
end Go.Proofs.Yteemekckiafnfaa
