/- Texts WpN, WpO, WpP, WpQ in one. Conditions: as each law names them. -/
import Derived.Lib.SlBytesConst
import Derived.Test.YteemekckiafnfaaBaq
/- What the chapter's examples fix: known. Conditions: none. -/
namespace Go.Proofs.Yteemekckiafnfaa
open Go.RowKit
open DM BM WM

/-- A disk, a log, that the call made. -/
structure DLive (W w : World) (d : Nat) (Fd : Nat → Prop) (D : Dk) : Prop where
  disk : DiskAt w d Fd D
  new : ∀ k, Fd k → W.heap.size ≤ k
  keep : Same W w
structure WLive (W w : World) (b d : Nat) (F Fd : Nat → Prop) (D : Dk) (G : Lg) : Prop where
  log : LogAt w b d F Fd D G
  new : ∀ k, F k ∨ Fd k → W.heap.size ≤ k
  keep : Same W w
theorem DLive.later {W w w' : World} {d : Nat} {Fd : Nat → Prop} {D : Dk} (h : DLive W w d Fd D) (hk : Same w w') : DLive W w' d Fd D := ⟨h.disk.keep hk (fun _ _ x => x), h.new, Same.trans h.keep hk⟩
theorem WLive.later {W w w' : World} {b d : Nat} {F Fd : Nat → Prop} {D : Dk} {G : Lg} (h : WLive W w b d F Fd D G) (hk : Same w w') : WLive W w' b d F Fd D G :=
  ⟨h.log.keep hk (fun _ _ x => x) (fun _ _ x => x), h.new, Same.trans h.keep hk⟩
theorem WLive.disk {W w : World} {b d : Nat} {F Fd : Nat → Prop} {D : Dk} {G : Lg} (h : WLive W w b d F Fd D G) : DLive W w d Fd D := ⟨h.log.diskAt, fun k x => h.new k (.inr x), h.keep⟩
theorem DLive.to {W w w' : World} {d : Nat} {Fd : Nat → Prop} {D D' : Dk} (h : DLive W w d Fd D) (ht : DiskTo d Fd w D' w') : ∃ Fd', DLive W w' d Fd' D' := by
  obtain ⟨Fd', h1, h2, h3⟩ := ht
  have s := h.keep.size
  exact ⟨Fd', h1, fun k x => (h3 k x).elim (h.new k) (fun y => by omega), h.keep.next h2 (fun _ _ x => x) (fun k hk x => by have := h.new k x; omega)⟩
theorem WLive.to {W w w' : World} {b d : Nat} {F Fd : Nat → Prop} {D D' : Dk} {G G' : Lg} (h : WLive W w b d F Fd D G) (ht : LogTo b d F Fd w D' G' w') : ∃ F' Fd', WLive W w' b d F' Fd' D' G' := by
  obtain ⟨F', Fd', h1, h2, h3, h4⟩ := ht
  have s := h.keep.size
  exact ⟨F', Fd', h1, fun k x => x.elim (fun y => (h3 k y).elim (fun z => h.new k (.inl z)) (fun z => by omega)) (fun y => (h4 k y).elim (fun z => h.new k (.inr z)) (fun z => by omega)),
    h.keep.next h2 (fun _ _ x => x) (fun k hk x => by have := h.new k x; omega)⟩
theorem DLive.opens {W w w' : World} {d : Nat} {Fd : Nat → Prop} {D D' : Dk} {e : Ending} {g : Lg} {z : Int} (h : DLive W w d Fd D) (hp : OpenTo d Fd w (z, some g, D') e w') :
    ∃ b F Fd', e = .returned (.tuple #[.pointer (some ⟨b, 0, none⟩), .int .i64 z]) ∧ WLive W w' b d F Fd' D' g := by
  obtain ⟨b, F, Fd', he, h1, h2, h3, h4⟩ := hp
  have s := h.keep.size
  exact ⟨b, F, Fd', he, h1, fun k x => x.elim (fun y => by have := h3 k y; omega) (fun y => (h4 k y).elim (h.new k) (fun z => by omega)), h.keep.next h2 (fun _ _ x => x) (fun k hk x => by have := h.new k x; omega)⟩

/-- The bytes of a constant. -/
abbrev lit (w : World) (x : Int) : World := w.alloc (.cells #[.int .u8 x] 5 (1, 2))
theorem Cells.byte (w : World) (x : UInt8) : Cells (lit w (x.toNat : Int)) (some ⟨w.heap.size, 0, none⟩) 1 1 (bytesV [x]) :=
  ⟨rfl, fun _ => ⟨_, rfl, fun j u hu => by rw [addr_add, Nat.zero_add, cell_of_row _ _ _ _ _ _ (heap_alloc_new w _)]; simpa [bytesV] using hu⟩⟩
theorem keep_lit (w : World) (x : Int) : Same w (lit w x) := (Keep.refl _ _).alloc _

/-! ### the numbers -/
def kD0 : Dk := DM.new 10
def kD1 : Dk := (WM.append kD0 ⟨0, [], 0, false⟩ [97]).2.1
def kD2 : Dk := (WM.syncW kD1 ⟨0, [[97]], 0, false⟩).2.1
def kD3 : Dk := (WM.reset kD2 ⟨0, [[97]], 1, false⟩ [[98], [99]]).2.1
def kD4 : Dk := DM.crash kD3 []
def kD5 : Dk := (openW kD4).2.2
theorem k_open0 : openW kD0 = (0, some ⟨0, [], 0, false⟩, kD0) := by kernel_rfl
theorem k_append : WM.append kD0 ⟨0, [], 0, false⟩ [97] = (0, kD1, ⟨0, [[97]], 0, false⟩) := by kernel_rfl
theorem k_gone1 : gone kD1 ⟨0, [[97]], 0, false⟩ = false := by kernel_rfl
theorem k_gone0 : gone kD0 ⟨0, [], 0, false⟩ = false := by kernel_rfl
theorem k_room1 : room kD1 ⟨0, [[97]], 0, false⟩ = 117 := by kernel_rfl
theorem k_crash1 : DM.crash kD1 [] = kD0 := by kernel_rfl
theorem k_sync : WM.syncW kD1 ⟨0, [[97]], 0, false⟩ = (0, kD2, ⟨0, [[97]], 1, false⟩) := by kernel_rfl
theorem k_reset : WM.reset kD2 ⟨0, [[97]], 1, false⟩ [[98], [99]] = (0, kD3, ⟨1, [[98], [99]], 2, false⟩) := by kernel_rfl
theorem k_open4 : openW kD4 = (0, some ⟨1, [[98], [99]], 2, false⟩, kD5) := by kernel_rfl
theorem k_room5 : room kD5 ⟨1, [[98], [99]], 2, false⟩ = 106 := by kernel_rfl
theorem k_gone5 : gone kD5 ⟨1, [[98], [99]], 2, false⟩ = false := by kernel_rfl
theorem k_waits : kD1.waits.length ≤ 700000 ∧ kD0.waits.length ≤ 700000 ∧ kD2.waits.length ≤ 700000 ∧ kD3.waits.length ≤ 700000 ∧ kD4.waits.length ≤ 700000 := by decide +kernel
end Go.Proofs.Yteemekckiafnfaa
/- A contract for known. Conditions: none. -/
namespace Go.Proofs.Yteemekckiafnfaa
open Go.RowKit
open DM BM WM

/-- Two texts of one byte each, and a slice of them. -/
abbrev two (w : World) (x y : Int) : World :=
  ((w.alloc (.cells #[.int .u8 x] 5 (1, 2))).alloc (.cells #[.int .u8 y] 5 (1, 2))).alloc
    (.cells #[.slice (some ⟨w.heap.size, 0, none⟩) 1 1, .slice (some ⟨w.heap.size + 1, 0, none⟩) 1 1] 36)
theorem keep_two (w : World) (x y : Int) : Same w (two w x y) := (((Keep.refl _ _).alloc _).alloc _).alloc _
theorem lists_two (w : World) (x y : UInt8) : Lists (two w (x.toNat : Int) (y.toNat : Int)) (some ⟨w.heap.size + 1 + 1, 0, none⟩) [[x], [y]] := by
  have k1 : Same (w.alloc (.cells #[.int .u8 (x.toNat : Int)] 5 (1, 2))) (two w (x.toNat : Int) (y.toNat : Int)) := ((Keep.refl _ _).alloc _).alloc _
  have k2 : Same ((w.alloc (.cells #[.int .u8 (x.toNat : Int)] 5 (1, 2))).alloc (.cells #[.int .u8 (y.toNat : Int)] 5 (1, 2))) (two w (x.toNat : Int) (y.toNat : Int)) := (Keep.refl _ _).alloc _
  have c1 := (Cells.byte w x).keep k1 (fun _ _ x => x)
  have c2 := (Cells.byte (w.alloc (.cells #[.int .u8 (x.toNat : Int)] 5 (1, 2))) y).keep k2 (fun _ _ x => x)
  have hs : (w.alloc (.cells #[.int .u8 (x.toNat : Int)] 5 (1, 2))).heap.size = w.heap.size + 1 := by simp
  rw [hs] at c2
  have hg := heap_alloc_new ((w.alloc (.cells #[.int .u8 (x.toNat : Int)] 5 (1, 2))).alloc (.cells #[.int .u8 (y.toNat : Int)] 5 (1, 2))) (.cells #[.slice (some ⟨w.heap.size, 0, none⟩) 1 1, .slice (some ⟨w.heap.size + 1, 0, none⟩) 1 1] 36)
  rw [show ((w.alloc (.cells #[.int .u8 (x.toNat : Int)] 5 (1, 2))).alloc (.cells #[.int .u8 (y.toNat : Int)] 5 (1, 2))).heap.size = w.heap.size + 1 + 1 by simp] at hg
  intro j hj
  have hj2 : j = 0 ∨ j = 1 := by simp at hj; omega
  rcases hj2 with rfl | rfl
  · exact ⟨_, _, 1, rfl, by rw [addr_add, Nat.zero_add, cell_of_row _ _ _ _ _ _ hg]; rfl, by simp, c1⟩
  · exact ⟨_, _, 1, rfl, by rw [addr_add, Nat.zero_add, cell_of_row _ _ _ _ _ _ hg]; rfl, by simp, c2⟩

set_option maxRecDepth 20000 in
set_option maxHeartbeats 2000000 in
theorem known_any (w : World) : Calls Try.prog 10 #[] w fun e w' => e = .returned (.bool true) ∧ Keep (fun _ => False) w w' := by
  have kc := fun (w : World) (C : Array Value) (n c : Nat) => Lib.run_convert_bytes_const (P := Try.prog) w 36 5 C n c Try.underlying36 Try.underlying5
  have kc2 : ∀ (w : World) (X : Obj) (C : Array Value) (n c : Nat), (convert 36 36 (.slice (some ⟨w.heap.size + 1, 0, none⟩) n c)).run Try.prog ((w.alloc X).alloc (.cells C 5)) = .ok (.slice (some ⟨w.heap.size + 1, 0, none⟩) n c) ((w.alloc X).alloc (.cells C 5 (C.size, C.size + 1))) := fun w X C n c => by
    have h := kc (w.alloc X) C n c
    rw [show (w.alloc X).heap.size = w.heap.size + 1 by simp] at h
    exact h
  have k0 : ∀ w : World, Cells w none 0 1 (intsV []) := fun w => ⟨rfl, fun h => by omega⟩
  go_enter Try.func10, Try.ntmps10
  go_wp2_with (at_builtin; refine stopAt ?_; intro q hq)
  refine (new_any w 10 (by decide) (by decide)).mono ?_
  rintro e w1 ⟨d, Pd, rfl, hD1, hk1, hP1⟩
  have L1 : DLive w w1 d Pd kD0 := ⟨hD1, hP1, hk1⟩
  clear hD1 hk1 hP1
  have ho := open_any w1 d Pd kD0 L1.disk (by have := k_waits; omega)
  rw [k_open0] at ho
  go_wp2_with (at_builtin; refine stopAt ?_; intro q hq)
  refine ho.mono ?_
  intro e w2 hp
  obtain ⟨b, F, Fd, rfl, L2⟩ := L1.opens hp
  clear ho hp L1
  go_wp2_with (at_builtin; refine stopAt ?_; intro q hq)
  have hb := Cells.byte w2 97
  have L3 := L2.later (keep_lit w2 97)
  have ha := wappend_any _ b d F Fd kD0 ⟨0, [], 0, false⟩ L3.log _ 1 1 [97] hb (fun x _ hx => by cases hx; exact ⟨fun y => Nat.lt_irrefl _ (L2.log.ltw _ (.inl y)), fun y => Nat.lt_irrefl _ (L2.log.ltw _ (.inr y))⟩) (by decide) (by have := k_waits; omega)
  rw [k_append] at ha
  refine ha.mono ?_
  rintro e w4 ⟨rfl, ht⟩
  obtain ⟨F4, Fd4, L4⟩ := L3.to ht
  clear ht ha hb L3 L2
  have hr := room_up w4 b d F4 Fd4 kD1 _ L4.log k_gone1
  rw [k_room1] at hr
  go_wp2_with (at_builtin; refine stopAt ?_; intro q hq)
  refine hr.mono ?_
  rintro e w5 ⟨rfl, rfl⟩
  have L5 := (L4.later ((Keep.refl _ _).drew)).disk
  have hc := crash_any w4.drew d Fd4 kD1 none 0 0 [] L5.disk (k0 _) (fun h => by omega) (by decide) (by simp) (by have := k_waits; omega)
  rw [k_crash1] at hc
  clear hr L4
  go_wp2_with (at_builtin; refine stopAt ?_; intro q hq)
  refine hc.mono ?_
  rintro e w6 ⟨rfl, ht⟩
  obtain ⟨Fd6, L6⟩ := L5.to ht
  clear ht hc L5
  have ho := open_any w6 d Fd6 kD0 L6.disk (by have := k_waits; omega)
  rw [k_open0] at ho
  go_wp2_with (at_builtin; refine stopAt ?_; intro q hq)
  refine ho.mono ?_
  intro e w7 hp
  obtain ⟨b7, F7, Fd7, rfl, L7⟩ := L6.opens hp
  clear ho hp L6
  have hr := records_up w7 b7 d F7 Fd7 kD0 _ L7.log k_gone0
  go_wp2_with (at_builtin; refine stopAt ?_; intro q hq)
  refine hr.mono ?_
  rintro e w8 ⟨v8, rfl, hm, hk⟩
  obtain ⟨ao8, cl8, rfl, -⟩ := hm.form
  have L8 := L7.later hk
  clear hr hm hk L7
  go_wp2_with (at_builtin; refine stopAt ?_; intro q hq)
  have hb := Cells.byte w8 97
  have L9 := L8.later (keep_lit w8 97)
  have ha := wappend_any _ b7 d F7 Fd7 kD0 ⟨0, [], 0, false⟩ L9.log _ 1 1 [97] hb (fun x _ hx => by cases hx; exact ⟨fun y => Nat.lt_irrefl _ (L8.log.ltw _ (.inl y)), fun y => Nat.lt_irrefl _ (L8.log.ltw _ (.inr y))⟩) (by decide) (by have := k_waits; omega)
  rw [k_append] at ha
  refine ha.mono ?_
  rintro e w10 ⟨rfl, ht⟩
  obtain ⟨F10, Fd10, L10⟩ := L9.to ht
  clear ht ha hb L9 L8
  have hs := wsync_any w10 b7 d F10 Fd10 kD1 _ L10.log (by have := k_waits; omega)
  rw [k_sync] at hs
  go_wp2_with (at_builtin; refine stopAt ?_; intro q hq)
  refine hs.mono ?_
  rintro e w11 ⟨rfl, ht⟩
  obtain ⟨F11, Fd11, L11⟩ := L10.to ht
  clear ht hs L10
  go_wp2_with (at_builtin; refine stopAt ?_; intro q hq)
  have L12 := L11.later (keep_two w11 98 99)
  have hr := wreset_any _ b7 d F11 Fd11 kD2 ⟨0, [[97]], 1, false⟩ L12.log _ 2 [[98], [99]] (lists_two w11 98 99) (by decide) (by have := k_waits; omega)
  rw [k_reset] at hr
  refine hr.mono ?_
  rintro e w13 ⟨rfl, ht⟩
  obtain ⟨F13, Fd13, L13⟩ := L12.to ht
  clear ht hr L12 L11
  have L13 := L13.disk
  have hc := crash_any w13 d Fd13 kD3 none 0 0 [] L13.disk (k0 _) (fun h => by omega) (by decide) (by simp) (by have := k_waits; omega)
  go_wp2_with (at_builtin; refine stopAt ?_; intro q hq)
  refine hc.mono ?_
  rintro e w14 ⟨rfl, ht⟩
  obtain ⟨Fd14, L14⟩ := L13.to ht
  clear ht hc L13
  have ho := open_any w14 d Fd14 kD4 L14.disk (by have := k_waits; omega)
  rw [k_open4] at ho
  go_wp2_with (at_builtin; refine stopAt ?_; intro q hq)
  refine ho.mono ?_
  intro e w15 hp
  obtain ⟨b15, F15, Fd15, rfl, L15⟩ := L14.opens hp
  clear ho hp L14
  have hn := open_nil w15
  go_wp2_with (at_builtin; refine stopAt ?_; intro q hq)
  refine hn.mono ?_
  rintro e w16 ⟨rfl, rfl⟩
  have hr := records_up w16 b15 d F15 Fd15 kD5 _ L15.log k_gone5
  clear hn
  go_wp2_with (at_builtin; refine stopAt ?_; intro q hq)
  refine hr.mono ?_
  rintro e w17 ⟨v17, rfl, hm, hk⟩
  obtain ⟨ao17, cl17, rfl, hl17⟩ := hm.form
  have L17 := L15.later hk
  clear hr hm hk L15
  go_wp2_with (at_builtin; refine stopAt ?_; intro q hq)
  have L18 := L17.later (keep_two w17 98 99)
  refine (samelists_any _ ao17 _ cl17 2 [[98], [99]] [[98], [99]] (hl17.keep (keep_two w17 98 99)) (lists_two w17 98 99) (by decide)).mono ?_
  rintro e w19 ⟨rfl, hk⟩
  have L19 := L18.later hk
  clear L17 L18 hk hl17
  have hr := room_up w19 b15 d F15 Fd15 kD5 _ L19.log k_gone5
  rw [k_room5] at hr
  go_wp2_with (at_builtin; refine stopAt ?_; intro q hq)
  refine hr.mono ?_
  rintro e w20 ⟨rfl, rfl⟩
  have L20 := L19.later ((Keep.refl _ _).drew)
  have hs := safe_up w19.drew b15 d F15 Fd15 kD5 _ L20.log k_gone5
  clear hr L19
  go_wp2_with (at_builtin; refine stopAt ?_; intro q hq)
  refine hs.mono ?_
  rintro e w21 ⟨rfl, rfl⟩
  have HU := hid L20.keep
  clear hs L20
  go_wp2_with (at_builtin; refine stopAt ?_; intro q hq)
  go_ret
  exact ⟨by trivial, HU.out⟩
end Go.Proofs.Yteemekckiafnfaa
/- The pair's disks by themselves; how much may wait behind an act; one given act. Conditions: as the laws name them. -/
namespace Go.Proofs.Yteemekckiafnfaa
open Go.RowKit Go.Deep
open DM BM WM

structure Duo (W w : World) (p d m : Nat) (Pd Qd : Nat → Prop) (D E : Dk) (wv rv : Value) : Prop where
  head : w.heap[p]? = some (.cells #[.pointer (some ⟨d, 0, none⟩), wv, .pointer (some ⟨m, 0, none⟩), rv] 32 (0, 0))
  disk : DiskAt w d Pd D
  ref : RefAt w m Qd E
  apart : ∀ k, Pd k → ¬ Qd k
  selfn : ¬ Pd p ∧ ¬ Qd p
  new : ∀ k, Pd k ∨ Qd k ∨ k = p → W.heap.size ≤ k
  keep : Same W w

theorem Duo.later {W w w' : World} {p d m : Nat} {Pd Qd : Nat → Prop} {D E : Dk} {wv rv : Value} (h : Duo W w p d m Pd Qd D E wv rv) (hk : Same w w') : Duo W w' p d m Pd Qd D E wv rv :=
  ⟨hk.get h.head id, h.disk.keep hk (fun _ _ x => x), h.ref.keep hk (fun _ _ x => x), h.apart, h.selfn, h.new, Same.trans h.keep hk⟩
theorem Duo.toD {W w w' : World} {p d m : Nat} {Pd Qd : Nat → Prop} {D E D' : Dk} {wv rv : Value} (h : Duo W w p d m Pd Qd D E wv rv) (ht : DiskTo d Pd w D' w') : ∃ Pd', Duo W w' p d m Pd' Qd D' E wv rv := by
  obtain ⟨Pd', a1, a2, a3⟩ := ht
  have s := h.keep.size
  have lp := heap_lt h.head
  refine ⟨Pd', a2.get h.head h.selfn.1, a1, h.ref.keep a2 (fun k x y => h.apart k y x), fun k x y => ?_, ⟨fun x => ?_, h.selfn.2⟩, fun k x => ?_, h.keep.next a2 (fun _ _ x => x) (fun k hk x => by have := h.new k (.inl x); omega)⟩
  · rcases a3 k x with z | z
    · exact h.apart k z y
    · have := h.ref.lt k y; omega
  · rcases a3 p x with z | z
    · exact h.selfn.1 z
    · omega
  · rcases x with x | x
    · rcases a3 k x with z | z
      · exact h.new k (.inl z)
      · omega
    · exact h.new k (.inr x)
theorem Duo.toR {W w w' : World} {p d m : Nat} {Pd Qd : Nat → Prop} {D E E' : Dk} {wv rv : Value} (h : Duo W w p d m Pd Qd D E wv rv) (ht : RefTo m Qd w E' w') : ∃ Qd', Duo W w' p d m Pd Qd' D E' wv rv := by
  obtain ⟨Qd', a1, a2, a3⟩ := ht
  have s := h.keep.size
  have lp := heap_lt h.head
  refine ⟨Qd', a2.get h.head h.selfn.2, h.disk.keep a2 (fun k x y => h.apart k x y), a1, fun k x y => ?_, ⟨h.selfn.1, fun x => ?_⟩, fun k x => ?_, h.keep.next a2 (fun _ _ x => x) (fun k hk x => by have := h.new k (.inr (.inl x)); omega)⟩
  · rcases a3 k y with z | z
    · exact h.apart k x z
    · have := h.disk.lt k x; omega
  · rcases a3 p x with z | z
    · exact h.selfn.2 z
    · omega
  · rcases x with x | x | x
    · exact h.new k (.inl x)
    · rcases a3 k x with z | z
      · exact h.new k (.inr (.inl z))
      · omega
    · exact h.new k (.inr (.inr x))
theorem Duo.old {W w : World} {p d m : Nat} {Pd Qd : Nat → Prop} {D : Dk} {wv rv : Value} (h : Duo W w p d m Pd Qd D D wv rv) : PairOld W w p D :=
  ⟨d, m, fun _ => False, Pd, fun _ => False, Qd, wv, rv, ⟨h.head, h.disk, h.ref, fun k x y => x.elim id fun x => y.elim id fun y => h.apart k x y, ⟨fun x => x.elim id h.selfn.1, fun x => x.elim id h.selfn.2⟩⟩,
    fun k x => by
      rcases x with (x | x) | (x | x) | x
      · exact x.elim
      · exact h.new k (.inl x)
      · exact x.elim
      · exact h.new k (.inr (.inl x))
      · exact h.new k (.inr (.inr x)), h.keep⟩
theorem PairNew.duo {W w : World} {p : Nat} {D : Dk} {g : Option Lg} (h : PairNew W w p D g) : ∃ d m Pd Qd wv rv, Duo W w p d m Pd Qd D D wv rv := by
  obtain ⟨d, m, Pw, Pd, Qw, Qd, wv, rv, hI, hn, hk⟩ := h
  refine ⟨d, m, Pd, Qd, wv, rv, hI.head, hI.disk, hI.ref, fun k x y => hI.apart k (.inr x) (.inr y), ⟨fun x => hI.selfn.1 (.inr x), fun x => hI.selfn.2 (.inr x)⟩, fun k x => ?_, hk⟩
  rcases x with x | x | x
  · exact hn k (.inl (.inr x))
  · exact hn k (.inr (.inl (.inr x)))
  · exact hn k (.inr (.inr x))
theorem Both.duo {W w : World} {p d m b c : Nat} {Pw Pd Qw Qd : Nat → Prop} {D E : Dk} {G J : Lg} (h : Both W w p d m b c Pw Pd Qw Qd D G E J) :
    Duo W w p d m Pd Qd D E (.pointer (some ⟨b, 0, none⟩)) (.pointer (some ⟨c, 0, none⟩)) := by
  refine ⟨h.head, h.one.diskAt, h.two.diskAt, fun k x y => h.apart k (.inr x) (.inr y), ⟨fun x => h.selfn.1 (.inr x), fun x => h.selfn.2 (.inr x)⟩, fun k x => ?_, h.keep⟩
  rcases x with x | x | x
  · exact h.new k (.inl (.inr x))
  · exact h.new k (.inr (.inl (.inr x)))
  · exact h.new k (.inr (.inr x))

/-! ### how much waits -/
theorem half_le {D : Dk} (h : D.safe.length ≤ 2048) : half D ≤ 1023 := by unfold half; omega
theorem append_waits {D : Dk} (h : D.safe.length ≤ 2048) (G : Lg) (b : List UInt8) : (WM.append D G b).2.1.waits.length ≤ D.waits.length + 2048 := by
  have hh := half_le h
  unfold WM.append
  split
  · exact Nat.le_add_right _ _
  · split
    · exact Nat.le_add_right _ _
    · split
      · exact Nat.le_add_right _ _
      · rename_i h3
        have h1 := flat_snoc G.l b
        have h2 := lay_waits G.ep (area D (G.l ++ [b])) (((flat (G.l ++ [b])).length - 1) / 32 - (flat G.l).length / 32 + 1) ((flat G.l).length / 32) D
        unfold room at h3
        simp only
        omega
theorem syncW_waits (D : Dk) (G : Lg) : (WM.syncW D G).2.1.waits.length ≤ D.waits.length := by
  unfold WM.syncW
  split
  · exact Nat.le_refl _
  · have := sync_waits D
    simp only
    split <;> exact this
theorem turn_waits {D : Dk} (h : D.safe.length ≤ 2048) (ep : Nat) (b : List UInt8) : (turnW ep b D).2.waits.length ≤ D.waits.length + 1024 := by
  have hh := half_le h
  unfold turnW
  have h1 := lay_waits ep b (half D) 0 D
  generalize lay ep b 0 (half D) D = r at *
  simp only
  split
  · omega
  · have h2 := sync_waits r.2
    generalize DM.sync r.2 = y at *
    split
    · omega
    · have h3 := write_waits y.2 ((ep % 2 : Nat) : Int) (headSec ep)
      generalize DM.write y.2 ((ep % 2 : Nat) : Int) (headSec ep) = z at *
      split
      · omega
      · have h4 := sync_waits z.2
        omega
theorem reset_waits {D : Dk} (h : D.safe.length ≤ 2048) (G : Lg) (L : List (List UInt8)) : (WM.reset D G L).2.1.waits.length ≤ D.waits.length + 1024 := by
  have h1 := turn_waits h (G.ep + 1) (area D L)
  unfold WM.reset
  split
  · exact Nat.le_add_right _ _
  · split
    · exact Nat.le_add_right _ _
    · split
      · exact Nat.le_add_right _ _
      · simp only
        split <;> exact h1
theorem openW_waits {D : Dk} (h : D.safe.length ≤ 2048) : (openW D).2.2.waits.length ≤ D.waits.length + 1024 := by
  have hh := half_le h
  unfold openW
  split
  · exact Nat.le_add_right _ _
  · split
    · exact Nat.le_add_right _ _
    · simp only
      have h1 := wipe_waits (epoch D) (WM.bytes D (epoch D)) (scan (WM.bytes D (epoch D)) ((WM.bytes D (epoch D)).length + 1) 0).2 (half D) 0 false D
      generalize wipe (epoch D) (WM.bytes D (epoch D)) (scan (WM.bytes D (epoch D)) ((WM.bytes D (epoch D)).length + 1) 0).2 0 (half D) false D = r at *
      split
      · exact Nat.le_trans h1 (by omega)
      · split
        · have h2 := sync_waits r.2.2
          split
          · exact Nat.le_trans h2 (by omega)
          · exact Nat.le_trans h2 (by omega)
        · exact Nat.le_trans h1 (by omega)
theorem step_waits {D : Dk} (h : D.safe.length ≤ 2048) (g : Option Lg) (x : Act4) : (step D g x).1.waits.length ≤ D.waits.length + 2048 := by
  unfold step
  split
  · have h1 : (DM.crash D x.keep).safe.length ≤ 2048 := by
      show (tear _ _ _).length ≤ _
      rw [tear_length]; exact h
    have h2 := openW_waits h1
    have h3 : (DM.crash D x.keep).waits.length = 0 := rfl
    show (openW (DM.crash D x.keep)).2.2.waits.length ≤ _
    omega
  · split
    · exact Nat.le_add_right _ _
    · split
      · exact Nat.le_add_right _ _
      · rename_i G
        split
        · exact append_waits h G _
        · split
          · have := syncW_waits D G
            show (WM.syncW D G).2.1.waits.length ≤ _
            omega
          · split
            · have := reset_waits h G x.list
              show (WM.reset D G x.list).2.1.waits.length ≤ _
              omega
            · exact Nat.le_add_right _ _

/-- One given act as the code reads it whole. -/
theorem Acts4.row {w w' : World} {ao : Option Addr} {m c : Nat} {l : List Act4} (h : Acts4 w (.slice ao m c) l) (hk : Keep (fun _ => False) w w') (i : Nat) (hi : i < l.length) :
    ∃ ad lv kv, ao = some ad ∧ (∀ j u, [Value.int .i64 l[i].kind, .int .i64 l[i].n, .int .u8 (l[i].fill.toNat : Int), lv, kv][j]? = some u → w'.cell? ((ad.add (i * 5)).add j) = some u) ∧ Texts w lv l[i].list ∧ Ints w kv l[i].keep ∧
      (-9223372036854775808 ≤ l[i].kind ∧ l[i].kind ≤ 9223372036854775807) ∧ (-9223372036854775808 ≤ l[i].n ∧ l[i].n ≤ 9223372036854775807) := by
  obtain ⟨ao', c', hv, _, _, h3⟩ := h
  cases hv
  obtain ⟨ad, rfl, h4⟩ := h3 (by omega)
  obtain ⟨cs, _, ⟨lv, kv, rfl, h5⟩, hc⟩ := h4 i hi
  exact ⟨ad, lv, kv, rfl, fun j u hu => by rw [add_add]; exact cell_old hk _ _ (hc j u hu), h5⟩

theorem light_len {L : List (List UInt8)} (h : ¬ 4000 < hv L 0) : L.length ≤ 4000 ∧ ∀ x ∈ L, x.length ≤ 4000 := by
  have h1 := hv_light L 0 (by omega)
  have h2 : ∀ M : List (List UInt8), M.length ≤ (M.map (fun x => x.length + 1)).sum := fun M => by
    induction M with
    | nil => simp
    | cons x t ih => simp only [List.length_cons, List.map_cons, List.sum_cons]; omega
  have h3 : ∀ M : List (List UInt8), ∀ x ∈ M, x.length ≤ (M.map (fun x => x.length + 1)).sum := fun M => by
    induction M with
    | nil => simp
    | cons y t ih =>
      intro x hx
      simp only [List.map_cons, List.sum_cons]
      rcases List.mem_cons.1 hx with rfl | hx
      · omega
      · have := ih x hx; omega
  exact ⟨by have := h2 L; omega, fun x hx => by have := h3 L x hx; omega⟩
end Go.Proofs.Yteemekckiafnfaa
/- WalPlays: the walk. Conditions: none but that the arguments are an int and acts. -/

namespace Go.Proofs.Yteemekckiafnfaa
open Go.ChangeShapes Go.WideShapes Go.RowKit Go.Deep
open DM BM WM

section
variable {P : Program} {w : World} {a : Act} {o : Oper} {K : Act → World → Prop} {Q : Exit → Act → World → Prop}
/-- An aggregate read out of any place. -/
theorem wp_load_any (ty : TypeId) (x : Operand) (ho : o.op = .load ty x) (p : Addr) (hx : a.eval x = .pointer (some p)) (cs : List Value)
    (hc : ∀ j u, cs[j]? = some u → w.cell? (p.add j) = some u) (d : TypeDesc)
    (hu : P.underlying ty = some d) (hd : (match d with | .struct _ | .array _ _ => true | _ => false) = true) (hi : (P.info? ty).map (·.size) = some cs.length)
    (h : K (a.put o.dst (.agg cs.toArray)) w) : o.wp P a w K Q := by
  have hl := run_loadCells_list (P := P) w p cs hc
  cases hq : P.info? ty with
  | none => simp [hq] at hi
  | some i =>
    have hs : i.size = cs.length := by simpa [hq] using hi
    have hagg : (isAgg ty).run P w = .ok true w := by
      unfold isAgg
      rw [Sem.run_bind, run_underlying hu w]
      cases d <;> simp_all
    have hr : (loadVar ty p).run P w = .ok (.agg cs.toArray) w := by
      simp [loadVar, Sem.run_bind, hagg, sizeOf, typeInfo, hq, hs, hl]
    unfold Oper.wp execOp
    simp only [ho, hx, Instr.loadAt, Instr.sureAddr, Sem.run_bind, Sem.run_pure, Result.andThen_ok, hr]
    exact h
end

/-- A play so far. -/
structure PlRel (W : World) (p : Nat) (k : Nat) (wr : World) : Prop where
  ex : ∃ D g, PairNew W wr p D g ∧ D.waits.length ≤ 1024 + 2048 * k

abbrev mk3 (w : World) : World := w.alloc (.cells #[.int .i64 9, .int .i64 32, .int .i64 5] 3)
theorem keep_mk3 (w : World) : Same w (mk3 w) := (Keep.refl _ _).alloc _
theorem cells_mk3 (w : World) : Cells (mk3 w) (some ⟨w.heap.size, 0, none⟩) 3 1 (intsV [9, 32, 5]) :=
  ⟨rfl, fun _ => ⟨_, rfl, fun j u hu => by rw [addr_add, Nat.zero_add, cell_of_row _ _ _ _ _ _ (heap_alloc_new w _)]; simpa [intsV] using hu⟩⟩
theorem wf_mk3 : ∀ z ∈ [(9 : Int), 32, 5], -9223372036854775808 ≤ z ∧ z ≤ 9223372036854775807 := by decide

theorem PairNew.few {W w : World} {p : Nat} {D : Dk} {g : Option Lg} (h : PairNew W w p D g) : D.safe.length ≤ 2048 := by
  obtain ⟨d, m, Pw, Pd, Qw, Qd, wv, rv, hI, -, -⟩ := h
  exact hI.ref.ok.few

set_option maxRecDepth 20000 in
set_option maxHeartbeats 2000000 in
theorem plays_walk (w : World) (a : Int) (ha : -9223372036854775808 ≤ a) (hb : a ≤ 9223372036854775807) (v : Value) (l : List Act4) (hl : Acts4 w v l) :
    Calls Try.prog 5 #[.int .i64 a, v] w fun e w' => e = .returned (.bool true) ∧ Keep (fun _ => False) w w' := by
  obtain ⟨ao, c, rfl, hlc, hcm⟩ := hl.form
  have HL := hid hl
  clear hl hcm
  obtain ⟨m, hm⟩ : ∃ m, m = l.length := ⟨_, rfl⟩
  rw [← hm] at HL hlc ⊢
  have Hm := hid hm
  clear hm
  by_cases big : 40 < a ∧ a ≤ 2048
  · obtain ⟨g1, g2⟩ := big
    go_enter Try.func5, Try.ntmps5
    go_wp2_with (at_builtin; refine stopAt ?_; intro q hq)
    refine (known_any w).mono ?_
    rintro e w1 ⟨rfl, hk1⟩
    go_wp2_with (at_builtin; refine stopAt ?_; intro q hq)
    go_ret
    exact ⟨by rfl, hk1⟩
  · have big' : ¬ 40 < a ∨ (40 < a ∧ ¬ a ≤ 2048) := by omega
    by_cases none_ : a < 1 ∨ 2048 < a
    · have N1 := hid (pstart_none w a none_)
      have n1' : a < 1 ∨ (¬ a < 1 ∧ 2048 < a) := by omega
      clear none_ big
      rcases big' with g1 | ⟨g0, g1⟩
      all_goals rcases n1' with n1 | ⟨n0, n1⟩
      all_goals
        go_enter Try.func5, Try.ntmps5
        go_wp2_with (at_builtin; refine stopAt ?_; intro q hq)
        refine N1.out.mono ?_
        rintro e w1 ⟨rfl, rfl⟩
        go_wp2_with (at_builtin; refine stopAt ?_; intro q hq)
        refine (known_any _).mono ?_
        rintro e w1 ⟨rfl, hk1⟩
        go_wp2_with (at_builtin; refine stopAt ?_; intro q hq)
        go_ret
        exact ⟨by rfl, hk1⟩
    · obtain ⟨n, rfl⟩ : ∃ n : Nat, (n : Int) = a := ⟨a.toNat, by omega⟩
      have n1 : 0 < n := by omega
      have n2 : n ≤ 40 := by omega
      have g1 : ¬ 40 < (n : Int) := by omega
      clear big big' none_ ha hb
      go_enter Try.func5, Try.ntmps5
      go_wp2_with (at_builtin; refine stopAt ?_; intro q hq)
      refine (pstart_any w n n1 (by omega)).mono ?_
      rintro e w1 ⟨p, rfl, hP1⟩
      have HR1 := hid (PlRel.mk (k := 0) ⟨_, _, hP1, by have := openW_waits (D := DM.new n) (by simp [DM.new]; omega); simpa [DM.new] using this⟩)
      clear hP1
      go_wp2_with (at_builtin; refine stopAt ?_; intro q hq)
      go_loopw [7] (fun i wr => ∃ k : Nat, k ≤ m ∧ k ≤ 60 ∧ i = .int .i64 k ∧ Hid (PlRel w p k wr)) (fun i _ => 60 - (intOf i).toNat)
      case atStart => exact ⟨0, Nat.zero_le _, Nat.zero_le _, rfl, HR1⟩
      case round =>
        clear HR1
        obtain ⟨k, hk, hk60, rfl, HR⟩ := hrel
        by_cases hgo : k < m ∧ k < 60
        · have h2 : (k : Int) < m := by omega
          have h1 : (k : Int) < 60 := by omega
          have hkl : k < l.length := by rw [← Hm.out]; exact hgo.1
          obtain ⟨D, g, hP, hw⟩ := HR.out.ex
          obtain ⟨ad, lv, kv, rfl, hrow, hlv, hkv, b0, b1⟩ := Acts4.row HL.out hP.keep k hkl
          have a1 := hrow 1 _ rfl
          have a3 := hrow 3 _ rfl
          rw [add_pos _ _ (by decide)] at a1 a3
          have Hrow := hid hrow
          have hgo1 := hgo.1
          have hgo2 := hgo.2
          clear hgo hrow
          obtain ⟨aol, cl, rfl, -, -, hLL⟩ := hlv.lists
          have hhe := heavy_any wr aol cl _ (hLL.keep hP.keep)
          obtain ⟨ll, hll⟩ : ∃ ll, ll = (l[k]).list.length := ⟨_, rfl⟩
          obtain ⟨nn, hnn⟩ : ∃ nn, nn = (l[k]).n := ⟨_, rfl⟩
          have HQ := hid (And.intro hP (And.intro hw (And.intro hlv (And.intro hkv (And.intro b0 b1)))))
          have HE := hid (And.intro hll hnn)
          clear hP hw hlv hkv b0 b1 hLL
          by_cases hv4 : 4000 < hv (l[k]).list 0
          · rw [show decide (4000 < hv (l[k]).list 0) = true from decide_eq_true hv4] at hhe
            rw [← hll] at hhe a3
            clear hv4 hll hnn
            go_wp2_with (at_builtin; refine stopAt ?_; intro q hq)
            refine hhe.mono ?_
            rintro e w3 ⟨rfl, rfl⟩
            go_wp2_with (at_builtin; refine stopAt ?_; intro q hq)
            refine (known_any _).mono ?_
            rintro e w4 ⟨rfl, hk4⟩
            have HZ := hid (Same.trans HQ.out.1.keep hk4)
            clear hk4
            go_wp2_with (at_builtin; refine stopAt ?_; intro q hq)
            go_ret
            exact ⟨by rfl, HZ.out⟩
          · rw [show decide (4000 < hv (l[k]).list 0) = false from decide_eq_false hv4] at hhe
            have hlen := (light_len hv4).1
            rw [← hll] at hhe a3 hlen
            rw [← hnn] at a1
            clear hv4 hll hnn
            by_cases hN : 1030 < nn
            · go_wp2_with (at_builtin; refine stopAt ?_; intro q hq)
              refine hhe.mono ?_
              rintro e w3 ⟨rfl, rfl⟩
              go_wp2_with (at_builtin; refine stopAt ?_; intro q hq)
              refine (known_any _).mono ?_
              rintro e w4 ⟨rfl, hk4⟩
              have HZ := hid (Same.trans HQ.out.1.keep hk4)
              clear hk4
              go_wp2_with (at_builtin; refine stopAt ?_; intro q hq)
              go_ret
              exact ⟨by rfl, HZ.out⟩
            · go_wp2_with (at_builtin; refine stopAt ?_; intro q hq)
              refine hhe.mono ?_
              rintro e w3 ⟨rfl, rfl⟩
              go_wp2_with (first | (at_builtin; refine stopAt ?_; intro q hq) | (refine stopOp (.load 50 _) rfl ?_; intro q hq))
              (refine hq.out ?_; clear hq q)
              refine wpList_plain rfl (fun K hK => ?_)
              refine wp_load_any 50 (.tmp 67) rfl (ad.add (k * 5)) rfl _ Hrow.out _ Try.underlying50 rfl (by kernel_rfl) ?_
              refine hK _ _ ?_
              clear hK K
              obtain ⟨hP, hw, hlv, hkv, b0, b1⟩ := HQ.out
              have hpl := play_any w _ p D g l[k] _ _ hP hlv hkv b1 (by have := HE.out.1; omega) (by omega)
              have hsw := step_waits hP.few g l[k]
              have HW := hid (And.intro hw hsw)
              clear hP hw hlv hkv b0 b1 hsw
              go_wp2_with (at_builtin; refine stopAt ?_; intro q hq)
              refine hpl.mono ?_
              rintro e w4 ⟨rfl, hP4⟩
              have hal := alike_any w w4 p _ _ hP4
              clear hP4 hpl
              go_wp2_with (at_builtin; refine stopAt ?_; intro q hq)
              refine hal.mono ?_
              rintro e w5 ⟨rfl, hP5⟩
              have HZ := hid (PlRel.mk (k := k + 1) ⟨_, _, hP5, by have := HW.out; omega⟩)
              clear hal hP5
              go_wp2_with (at_builtin; refine stopAt ?_; intro q hq)
              go_roundw
              case rel => exact ⟨k + 1, by omega, by omega, by go_num, HZ⟩
              case measure => simp [intOf]; omega
        · obtain ⟨D, g, hP, hw⟩ := HR.out.ex
          obtain ⟨d, mm, Pd, Qd, wv, rv, hD⟩ := hP.duo
          obtain ⟨h0, h1, h2, h3, hf, hb1⟩ := cells4 hD.head
          have HD := hid hD
          clear hP hD
          have hw9 : D.waits.length ≤ 200000 := by omega
          clear hw
          have cut : (¬ (k : Int) < m) ∨ ((k : Int) < m ∧ ¬ (k : Int) < 60) := by omega
          clear hgo
          rcases cut with c1 | ⟨c0, c1⟩
          all_goals
            go_wp2_with (at_builtin; refine stopAt ?_; intro q hq)
            have D2 := HD.out.later (keep_mk3 wr)
            have hcr := crash_any (mk3 wr) d Pd D _ 3 3 [9, 32, 5] D2.disk (cells_mk3 wr) (fun _ x hx => by cases hx; exact fun y => Nat.lt_irrefl _ (HD.out.disk.lt _ y)) (by decide) wf_mk3 (by omega)
            clear h0 h1 h2 h3 hf
            refine hcr.mono ?_
            rintro e w3 ⟨rfl, ht⟩
            obtain ⟨Pd3, D3⟩ := D2.toD ht
            clear hcr ht D2
            obtain ⟨h0, h1, h2, h3, hf, hb3⟩ := cells4 D3.head
            have H3 := hid D3
            clear D3
            go_wp2_with (at_builtin; refine stopAt ?_; intro q hq)
            have D4 := H3.out.later (keep_mk3 w3)
            have hcr := ref_crash (mk3 w3) mm Qd D _ 3 3 [9, 32, 5] D4.ref (cells_mk3 w3) (fun _ x hx => by cases hx; exact fun y => Nat.lt_irrefl _ (H3.out.ref.lt _ y)) (by decide) wf_mk3 (by omega)
            clear h0 h1 h2 h3 hf
            refine hcr.mono ?_
            rintro e w5 ⟨rfl, ht⟩
            obtain ⟨Qd5, D5⟩ := D4.toR ht
            clear hcr ht D4
            have H5 := hid D5
            clear D5
            go_wp2_with (at_builtin; refine stopAt ?_; intro q hq)
            obtain ⟨wq, hwq⟩ : ∃ wq, wq = w5 := ⟨_, rfl⟩
            subst hwq
            go_loopw [9] (fun i wr => ∃ j : Nat, j ≤ n ∧ i = .int .i64 j ∧ Hid (Same wq wr)) (fun i _ => n - (intOf i).toNat)
            case atStart => exact ⟨0, Nat.zero_le _, rfl, hid (Keep.refl _ _)⟩
            case round =>
              obtain ⟨j, hj, rfl, HK⟩ := hrel
              have D6 := H5.out.later HK.out
              by_cases hjn : j < n
              · have e1 : (j : Int) < n := by omega
                obtain ⟨h0, h1, h2, h3, hf, hb6⟩ := cells4 D6.head
                have hrd := read_any _ d Pd3 _ j D6.disk (by omega)
                have H6 := hid D6
                clear D6
                go_wp2_with (at_builtin; refine stopAt ?_; intro q hq)
                refine hrd.mono ?_
                rintro e w7 ⟨v7, rfl, hr7, hk7, ho7⟩
                have D7 := H6.out.later hk7
                clear h0 h1 h2 h3 hf
                obtain ⟨h0, h1, h2, h3, hf, hb7⟩ := cells4 D7.head
                have hrr := ref_read w7 mm Qd5 _ j D7.ref (by omega) (by simp [DM.crash])
                have H7 := hid (And.intro D7 hr7)
                have HK7 := hid hk7
                clear D7 hr7 ho7 hk7
                go_wp2_with (at_builtin; refine stopAt ?_; intro q hq)
                refine hrr.mono ?_
                rintro e w8 ⟨v8, rfl, hr8, hk8, ho8⟩
                have hr7 := H7.out.2.keep hk8 (fun _ _ x => x)
                obtain ⟨a7, c7, rfl, -⟩ := hr7.form
                obtain ⟨a8, c8, rfl, -⟩ := hr8.form
                have hsm := same_any w8 a7 a8 _ _ c7 c8 _ _ (Cells.of_row hr7) (Cells.of_row hr8)
                rw [show decide ((DM.read (DM.crash D [9, 32, 5]) j).1 = (DM.read (DM.crash D [9, 32, 5]) j).1) = true from decide_eq_true rfl] at hsm
                have HK8 := hid (Same.trans HK.out (Same.trans HK7.out hk8))
                clear h0 h1 h2 h3 hf hr7 hr8 ho8 hk8
                go_wp2_with (at_builtin; refine stopAt ?_; intro q hq)
                refine hsm.mono ?_
                rintro e w9 ⟨rfl, rfl⟩
                go_wp2_with (at_builtin; refine stopAt ?_; intro q hq)
                go_roundw
                case rel => exact ⟨j + 1, by omega, by go_num, HK8⟩
                case measure => simp [intOf]; omega
              · have e1 : ¬ (j : Int) < n := by omega
                have H6 := hid D6.keep
                clear D6
                go_wp2_with (at_builtin; refine stopAt ?_; intro q hq)
                refine (known_any _).mono ?_
                rintro e w7 ⟨rfl, hk7⟩
                have HZ := hid (Same.trans H6.out hk7)
                clear hk7
                go_wp2_with (at_builtin; refine stopAt ?_; intro q hq)
                go_ret
                exact ⟨by rfl, HZ.out⟩
end Go.Proofs.Yteemekckiafnfaa
