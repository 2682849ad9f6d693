/- seawalllaw12: a contract for known. Conditions: none. -/
import Derived.Test.YtnignhfallhblaaRlogR
import Derived.Lib.SlBytesConst
namespace Go.Proofs.Ytnignhfallhblaa
open Go.RowKit
open RM

/-- What has become of memory: of what was there just F may have changed, and F' is of F, or new. -/
structure Step (F : Nat → Prop) (w : World) (F' : Nat → Prop) (w' : World) : Prop where
  keep : Keep F w w'
  sub : ∀ k, k < w.heap.size → F' k → F k
theorem Step.trans {F F' F'' : Nat → Prop} {w w' w'' : World} (h : Step F w F' w') (k : Step F' w' F'' w'') : Step F w F'' w'' :=
  ⟨h.keep.next k.keep (fun _ _ x => x) h.sub, fun i hi x => h.sub i hi (k.sub i (Nat.lt_of_lt_of_le hi h.keep.size) x)⟩
theorem Step.same {F : Nat → Prop} {w w' : World} (h : Keep F w w') : Step F w F w' := ⟨h, fun _ _ x => x⟩
theorem Step.read {F : Nat → Prop} {w w' : World} (h : Keep (fun _ => False) w w') : Step F w F w' := ⟨h.mono fun _ _ x => x.elim, fun _ _ x => x⟩
theorem LogTo.step {b : Nat} {F : Nat → Prop} {w w' : World} {g : Lg} (h : LogTo b F w g w') : ∃ F', LogAt w' b F' g ∧ Step F w F' w' := by
  obtain ⟨F', h1, h2, h3⟩ := h
  exact ⟨F', h1, h2, fun k hk x => (h3 k x).elim id fun y => by omega⟩
theorem Step.none {F F' : Nat → Prop} {w w' : World} (h : Step F w F' w') (hF : ∀ k, ¬ F k) : Keep (fun _ => False) w w' := h.keep.mono fun k _ x => hF k x
theorem LogAt.lt {w : World} {b : Nat} {F : Nat → Prop} {g : Lg} (h : LogAt w b F g) : ∀ k, F k → k < w.heap.size := by obtain ⟨_, _, hI⟩ := h; exact hI.lt
theorem LogAt.read {w w' : World} {b : Nat} {F : Nat → Prop} {g : Lg} (h : LogAt w b F g) (hk : Keep (fun _ => False) w w') : LogAt w' b F g := h.keep hk fun _ _ x => x

/-- The bytes of a constant. -/
abbrev lit (w : World) (x : Int) : World := w.alloc (.cells #[.int .u8 x] 5 (1, 2))
theorem Cells.byte (w : World) (x : UInt8) : Cells (lit w (x.toNat : Int)) (some ⟨w.heap.size, 0, none⟩) 1 1 (bytesV [x]) :=
  ⟨rfl, fun _ => ⟨_, rfl, fun j u hu => by rw [addr_add, Nat.zero_add, cell_of_row _ _ _ _ _ _ (heap_alloc_new w _)]; simpa [bytesV] using hu⟩⟩
theorem keep_lit (w : World) (x : Int) : Keep (fun _ => False) w (lit w x) := (Keep.refl _ _).alloc _

set_option maxRecDepth 20000 in
set_option maxHeartbeats 2000000 in
theorem known_any (w : World) : Calls Try.prog 10 #[] w fun e w' => e = .returned (.bool true) ∧ Keep (fun _ => False) w w' := by
  have kc := fun (w : World) (C : Array Value) (n c : Nat) => Lib.run_convert_bytes_const (P := Try.prog) w 24 5 C n c Try.underlying24 Try.underlying5
  have kc2 : ∀ (w : World) (X : Obj) (C : Array Value) (n c : Nat), (convert 24 24 (.slice (some ⟨w.heap.size + 1, 0, none⟩) n c)).run Try.prog ((w.alloc X).alloc (.cells C 5)) = .ok (.slice (some ⟨w.heap.size + 1, 0, none⟩) n c) ((w.alloc X).alloc (.cells C 5 (C.size, C.size + 1))) := fun w X C n c => by
    have h := kc (w.alloc X) C n c
    rw [show (w.alloc X).heap.size = w.heap.size + 1 by simp] at h
    exact h
  go_enter Try.func10, Try.ntmps10
  go_wp2_with (at_builtin; refine stopAt ?_; intro q hq)
  refine (new_any w).mono ?_
  rintro e w1 ⟨b, F1, rfl, hL1, hk1, hF1⟩
  have S1 : Step (fun _ => False) w F1 w1 := ⟨hk1, fun k hk x => by have := hF1 k x; omega⟩
  have H1 := hid S1
  clear hk1 hF1 S1
  go_wp2_with (at_builtin; refine stopAt ?_; intro q hq)
  have hb := Cells.byte w1 98
  have hL2 := hL1.read (keep_lit w1 98)
  have S2 : Step F1 w1 F1 (lit w1 98) := Step.read (keep_lit w1 98)
  refine (learn_any _ b F1 ⟨0, []⟩ 2 _ 1 1 [98] hL2 hb (by decide) (by decide)).mono ?_
  rintro e w3 ⟨rfl, ht3⟩
  obtain ⟨F3, hL3, S3⟩ := ht3.step
  have H3 := hid (H1.out.trans (S2.trans S3))
  clear hL1 hL2 hb ht3 S2 S3 H1
  rw [show (RM.learn ⟨0, []⟩ 2 [98]).2 = ⟨0, [(2, [98])]⟩ by rfl] at hL3
  rw [show (RM.learn ⟨0, []⟩ 2 [98]).1 = 0 by rfl]
  go_wp2_with (at_builtin; refine stopAt ?_; intro q hq)
  refine (apply_any _ b F3 _ hL3).mono ?_
  rintro e w4 ⟨ha, hL4, hk4⟩
  rw [show (RM.apply ⟨0, [(2, [98])]⟩).1 = none by rfl] at ha
  rw [show (RM.apply ⟨0, [(2, [98])]⟩).2 = ⟨0, [(2, [98])]⟩ by rfl] at hL4
  change e = _ at ha
  subst ha
  have H4 := hid (H3.out.trans (Step.same hk4))
  clear hL3 hk4 H3
  go_wp2_with (at_builtin; refine stopAt ?_; intro q hq)
  have k5 := (Keep.refl (fun _ => False) w4).alloc (.cells #[.int .u64 0, .slice none 0 0] 32)
  refine (holes_any _ b F3 _ 9 (hL4.read k5) (by decide) (by decide)).mono ?_
  rintro e w5 ⟨v5, rfl, hr5, ho5, hk5⟩
  rw [show RM.holes ⟨0, [(2, [98])]⟩ 9 = [1] by rfl] at hr5
  have hL5 := (hL4.read k5).read hk5
  have hz5 : ∀ k, v5.ownBlock = some k → ¬ F3 k := fun k e x => by have := ho5 k e; have := hL4.lt k x; have := k5.size; omega
  have H5 := hid (H4.out.trans (Step.read (k5.next hk5 (fun _ _ x => x) (fun _ _ x => x))))
  obtain ⟨gh, ch, rfl, -⟩ := hr5.getCell (show (u64V [1])[0]? = some (.int .u64 1) from rfl)
  have R5 := hid (And.intro hr5 hz5)
  clear hr5 hz5 ho5 hk5 k5 hL4 H4
  go_wp2_with (at_builtin; refine stopAt ?_; intro q hq)
  refine (next_any _ b F3 _ hL5).mono ?_
  rintro e w6 ⟨rfl, hk6⟩
  rw [show RM.next ⟨0, [(2, [98])]⟩ = 1 by rfl]
  have hL6 := hL5.read hk6
  have J6 := hid (Step.read (F := F3) hk6)
  clear hL5 hk6
  go_wp2_with (at_builtin; refine stopAt ?_; intro q hq)
  have hb := Cells.byte w6 97
  have S7 : Step F3 w6 F3 (lit w6 97) := Step.read (keep_lit w6 97)
  refine (learn_any _ b F3 _ 1 _ 1 1 [97] (hL6.read (keep_lit w6 97)) hb (by decide) (by decide)).mono ?_
  rintro e w7 ⟨rfl, ht7⟩
  obtain ⟨F7, hL7, S7'⟩ := ht7.step
  have J7 := hid (J6.out.trans (S7.trans S7'))
  clear hL6 hb ht7 S7 S7' J6
  rw [show (RM.learn ⟨0, [(2, [98])]⟩ 1 [97]).2 = ⟨0, [(1, [97]), (2, [98])]⟩ by rfl] at hL7
  rw [show (RM.learn ⟨0, [(2, [98])]⟩ 1 [97]).1 = 0 by rfl]
  go_wp2_with (at_builtin; refine stopAt ?_; intro q hq)
  refine (apply_any _ b F7 _ hL7).mono ?_
  rintro e w8 ⟨ha, hL8, hk8⟩
  rw [show (RM.apply ⟨0, [(1, [97]), (2, [98])]⟩).1 = some (1, [97]) by rfl] at ha
  rw [show (RM.apply ⟨0, [(1, [97]), (2, [98])]⟩).2 = ⟨1, [(1, [97]), (2, [98])]⟩ by rfl] at hL8
  obtain ⟨ao8, c8, rfl, hr8, hf8⟩ := ha
  have J8 := hid (J7.out.trans (Step.same hk8))
  have R8 := hid (And.intro hr8 (show ∀ k, (Value.slice ao8 1 c8).ownBlock = some k → ¬ F7 k from fun k e x => by have := hf8 k e; have := hL7.lt k x; omega))
  clear hL7 hk8 J7 hr8 hf8
  go_wp2_with (at_builtin; refine stopAt ?_; intro q hq)
  have hE8 := heap_alloc_new w8 (.cells #[.int .u64 1, .slice ao8 1 c8] 32)
  have k8 : Keep (fun _ => False) w8 (w8.alloc (.cells #[.int .u64 1, .slice ao8 1 c8] 32)) := (Keep.refl _ _).alloc _
  obtain ⟨x8, hx8⟩ : ∃ x8, x8 = w8.alloc (.cells #[.int .u64 1, .slice ao8 1 c8] 32) := ⟨_, rfl⟩
  rw [← hx8] at hE8 k8 ⊢
  obtain ⟨E8, he8⟩ : ∃ E, E = w8.heap.size := ⟨_, rfl⟩
  rw [← he8] at hE8 ⊢
  have T8 := hid (And.intro hE8 (show ¬ F7 E8 from fun x => by have := hL8.lt E8 x; omega))
  have R8 := hid (And.intro (R8.out.1.keep k8 fun _ _ x => x) R8.out.2)
  have hM8 := hL8.read k8
  have J8 := hid (J8.out.trans (Step.read (F := F7) k8))
  clear hE8 he8 hx8 hL8 k8
  refine (apply_any _ b F7 _ hM8).mono ?_
  rintro e w9 ⟨ha, hL9, hk9⟩
  rw [show (RM.apply ⟨1, [(1, [97]), (2, [98])]⟩).1 = some (2, [98]) by rfl] at ha
  rw [show (RM.apply ⟨1, [(1, [97]), (2, [98])]⟩).2 = ⟨2, [(1, [97]), (2, [98])]⟩ by rfl] at hL9
  obtain ⟨ao9, c9, rfl, hr9, hf9⟩ := ha
  have J9 := hid (Step.same hk9)
  have R9 := hid (And.intro hr9 (show ∀ k, (Value.slice ao9 1 c9).ownBlock = some k → ¬ F7 k from fun k e x => by have := hf9 k e; have := hM8.lt k x; omega))
  clear hM8 hk9 hr9 hf9
  go_wp2_with (at_builtin; refine stopAt ?_; intro q hq)
  have hE9 := heap_alloc_new w9 (.cells #[.int .u64 2, .slice ao9 1 c9] 32)
  have k9 : Keep (fun _ => False) w9 (w9.alloc (.cells #[.int .u64 2, .slice ao9 1 c9] 32)) := (Keep.refl _ _).alloc _
  obtain ⟨x9, hx9⟩ : ∃ x9, x9 = w9.alloc (.cells #[.int .u64 2, .slice ao9 1 c9] 32) := ⟨_, rfl⟩
  have hz9 : (w9.alloc (.cells #[.int .u64 2, .slice ao9 1 c9] 32)).heap.size = w9.heap.size + 1 := by simp
  rw [← hx9] at hE9 k9 hz9 ⊢
  obtain ⟨E9, he9⟩ : ∃ E, E = w9.heap.size := ⟨_, rfl⟩
  rw [← he9] at hE9 hz9 ⊢
  have T9 := hid (And.intro hE9 (show ¬ F7 E9 from fun x => by have := hL9.lt E9 x; omega))
  have R9 := hid (And.intro (R9.out.1.keep k9 fun _ _ x => x) R9.out.2)
  have hM9 := hL9.read k9
  have J9 := hid (J9.out.trans (Step.read (F := F7) k9))
  clear hE9 he9 hx9 hL9 k9
  have hb := Cells.byte x9 99
  rw [hz9] at hb
  have S10 : Step F7 x9 F7 (lit x9 99) := Step.read (keep_lit x9 99)
  refine (learn_any _ b F7 _ 2 _ 1 1 [99] (hM9.read (keep_lit x9 99)) hb (by decide) (by decide)).mono ?_
  rintro e w10 ⟨rfl, ht10⟩
  obtain ⟨F10, hL10, S10'⟩ := ht10.step
  have J10 := hid (S10.trans S10')
  clear hM9 hb ht10 S10 S10'
  rw [show (RM.learn ⟨2, [(1, [97]), (2, [98])]⟩ 2 [99]).2 = ⟨2, [(1, [97]), (2, [98])]⟩ by rfl] at hL10
  rw [show (RM.learn ⟨2, [(1, [97]), (2, [98])]⟩ 2 [99]).1 = 120 by rfl]
  go_wp2_with (at_builtin; refine stopAt ?_; intro q hq)
  refine (trim_any _ b F10 _ 1 hL10).mono ?_
  rintro e w11 ⟨rfl, hL11, hk11⟩
  rw [show (RM.trim ⟨2, [(1, [97]), (2, [98])]⟩ 1).2 = ⟨2, [(2, [98])]⟩ by rfl] at hL11
  rw [show (RM.trim ⟨2, [(1, [97]), (2, [98])]⟩ 1).1 = 1 by rfl]
  have J11 := hid (J10.out.trans (Step.same hk11))
  clear hL10 hk11 J10
  go_wp2_with (at_builtin; refine stopAt ?_; intro q hq)
  refine (catch_any _ b F10 _ 2 9 hL11 (by decide) (by decide) (by decide)).mono ?_
  rintro e w12 ⟨v12, us12, rfl, hE12, hk12⟩
  rw [show RM.catch_ ⟨2, [(2, [98])]⟩ 2 9 = [(2, [98])] by rfl] at hE12
  have J12 := J11.out.trans (Step.read (F := F10) hk12)
  have J9' := J9.out.trans J12
  have J8' := J8.out.trans J9'
  have hL12 := hL11.read hk12
  have HA12 := hid (H5.out.trans J8')
  have r5 := R5.out.1.keep J8'.keep R5.out.2
  have r8 := R8.out.1.keep J9'.keep R8.out.2
  have r9 := R9.out.1.keep J12.keep R9.out.2
  have q8 := J9'.keep.get T8.out.1 T8.out.2
  have q9 := J12.keep.get T9.out.1 T9.out.2
  clear J12 J9' J8' J11 J9 J8 hL11 hk12 R5 R8 R9 T8 T9 H5
  obtain ⟨gc, cc, hvc, n0, -⟩ := ent_at hE12.row 0 (by rw [hE12.len]; decide)
  subst hvc
  have hu0 : us12[0]'(by rw [hE12.len]; decide) = us12[0]'(by rw [hE12.len]; decide) := rfl
  have n0' : w12.cell? ⟨gc, 0, none⟩ = some (.int .u64 2) := by
    have hk := congrArg (fun l => l[0]?) hE12.keys
    simp only [List.getElem?_map, List.getElem?_eq_getElem (show 0 < us12.length by rw [hE12.len]; decide)] at hk
    rw [n0, show (us12[0]'(by rw [hE12.len]; decide)).1 = 2 by simpa using hk]
    rfl
  clear n0 hu0
  obtain ⟨gh', ch', hvh, m0⟩ := r5.getCell (show (u64V [1])[0]? = some (.int .u64 1) from rfl)
  cases hvh
  obtain ⟨a0, a1, af, -⟩ := cells2 q8
  obtain ⟨b0, b1, bf, -⟩ := cells2 q9
  have hs8 : (convert 24 9 (.slice ao8 1 c8)).run Try.prog w12 = .ok (.string ⟨#[97]⟩) w12 := run_str (P := Try.prog) Try.underlying24 Try.underlying5 Try.underlying9 (c := c8) (Cells.of_row r8)
  have hs9 : (convert 24 9 (.slice ao9 1 c9)).run Try.prog w12 = .ok (.string ⟨#[98]⟩) w12 := run_str (P := Try.prog) Try.underlying24 Try.underlying5 Try.underlying9 (c := c9) (Cells.of_row r9)
  have HE := hid hE12
  clear hE12 r5 r8 r9 q8 q9
  go_wp2_with (at_builtin; refine stopAt ?_; intro q hq)
  refine (catch_any _ b F10 _ 1 9 hL12 (by decide) (by decide) (by decide)).mono ?_
  rintro e w13 ⟨v13, us13, rfl, hE13, hk13⟩
  rw [show RM.catch_ ⟨2, [(2, [98])]⟩ 1 9 = [] by rfl] at hE13
  obtain ⟨ad13, c13, rfl, -⟩ := hE13.row.form
  have hL13 := hL12.read hk13
  have HK13 := hid hk13
  have n0 := n0'
  rw [← World.cell?_of_block (hk13.block _ (World.block_lt_of_cell? _ _ n0') id)] at n0
  clear hE13 hL12 hk13 n0' m0 a0 a1 af b0 b1 bf hs8 hs9
  go_wp2_with (at_builtin; refine stopAt ?_; intro q hq)
  have hb := Cells.byte w13 120
  refine (learn_any _ b F10 _ 1 _ 1 1 [120] (hL13.read (keep_lit w13 120)) hb (by decide) (by decide)).mono ?_
  rintro e w14 ⟨rfl, ht14⟩
  obtain ⟨F14, hL14, S14⟩ := ht14.step
  rw [show (RM.learn ⟨2, [(2, [98])]⟩ 1 [120]).1 = 0 by rfl]
  have HF := hid (HA12.out.trans ((Step.read HK13.out).trans ((Step.read (F := F10) (keep_lit w13 120)).trans S14)))
  clear hL13 hb ht14 hL14 S14
  go_wp2_with (at_builtin; refine stopAt ?_; intro q hq)
  go_ret
  exact ⟨by rfl, HF.out.none fun _ x => x⟩
end Go.Proofs.Ytnignhfallhblaa
