/- What the chapter's examples fix ('known'), of the program's disk. Conditions: none. -/
import Derived.Test.YtenijbngmdaakaaDiskW
import Derived.Test.YtenijbngmdaakaaDiskS
import Derived.Test.YtenijbngmdaakaaDiskC
import Derived.Test.YtenijbngmdaakaaDiskN
import Derived.Test.YtenijbngmdaakaaDiskR
namespace Go.Proofs.Ytenijbngmdaakaa
open Go.RowKit
open DM

/-- A disk of the call's own: its blocks are new since w0, and nothing of w0 has turned. -/
structure Own (w0 : World) (b : Nat) (F : Nat → Prop) (D : Dk) (w : World) : Prop where
  at_ : DiskAt w b F D
  new : ∀ k, F k → w0.heap.size ≤ k
  keep : Keep (fun _ => False) w0 w

theorem Own.to {w0 w w' : World} {b : Nat} {F : Nat → Prop} {D D' : Dk} (h : Own w0 b F D w) (ht : DiskTo b F w D' w') : ∃ F', Own w0 b F' D' w' :=
  let ⟨F', h1, h2, h3⟩ := ht
  ⟨F', h1, fun k hk => (h3 k hk).elim (h.new k) fun x => Nat.le_trans h.keep.size x, h.keep.next h2 (fun _ _ x => x) fun i hi x => by have := h.new i x; omega⟩
/-- The same; and what is told of blocks beside it. -/
theorem Own.to' {w0 w w' : World} {b : Nat} {F : Nat → Prop} {D D' : Dk} (h : Own w0 b F D w) (ht : DiskTo b F w D' w') :
    ∃ F', Own w0 b F' D' w' ∧ ∀ g o, w.heap[g]? = some o → ¬ F g → w'.heap[g]? = some o ∧ ¬ F' g :=
  let ⟨F', h1, h2, h3⟩ := ht
  ⟨F', ⟨h1, fun k hk => (h3 k hk).elim (h.new k) fun x => Nat.le_trans h.keep.size x, h.keep.next h2 (fun _ _ x => x) fun i hi x => by have := h.new i x; omega⟩,
   fun g o hg hn => ⟨h2.get hg hn, fun x => (h3 g x).elim hn fun y => by have := heap_lt hg; omega⟩⟩
theorem Own.step {w0 w w' : World} {b : Nat} {F : Nat → Prop} {D : Dk} (h : Own w0 b F D w) (hk : Keep (fun _ => False) w w') : Own w0 b F D w' :=
  ⟨h.at_.keep hk fun _ _ x => x, h.new, h.keep.next hk (fun _ _ x => x) fun _ _ x => x⟩

theorem Fresh.src {w w' : World} {v : Value} {l : List UInt8} (h : Fresh w v l w') {F : Nat → Prop} (hF : ∀ k, F k → k < w.heap.size) :
    ∃ ao c, v = .slice ao l.length c ∧ Cells w' ao l.length 1 (bytesV l) ∧ ∀ x, ao = some x → ¬ F x.block := by
  obtain ⟨ad, cap, rfl, _, _, _, h5⟩ := h.row.form
  refine ⟨ad, cap, rfl, Cells.of_row h.row, fun x hx hFx => ?_⟩
  have := h.own _ (h5 x hx).2
  have := hF _ hFx
  omega

theorem Fresh.srcN {w w' : World} {v : Value} {l : List UInt8} (h : Fresh w v l w') {F : Nat → Prop} (hF : ∀ k, F k → k < w.heap.size) (n : Nat) (hn : l.length = n) :
    ∃ ao c, v = .slice ao n c ∧ n ≤ c ∧ Cells w' ao n 1 (bytesV l) ∧ ∀ x, ao = some x → ¬ F x.block := by
  subst hn
  obtain ⟨ad, cap, rfl, h1, _, _, h5⟩ := h.row.form
  refine ⟨ad, cap, rfl, h1, Cells.of_row h.row, fun x hx hFx => ?_⟩
  have := h.own _ (h5 x hx).2
  have := hF _ hFx
  omega

theorem Own.toC {w0 w w' : World} {b : Nat} {F : Nat → Prop} {D D' : Dk} (h : Own w0 b F D w) (ht : DiskTo b F w D' w') :
    ∃ F', Own w0 b F' D' w' ∧ ∀ ao n size xs, 0 < n * size → Cells w ao n size xs → (∀ x, ao = some x → ¬ F x.block) → Cells w' ao n size xs ∧ ∀ x, ao = some x → ¬ F' x.block := by
  obtain ⟨F', h1, h2, h3⟩ := ht
  refine ⟨F', ⟨h1, fun k hk => (h3 k hk).elim (h.new k) fun x => Nat.le_trans h.keep.size x, h.keep.next h2 (fun _ _ x => x) fun i hi x => by have := h.new i x; omega⟩, ?_⟩
  intro ao n size xs hp hc hn
  refine ⟨hc.keep h2 hn, fun x hx hF' => ?_⟩
  rcases h3 _ hF' with h4 | h4
  · exact hn x hx h4
  · obtain ⟨ad, had, hcell⟩ := hc.2 hp
    rw [hx] at had
    cases had
    have hl : 0 < xs.length := by rw [hc.1]; exact hp
    have := World.block_lt_of_cell? w _ (hcell 0 _ (List.getElem?_eq_getElem hl))
    rw [show (x.add 0) = x by simp [Addr.add]] at this
    omega

def kD0 : Dk := DM.new 2
def kD1 : Dk := (DM.write kD0 0 (rowL 1 (rowN 0))).2
def kD2 : Dk := DM.crash kD1 [3]
def kD3 : Dk := DM.arm kD2 1
def kD4 : Dk := (DM.write kD3 1 (rowL 2 (rowN 0))).2
def kD5 : Dk := (DM.sync kD4).2
def kD6 : Dk := DM.crash kD5 []

set_option maxHeartbeats 1000000 in
theorem known_any (w : World) : Calls Try.prog 15 #[] w fun e w' => e = .returned (.bool true) ∧ Keep (fun _ => False) w w' := by
  have e1 : (DM.write kD0 0 (rowL 1 (rowN 0))).1 = 0 := by decide
  have e2 : (DM.write kD3 1 (rowL 2 (rowN 0))).1 = 0 := by decide
  have e3 : (DM.sync kD4).1 = 6 := by decide
  have e4 : (DM.read kD2 0).2 = 0 := by decide
  have e5 : kD5.down = true := by decide
  have e6 : kD6.down = false := by decide
  have e7 : kD6.safe.length = 2 := by decide
  go_enter Try.func15, Try.ntmps15
  go_wp2_with (at_builtin; refine stopAt ?_; intro q hq)
  refine (new_any w 2 (by decide) (by decide)).mono ?_
  rintro e w1 ⟨b, F1, rfl, hD1, hk1, hF1⟩
  have O1 : Own w b F1 kD0 w1 := ⟨hD1, hF1, hk1⟩
  clear hD1 hk1 hF1
  go_wp2_with (at_builtin; refine stopAt ?_; intro q hq)
  refine (row_any w1 1 0 (by decide) (by decide)).mono ?_
  rintro e w2 ⟨v2, rfl, hf2⟩
  obtain ⟨ao2, c2, rfl, hs2, ha2⟩ := Fresh.src hf2 O1.at_.lt
  have O2 := O1.step hf2.keep
  go_wp2_with (at_builtin; refine stopAt ?_; intro q hq)
  refine (write_any w2 b F1 kD0 0 ao2 _ c2 (rowL 1 (rowN 0)) O2.at_ hs2 (fun _ => ha2) (by decide) (by decide) (by decide)).mono ?_
  rintro e w3 ⟨rfl, ht3⟩
  obtain ⟨F3, O3⟩ := O2.to ht3
  clear hf2 hs2 ha2 O2 O1 ht3
  go_wp2_with (at_builtin; refine stopAt ?_; intro q hq)
  have O4 := O3.step ((Keep.refl (fun _ => False) w3).alloc (.cells #[.int .i64 3] 3))
  refine (crash_any (w3.alloc (.cells #[.int .i64 3] 3)) b F3 kD1 (some ⟨w3.heap.size, 0, none⟩) 1 1 [3] O4.at_
    ⟨rfl, fun _ => ⟨_, rfl, fun j u hu => by rw [addr_add, Nat.zero_add, cell_of_row _ _ _ _ _ _ (heap_alloc_new w3 _)]; simpa [intsV] using hu⟩⟩
    (fun _ x hx hF => by cases hx; have := O3.at_.lt _ hF; simp at this) (by decide) (by simp) (by decide)).mono ?_
  rintro e w4 ⟨rfl, ht4⟩
  obtain ⟨F4, O5⟩ := O4.to ht4
  clear O4 O3 ht4
  go_wp2_with (at_builtin; refine stopAt ?_; intro q hq)
  refine (read_any w4 b F4 kD2 0 O5.at_ (by decide)).mono ?_
  rintro e w5 ⟨v5, rfl, hr5, hk5, ho5⟩
  have O6 := O5.step hk5
  obtain ⟨g5, cap5, cur5, fz5, rfl, hg5, -, hn5, hc5, -⟩ := hr5.some (by decide)
  have q2 : w5.cell? ⟨g5, 2, none⟩ = some (.int .u8 3) := by rw [hr5.cell 2 (by decide)]; rfl
  have q3 : w5.cell? ⟨g5, 3, none⟩ = some (.int .u8 0) := by rw [hr5.cell 3 (by decide)]; rfl
  rw [cell_of_row _ _ _ _ _ _ hg5] at q2 q3
  have e8 : (DM.read kD2 0).1.length = 32 := by decide
  have q4 : ¬ F4 g5 := fun x => by have := ho5 g5 rfl; have := O5.at_.lt _ x; omega
  have Q2 := hid q2
  have Q3 := hid q3
  have G5 := hid hg5
  have Q4 := hid q4
  have O7 := hid O6
  clear O5 O6 hk5 ho5 hg5 hr5 q2 q3 q4
  go_wp2_with (at_builtin; refine stopAt ?_; intro q hq)
  refine (arm_any w5 b F4 kD2 1 (by decide) O7.out.at_).mono ?_
  rintro e w6 ⟨rfl, ht6⟩
  obtain ⟨F6, O8, h6⟩ := O7.out.to' ht6
  obtain ⟨G6, Q6⟩ := h6 _ _ G5.out Q4.out
  have G6 := hid G6
  have Q6 := hid Q6
  clear ht6 h6 G5 Q4 O7
  go_wp2_with (at_builtin; refine stopAt ?_; intro q hq)
  refine (row_any w6 2 0 (by decide) (by decide)).mono ?_
  rintro e w7 ⟨v7, rfl, hf7⟩
  obtain ⟨ao7, c7, rfl, hs7, ha7⟩ := Fresh.src hf7 O8.at_.lt
  have O9 := O8.step hf7.keep
  have G7 := hid (hf7.keep.get G6.out id)
  clear G6
  go_wp2_with (at_builtin; refine stopAt ?_; intro q hq)
  refine (write_any w7 b F6 kD3 1 ao7 _ c7 (rowL 2 (rowN 0)) O9.at_ hs7 (fun _ => ha7) (by decide) (by decide) (by decide)).mono ?_
  rintro e w8 ⟨rfl, ht8⟩
  obtain ⟨F8, O10, h8⟩ := O9.to' ht8
  obtain ⟨G8, Q8⟩ := h8 _ _ G7.out Q6.out
  have G8 := hid G8
  have Q8 := hid Q8
  clear ht8 h8 G7 Q6 O8 O9 hf7 hs7 ha7
  go_wp2_with (at_builtin; refine stopAt ?_; intro q hq)
  refine (sync_any w8 b F8 kD4 O10.at_ (by decide)).mono ?_
  rintro e w9 ⟨rfl, ht9⟩
  obtain ⟨F9, O11, h9⟩ := O10.to' ht9
  obtain ⟨G9, Q9⟩ := h9 _ _ G8.out Q8.out
  have G9 := hid G9
  have Q9 := hid Q9
  clear ht9 h9 G8 Q8 O10
  go_wp2_with (at_builtin; refine stopAt ?_; intro q hq)
  refine (up_any w9 b F9 kD5 O11.at_).mono ?_
  rintro e w10 ⟨rfl, rfl⟩
  go_wp2_with (at_builtin; refine stopAt ?_; intro q hq)
  refine (crash_any w9 b F9 kD5 none 0 0 [] O11.at_ (Cells.nil _ _ _) (by simp) (by decide) (by simp) (by decide)).mono ?_
  rintro e w11 ⟨rfl, ht11⟩
  obtain ⟨F11, O12, h11⟩ := O11.to' ht11
  obtain ⟨G11, Q11⟩ := h11 _ _ G9.out Q9.out
  have q2 : w11.cell? ⟨g5, 2, none⟩ = some (.int .u8 3) := by rw [cell_of_row _ _ _ _ _ _ G11]; exact Q2.out
  have q3 : w11.cell? ⟨g5, 3, none⟩ = some (.int .u8 0) := by rw [cell_of_row _ _ _ _ _ _ G11]; exact Q3.out
  clear ht11 h11 G9 Q9 O11 G11 Q11
  go_wp2_with (at_builtin; refine stopAt ?_; intro q hq)
  refine (new_none w11 0 (.inl (by decide))).mono ?_
  rintro e w12 ⟨rfl, rfl⟩
  go_wp2_with (at_builtin; refine stopAt ?_; intro q hq)
  refine (up_any w11 b F11 kD6 O12.at_).mono ?_
  rintro e w12 ⟨rfl, rfl⟩
  go_wp2_with (at_builtin; refine stopAt ?_; intro q hq)
  refine (sectors_any w11 b F11 kD6 O12.at_).mono ?_
  rintro e w12 ⟨rfl, rfl⟩
  go_wp2_with (at_builtin; refine stopAt ?_; intro q hq)
  go_ret
  exact ⟨rfl, O12.keep⟩
end Go.Proofs.Ytenijbngmdaakaa
