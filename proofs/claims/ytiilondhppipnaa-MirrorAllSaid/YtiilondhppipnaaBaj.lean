/- Texts MiaE, MiaF, MiaG, MiaH, MiaI, MiaJ, MiaK, MiaL, MiaN, MiaO in one. Conditions: as each law names them. -/
import Derived.Test.YtiilondhppipnaaBaf
import Derived.Test.YtiilondhppipnaaBag
import Derived.Test.YtiilondhppipnaaBai
/- What the laws of the mirror are given: changes, items, acts, switches. Conditions: none. -/
namespace Go.Proofs.Ytiilondhppipnaa
open Go.ChangeShapes Go.WideShapes Go.RowKit Go.Deep
open MI

def ChOk (c : Ch) : Prop := c.key.length ≤ maxLen ∧ c.value.length ≤ maxLen
def ChR (cs : List Value) (c : Ch) : Prop := cs = chV c ∧ ChOk c
def ItR (cs : List Value) (i : It) : Prop := cs = itV i ∧ ChOk i.ch ∧ i.seq < 18446744073709551616
/-- An act of the laws of the mirror. -/
structure MAct where
  kind : Int
  ch : Ch
  seq : Nat
  most : Int
deriving Inhabited
def MActR (cs : List Value) (x : MAct) : Prop :=
  cs = [.int .i64 x.kind, .string (str x.ch.key), .string (str x.ch.value), .bool x.ch.gone, .int .u64 (x.seq : Int), .int .i64 x.most] ∧ ChOk x.ch ∧ x.seq < 18446744073709551616 ∧ (-9223372036854775808 ≤ x.kind ∧ x.kind ≤ 9223372036854775807) ∧ (-9223372036854775808 ≤ x.most ∧ x.most ≤ 9223372036854775807)

section
variable {H : Type} {enc : TypeId × Value → H} {w : World} {base : Nat} {held : Bool} {fuel : Nat}
set_option maxRecDepth 20000 in
theorem rd_change {cs : List Value} {x : DataW H × List MemPlace} (h : DataW.trod enc Try.prog w base (fun _ => true) held fuel 31 cs = some x) : ∃ c, ChR cs c := by
  have hl := rd_len Try.underlying31 h
  have c3 : Try.prog.cellsOf 31 = 3 := by kernel_rfl
  have c1 : Try.prog.cellsOf 9 = 1 := by kernel_rfl
  have cb : Try.prog.cellsOf 4 = 1 := by kernel_rfl
  obtain ⟨n0, y0, h0⟩ := rd_field Try.underlying31 h 0 _ rfl
  obtain ⟨n1, y1, h1⟩ := rd_field Try.underlying31 h 1 _ rfl
  obtain ⟨n2, y2, h2⟩ := rd_field Try.underlying31 h 2 _ rfl
  rw [c3] at hl
  match cs, hl with
  | [x0, x1, x2], _ =>
    simp [c1, cb] at h0 h1 h2
    obtain ⟨s0, e0, l0⟩ := rd_str Try.underlying9 h0
    obtain ⟨s1, e1, l1⟩ := rd_str Try.underlying9 h1
    obtain ⟨b, e2⟩ := rd_bool Try.underlying4 h2
    simp only [List.cons.injEq, and_true] at e0 e1 e2
    subst e0 e1 e2
    exact ⟨⟨s0, s1, b⟩, rfl, l0, l1⟩
set_option maxRecDepth 20000 in
theorem rd_item {cs : List Value} {x : DataW H × List MemPlace} (h : DataW.trod enc Try.prog w base (fun _ => true) held fuel 33 cs = some x) : ∃ i, ItR cs i := by
  have hl := rd_len Try.underlying33 h
  have c5 : Try.prog.cellsOf 33 = 5 := by kernel_rfl
  have c3 : Try.prog.cellsOf 31 = 3 := by kernel_rfl
  have c1 : Try.prog.cellsOf 26 = 1 := by kernel_rfl
  have cb : Try.prog.cellsOf 4 = 1 := by kernel_rfl
  obtain ⟨n0, y0, h0⟩ := rd_field Try.underlying33 h 0 _ rfl
  obtain ⟨n1, y1, h1⟩ := rd_field Try.underlying33 h 1 _ rfl
  obtain ⟨n2, y2, h2⟩ := rd_field Try.underlying33 h 2 _ rfl
  rw [c5] at hl
  match cs, hl with
  | [x0, x1, x2, x3, x4], _ =>
    simp [c1, cb, c3] at h0 h1 h2
    obtain ⟨a, e0, w0⟩ := rd_int Try.underlying26 h0
    obtain ⟨b, e1⟩ := rd_bool Try.underlying4 h1
    obtain ⟨c, e2, hc⟩ := rd_change h2
    obtain ⟨q1, q2⟩ := wf_u64 w0
    unfold chV at e2
    simp only [List.cons.injEq, and_true] at e0 e1 e2
    obtain ⟨e2, e3, e4⟩ := e2
    subst e0 e1 e2 e3 e4
    refine ⟨⟨a.toNat, b, c⟩, ?_, hc, by simp only; omega⟩
    unfold itV
    simp only
    rw [Int.toNat_of_nonneg q1]
theorem rd_changes {v : Value} {x : DataW H × List MemPlace} (h : DataW.trod enc Try.prog w base (fun _ => true) held fuel 45 [v] = some x) : ∃ l, SliceOf w 3 ChR v l :=
  rd_sliceL Try.underlying45 (by kernel_rfl) (fun _ _ _ _ h => rd_change h) h
theorem rd_items {v : Value} {x : DataW H × List MemPlace} (h : DataW.trod enc Try.prog w base (fun _ => true) held fuel 22 [v] = some x) : ∃ l, SliceOf w 5 ItR v l :=
  rd_sliceL Try.underlying22 (by kernel_rfl) (fun _ _ _ _ h => rd_item h) h
theorem rd_bools {v : Value} {x : DataW H × List MemPlace} (h : DataW.trod enc Try.prog w base (fun _ => true) held fuel 46 [v] = some x) : ∃ l, Bools w v l :=
  rd_sliceL Try.underlying46 (by kernel_rfl) (fun _ _ _ _ h => rd_bool Try.underlying4 h) h
set_option maxRecDepth 20000 in
theorem rd_mact {cs : List Value} {x : DataW H × List MemPlace} (h : DataW.trod enc Try.prog w base (fun _ => true) held fuel 60 cs = some x) : ∃ i, MActR cs i := by
  have hl := rd_len Try.underlying60 h
  have c6 : Try.prog.cellsOf 60 = 6 := by kernel_rfl
  have c3 : Try.prog.cellsOf 31 = 3 := by kernel_rfl
  have c1 : Try.prog.cellsOf 26 = 1 := by kernel_rfl
  have ci : Try.prog.cellsOf 3 = 1 := by kernel_rfl
  obtain ⟨n0, y0, h0⟩ := rd_field Try.underlying60 h 0 _ rfl
  obtain ⟨n1, y1, h1⟩ := rd_field Try.underlying60 h 1 _ rfl
  obtain ⟨n2, y2, h2⟩ := rd_field Try.underlying60 h 2 _ rfl
  obtain ⟨n3, y3, h3⟩ := rd_field Try.underlying60 h 3 _ rfl
  rw [c6] at hl
  match cs, hl with
  | [x0, x1, x2, x3, x4, x5], _ =>
    simp [c1, ci, c3] at h0 h1 h2 h3
    obtain ⟨k, e0, w0⟩ := rd_int Try.underlying3 h0
    obtain ⟨c, e1, hc⟩ := rd_change h1
    obtain ⟨a, e4, w4⟩ := rd_int Try.underlying26 h2
    obtain ⟨m, e5, w5⟩ := rd_int Try.underlying3 h3
    obtain ⟨q1, q2⟩ := wf_u64 w4
    unfold chV at e1
    simp only [List.cons.injEq, and_true] at e0 e1 e4 e5
    obtain ⟨e1, e2, e3⟩ := e1
    subst e0 e1 e2 e3 e4 e5
    refine ⟨⟨k, c, a.toNat, m⟩, ?_, hc, by simp only; omega, wf_i64 w0, wf_i64 w5⟩
    simp only
    rw [Int.toNat_of_nonneg q1]
theorem rd_macts {v : Value} {x : DataW H × List MemPlace} (h : DataW.trod enc Try.prog w base (fun _ => true) held fuel 53 [v] = some x) : ∃ l, SliceOf w 6 MActR v l :=
  rd_sliceL Try.underlying53 (by kernel_rfl) (fun _ _ _ _ h => rd_mact h) h

set_option maxRecDepth 20000 in
theorem open_change {r : Reach} {b0 : Nat} {v : Value} {d : DataW H} {p : List MemPlace} (hval : Value.okWide Try.prog w r b0 31 v) (h : DataW.Trod enc Try.prog w base (fun _ => true) held 31 v d p) :
    ∃ c, v = chVal c ∧ ChOk c := by
  obtain ⟨cs, rfl, hn⟩ := okWide_struct Try.underlying31 hval
  obtain ⟨fu, hf⟩ := h
  obtain ⟨c, e, hc⟩ := rd_change hf
  refine ⟨c, ?_, hc⟩
  obtain ⟨l⟩ := cs
  simp only [Value.cells] at e
  rw [e]
  rfl
set_option maxRecDepth 20000 in
theorem open_item {r : Reach} {b0 : Nat} {v : Value} {d : DataW H} {p : List MemPlace} (hval : Value.okWide Try.prog w r b0 33 v) (h : DataW.Trod enc Try.prog w base (fun _ => true) held 33 v d p) :
    ∃ i, v = itVal i ∧ ChOk i.ch ∧ i.seq < 18446744073709551616 := by
  obtain ⟨cs, rfl, hn⟩ := okWide_struct Try.underlying33 hval
  obtain ⟨fu, hf⟩ := h
  obtain ⟨i, e, hc⟩ := rd_item hf
  refine ⟨i, ?_, hc⟩
  obtain ⟨l⟩ := cs
  simp only [Value.cells] at e
  rw [e]
  rfl
end

set_option maxRecDepth 20000 in
theorem long_any (w : World) (c : Ch) (hc : ChOk c) : Calls Try.prog 11 #[chVal c] w fun e w' => e = .returned (.bool (decide (1000 < c.key.length) || decide (1000 < c.value.length))) ∧ Keep (fun _ => False) w w' := by
  obtain ⟨key, value, gone⟩ := c
  obtain ⟨h1, h2⟩ := hc
  simp only at h1 h2
  unfold maxLen at h1 h2
  unfold chVal
  simp only
  obtain ⟨n, hn⟩ : ∃ n, n = key.length := ⟨_, rfl⟩
  obtain ⟨m, hm⟩ : ∃ m, m = value.length := ⟨_, rfl⟩
  have e1 : (str key).size = n := by rw [str_size, hn]
  have e2 : (str value).size = m := by rw [str_size, hm]
  rw [← hn, ← hm]
  rw [← hn] at h1
  rw [← hm] at h2
  clear hn hm
  go_enter Try.func11, Try.ntmps11
  go_wp2_with (at_builtin; refine stopAt ?_; intro q hq)
  all_goals go_ret
  all_goals refine ⟨?_, (Keep.refl _ _).alloc _⟩
  all_goals
    have i1 : ((1000 : Int) < (n : Int)) ↔ 1000 < n := by omega
    have i2 : ((1000 : Int) < (m : Int)) ↔ 1000 < m := by omega
    first
      | (have q1 : 1000 < n := by omega
         simp [q1])
      | simp [i1, i2]
end Go.Proofs.Ytiilondhppipnaa
/- MirrorSinks' walk: the program's sink and the document's take the same items. Conditions: none. -/
namespace Go.Proofs.Ytiilondhppipnaa
open Go.ChangeShapes Go.WideShapes Go.RowKit Go.Deep
open MI

theorem MI.put_len (held : List (Nat × It)) (x : Nat) (v : It) (h : AL.get held x = none) : (AL.put held x v).length = held.length + 1 := by
  unfold AL.put
  rw [AL.del_none h, List.length_append]
  rfl
theorem MI.adv_ok : ∀ (n : Nat) (k : Snk), AL.Ok k.held → AL.Ok (adv k n).held
  | 0, _, h => h
  | n + 1, k, h => by
    rw [adv_step]
    exact (adv_ok n k h).del _
theorem MI.adv_len : ∀ (n : Nat) (k : Snk), AL.Ok k.held → (∀ i, i < n → (AL.get k.held (k.cut + 1 + i)).isSome = true) → (adv k n).held.length + n = k.held.length
  | 0, _, _, _ => rfl
  | n + 1, k, hok, h => by
    have ih := adv_len n k hok (fun i hi => h i (by omega))
    rw [adv_step]
    simp only [step1]
    have h1 := AL.del_length (adv_ok n k hok) ((adv k n).cut + 1)
    rw [adv_cut, adv_get n k _ (by omega)] at h1
    have h2 := h n (by omega)
    rw [show k.cut + 1 + n = k.cut + n + 1 by omega] at h2
    rw [if_pos h2] at h1
    rw [adv_cut]
    omega
theorem MI.run_has (h : List (Nat × It)) : ∀ (n a i : Nat), i < run h a n → (AL.get h (a + i)).isSome = true
  | 0, _, i, hi => by simp [run] at hi
  | n + 1, a, i, hi => by
    unfold run at hi
    split at hi
    · rename_i h0
      cases i with
      | zero => exact h0
      | succ i => rw [show a + (i + 1) = a + 1 + i by omega]; exact run_has h n (a + 1) i (by omega)
    · omega
/-- What Take leaves of the counts. -/
theorem MI.take_len (k : Snk) (i : It) (hok : AL.Ok k.held) : AL.Ok (k.take i).1.held ∧ (k.take i).1.done.length + (k.take i).1.held.length ≤ k.done.length + k.held.length + 1 ∧ (k.cut = k.done.length → (k.take i).1.cut = (k.take i).1.done.length) := by
  unfold Snk.take
  split
  · exact ⟨hok, by simp only; omega, fun h => h⟩
  split
  · exact ⟨hok, by simp only; omega, fun h => h⟩
  cases hg : AL.get k.held i.seq with
  | some o =>
    simp only
    split
    · exact ⟨hok, by simp only; omega, fun h => h⟩
    · exact ⟨hok, by simp only; omega, fun h => h⟩
  | none =>
    simp only
    split
    · exact ⟨hok, by simp only; omega, fun h => h⟩
    · simp only
      obtain ⟨h1, hh1⟩ : ∃ h1, h1 = AL.put k.held i.seq i := ⟨_, rfl⟩
      rw [← hh1]
      have hl1 : h1.length = k.held.length + 1 := by rw [hh1]; exact put_len _ _ _ hg
      have hok1 : AL.Ok h1 := by rw [hh1]; exact hok.put _ _
      obtain ⟨n, hn⟩ : ∃ n, n = (Snk.next ⟨k.cut, k.done, h1⟩) - k.cut - 1 := ⟨_, rfl⟩
      rw [← hn]
      have hlm := lastMark_le h1 k.cut n
      have hnr : n = run h1 (k.cut + 1) h1.length := by rw [hn]; unfold Snk.next; simp only; omega
      have hpres : ∀ j, j < lastMark h1 k.cut n - k.cut → (AL.get h1 (k.cut + 1 + j)).isSome = true := fun j hj => run_has h1 h1.length (k.cut + 1) j (by omega)
      have e1 := adv_len (lastMark h1 k.cut n - k.cut) ⟨k.cut, k.done, h1⟩ hok1 hpres
      have e2 := adv_done (lastMark h1 k.cut n - k.cut) ⟨k.cut, k.done, h1⟩
      have e3 := adv_cut (lastMark h1 k.cut n - k.cut) ⟨k.cut, k.done, h1⟩
      simp only at e1 e2 e3
      refine ⟨adv_ok _ _ hok1, by omega, fun h => by rw [e3, e2]; omega⟩

/-- A sink that came about by Take. -/
structure MI.Fine (k : Snk) : Prop where
  ok : AL.Ok k.held
  cut : k.cut = k.done.length
  seq : ∀ j (h : j < k.done.length), k.done[j].seq = j + 1
  right : ∀ q ∈ k.done, rightI q = true
  held : ∀ q ∈ k.held, q.2.seq = q.1 ∧ k.cut < q.1 ∧ rightI q.2 = true
theorem MI.Fine.new : Fine Snk.new := ⟨List.Pairwise.nil, rfl, fun _ h => by simp [Snk.new] at h, fun _ h => by simp [Snk.new] at h, fun _ h => by simp [Snk.new] at h⟩
theorem MI.Fine.step {k : Snk} (h : Fine k) (hp : (AL.get k.held (k.cut + 1)).isSome = true) : Fine (step1 k) := by
  obtain ⟨o, ho⟩ := Option.isSome_iff_exists.1 hp
  have hm := h.held _ (AL.mem_get ho)
  simp only at hm
  have e : step1 k = ⟨k.cut + 1, k.done ++ [o], AL.del k.held (k.cut + 1)⟩ := by unfold step1; rw [ho]; rfl
  rw [e]
  refine ⟨h.ok.del _, by simp only [List.length_append, List.length_singleton]; rw [h.cut], fun j hj => ?_, fun q hq => ?_, fun q hq => ?_⟩
  · simp only
    rw [List.getElem_append]
    split
    · exact h.seq j _
    · rename_i hn
      simp only [List.length_append, List.length_singleton] at hj
      simp only [List.getElem_singleton]
      have := h.cut
      omega
  · rcases List.mem_append.1 hq with hq | hq
    · exact h.right q hq
    · simp only [List.mem_singleton] at hq
      rw [hq]
      exact hm.2.2
  · obtain ⟨h1, h2⟩ := List.mem_filter.1 hq
    obtain ⟨h3, h4, h5⟩ := h.held q h1
    have : ¬ q.1 = k.cut + 1 := by simpa using h2
    exact ⟨h3, by simp only; omega, h5⟩
theorem MI.Fine.adv {k : Snk} (h : Fine k) : ∀ (n : Nat), (∀ i, i < n → (AL.get k.held (k.cut + 1 + i)).isSome = true) → Fine (adv k n)
  | 0, _ => h
  | n + 1, hp => by
    rw [adv_step]
    refine (MI.Fine.adv h n fun i hi => hp i (by omega)).step ?_
    rw [adv_cut, adv_get n k _ (by omega)]
    have := hp n (by omega)
    rwa [show k.cut + 1 + n = k.cut + n + 1 by omega] at this
theorem MI.Fine.take {k : Snk} (h : Fine k) (i : It) : Fine (k.take i).1 := by
  unfold Snk.take
  split
  · exact h
  split
  · exact h
  rename_i hr hs
  cases hg : AL.get k.held i.seq with
  | some o =>
    simp only
    split
    · exact h
    · exact h
  | none =>
    simp only
    split
    · exact h
    · simp only
      obtain ⟨h1, hh1⟩ : ∃ h1, h1 = AL.put k.held i.seq i := ⟨_, rfl⟩
      rw [← hh1]
      have hF : Fine ⟨k.cut, k.done, h1⟩ := ⟨by rw [hh1]; exact h.ok.put _ _, h.cut, h.seq, h.right, fun q hq => by
        simp only at hq
        rw [hh1] at hq
        rcases List.mem_append.1 hq with hq | hq
        · exact h.held q (List.mem_filter.1 hq).1
        · simp only [List.mem_singleton] at hq
          subst hq
          exact ⟨rfl, by simp only; omega, by simpa using hr⟩⟩
      obtain ⟨n, hn⟩ : ∃ n, n = (Snk.next ⟨k.cut, k.done, h1⟩) - k.cut - 1 := ⟨_, rfl⟩
      rw [← hn]
      have hlm := lastMark_le h1 k.cut n
      have hnr : n = run h1 (k.cut + 1) h1.length := by rw [hn]; unfold Snk.next; simp only; omega
      exact hF.adv _ fun j hj => run_has h1 h1.length (k.cut + 1) j (by omega)
/-- All that is done counts. -/
theorem MI.Fine.upTo {k : Snk} (h : Fine k) : upTo k.done k.cut = k.done := by
  unfold MI.upTo
  rw [List.filter_eq_self]
  intro q hq
  obtain ⟨j, hj, rfl⟩ := List.getElem_of_mem hq
  rw [h.seq j hj, h.cut]
  simp
  omega
theorem MI.layI_keys {ps : List (Str × Str)} {i : It} (h : ∀ q ∈ ps, q.1.length ≤ 16) (hi : rightI i = true) : ∀ q ∈ layI ps i, q.1.length ≤ 16 := by
  intro q hq
  unfold layI at hq
  split at hq
  · exact h q hq
  · rcases lay1_mem hq with hq | hq
    · exact h q hq
    · rw [hq]; exact rightI_key hi
theorem MI.layAll_keys {l : List It} (h : ∀ i ∈ l, rightI i = true) : ∀ q ∈ layAll l, q.1.length ≤ 16 := by
  have : ∀ (l : List It) (ps : List (Str × Str)), (∀ q ∈ ps, q.1.length ≤ 16) → (∀ i ∈ l, rightI i = true) → ∀ q ∈ l.foldl layI ps, q.1.length ≤ 16 := by
    intro l
    induction l with
    | nil => exact fun ps h _ => h
    | cons i l ih =>
      intro ps h1 h2
      exact ih _ (layI_keys h1 (h2 i (by simp))) (fun j hj => h2 j (by simp [hj]))
  exact this l [] (by simp) h
theorem MI.Fine.keys {k : Snk} (h : Fine k) : ∀ q ∈ layAll k.done, q.1.length ≤ maxLen := fun q hq => Nat.le_trans (layAll_keys h.right q hq) (by decide)

theorem rsnk_new (w : World) : RSnkAt (w.alloc (.cells #[.int .u64 0, .slice none 0 0, .slice none 0 0] 28)) w.heap.size (fun i => i = w.heap.size) Snk.new := by
  refine ⟨.slice none 0 0, .slice none 0 0, heap_alloc_new w _, Row.nil _ _ _, Row.nil _ _ _, rfl, fun i e => by simp [Value.ownBlock] at e, fun i e => by simp [Value.ownBlock] at e, fun i e => by simp [Value.ownBlock] at e, fun i e => ?_, List.Pairwise.nil, fun q h => by simp [Snk.new] at h⟩
  rw [e]
  exact heap_lt (heap_alloc_new w _)

structure SinksRel (W : World) (b c : Nat) (i : Nat) (wr : World) : Prop where
  ex : ∃ k F G, Two W (SnkT b k) F (RSnkT c k) G wr ∧ Fine k ∧ k.done.length + k.held.length ≤ i

set_option maxRecDepth 20000 in
set_option maxHeartbeats 4000000 in
theorem sinks_walk (W : World) (v : Value) (l : List It) (hl : SliceOf W 5 ItR v l) :
    Calls Try.prog 3 #[v] W fun e w' => e = .returned (.bool true) ∧ Keep (fun _ => False) W w' := by
  obtain ⟨ao, cc, rfl, hcc, hcm⟩ := hl.form
  obtain ⟨m, hm⟩ : ∃ m, m = l.length := ⟨_, rfl⟩
  rw [← hm] at hl hcc ⊢
  have HM := hid hm
  have HL := hid hl
  have hm63 : (m : Int) ≤ 9223372036854775807 := by unfold maxLen at hcm; omega
  clear hl hm
  go_enter Try.func3, Try.ntmps3
  go_wp2_with (at_builtin; refine stopAt ?_; intro q hq)
  refine (newSink_any W).mono ?_
  rintro e w1 ⟨b, F, rfl, hs, hk1, hF⟩
  have H1 := hid (And.intro hs (And.intro hk1 hF))
  clear hs hk1 hF
  go_upto_block 0 with fail
  obtain ⟨c, hc⟩ : ∃ c, c = w1.heap.size := ⟨_, rfl⟩
  have hr := rsnk_new w1
  have hk2 : Keep (fun _ => False) w1 (w1.alloc (.cells #[.int .u64 0, .slice none 0 0, .slice none 0 0] 28)) := (Keep.refl _ _).alloc _
  obtain ⟨w2, hw2⟩ : ∃ w2, w2 = w1.alloc (.cells #[.int .u64 0, .slice none 0 0, .slice none 0 0] 28) := ⟨_, rfl⟩
  rw [← hw2, ← hc] at hr
  rw [← hw2] at hk2 ⊢
  rw [← hc]
  have HS := hid (show SinksRel W b c 0 w2 from ⟨Snk.new, F, _, Two.make H1.out.1 H1.out.2.2 H1.out.2.1 (SnkT.lives _ _) hr (fun i e => by rw [e, hc]; exact Nat.le_refl _) hk2, Fine.new, by simp [Snk.new]⟩)
  clear hr hk2 hw2 hc H1
  go_cut [5] (fun s5 wx => Hid (∃ i, SinksRel W b c i wx))
  case first =>
    go_wp2_with (at_builtin; refine stopAt ?_; intro q hq)
    go_loopw [5] (fun iv wr => ∃ i : Nat, i ≤ m ∧ i ≤ 150 ∧ iv = .int .i64 i ∧ Hid (SinksRel W b c i wr)) (fun iv _ => m - (intOf iv).toNat)
    case atStart => exact ⟨0, Nat.zero_le _, Nat.zero_le _, rfl, HS⟩
    case round =>
      clear HS
      obtain ⟨i, hi, hi2, rfl, HS⟩ := hrel
      by_cases h1 : i < m
      · have q1 : (i : Int) < m := by omega
        by_cases h2 : i < 150
        · have q2 : (i : Int) < 150 := by omega
          obtain ⟨k, F, G, hT, hf, hlen⟩ := HS.out.ex
          have hiL : i < l.length := by rw [← HM.out]; exact h1
          obtain ⟨ad, cs, rfl, -, ⟨rfl, hco, hseq⟩, e0, ej⟩ := HL.out.at (Keep.refl _ _) i hiL
          obtain ⟨it, hit⟩ : ∃ it, it = l[i] := ⟨_, rfl⟩
          rw [← hit] at hco hseq e0 ej
          have HX := hid (And.intro hT (And.intro hf (And.intro hlen (And.intro hco hseq))))
          have HE := hid (And.intro (e0 _ rfl) (And.intro (ej 1 _ (by decide) rfl) (And.intro (ej 2 _ (by decide) rfl) (And.intro (ej 3 _ (by decide) rfl) (ej 4 _ (by decide) rfl)))))
          have a2 := cell_old hT.keep _ _ HE.out.2.2.1
          have a3 := cell_old hT.keep _ _ HE.out.2.2.2.1
          have a4 := cell_old hT.keep _ _ HE.out.2.2.2.2
          clear hit e0 ej hT hf hlen hco hseq
          go_wp2_with (at_builtin; refine stopAt ?_; intro q hq)
          refine (long_any wr it.ch HX.out.2.2.2.1).mono ?_
          rintro e w3 ⟨rfl, hk3⟩
          clear a2 a3 a4
          have H3 := hid (HX.out.1.later (SnkT.lives _ _) (RSnkT.lives _ _) hk3)
          clear hk3
          obtain ⟨lg, hlg⟩ : ∃ lg, lg = (decide (1000 < it.ch.key.length) || decide (1000 < it.ch.value.length)) := ⟨_, rfl⟩
          rw [← hlg]
          clear hlg
          cases lg with
          | true =>
            go_wp2_with (at_builtin; refine stopAt ?_; intro q hq)
            refine (known_any w3).mono ?_
            rintro e w4 ⟨rfl, hk4⟩
            have HK := hid (H3.out.keep.next hk4 (fun _ _ x => x) (fun _ _ x => x))
            clear hk4
            go_wp2_with (at_builtin; refine stopAt ?_; intro q hq)
            go_ret
            exact ⟨rfl, HK.out⟩
          | false =>
            have a0 := cell_old H3.out.keep _ _ HE.out.1
            have a1 := cell_old H3.out.keep _ _ HE.out.2.1
            have a2 := cell_old H3.out.keep _ _ HE.out.2.2.1
            have a3 := cell_old H3.out.keep _ _ HE.out.2.2.2.1
            have a4 := cell_old H3.out.keep _ _ HE.out.2.2.2.2
            go_wp2_with (at_builtin; refine stopAt ?_; intro q hq)
            clear a0 a1 a2 a3 a4
            have hlen := HX.out.2.2.1
            have hcut := HX.out.2.1.cut
            have htk := take_any w3 b F k it H3.out.one (by omega) (by omega) HX.out.2.2.2.2
            refine htk.mono ?_
            clear htk
            rintro e w4 ⟨rfl, ht⟩
            obtain ⟨F4, H4⟩ := H3.out.turn1 (RSnkT.lives _ _) (T' := SnkT b (k.take it).1) ht
            have H4 := hid H4
            clear ht
            have a0 := cell_old H4.out.keep _ _ HE.out.1
            have a1 := cell_old H4.out.keep _ _ HE.out.2.1
            have a2 := cell_old H4.out.keep _ _ HE.out.2.2.1
            have a3 := cell_old H4.out.keep _ _ HE.out.2.2.2.1
            have a4 := cell_old H4.out.keep _ _ HE.out.2.2.2.2
            go_wp2_with (at_builtin; refine stopAt ?_; intro q hq)
            clear a0 a1 a2 a3 a4
            have htk := rtake_any w4 c G k it H4.out.two (by omega) (by omega) HX.out.2.2.2.2
            refine htk.mono ?_
            clear htk hlen hcut
            rintro e w5 ⟨rfl, ht⟩
            obtain ⟨G5, H5⟩ := H4.out.turn2 (SnkT.lives _ _) (U' := RSnkT c (k.take it).1) ht
            have hf5 := HX.out.2.1.take it
            have hl5 := (MI.take_len k it HX.out.2.1.ok).2.1
            have hl6 := HX.out.2.2.1
            obtain ⟨k5, hk5⟩ : ∃ k5, k5 = (k.take it).1 := ⟨_, rfl⟩
            obtain ⟨er, her⟩ : ∃ er, er = (k.take it).2 := ⟨_, rfl⟩
            rw [← hk5] at H5 hf5 hl5
            rw [← her]
            have HF := hid (And.intro hf5 (show k5.done.length + k5.held.length ≤ i + 1 by omega))
            have H5 := hid H5
            have hnx := H5.out
            obtain ⟨dv, hv, hI⟩ := H5.out.two
            obtain ⟨ad5, cp5, rfl, -⟩ := hI.done.form
            obtain ⟨ah5, ch5, rfl, -⟩ := hI.held.form
            obtain ⟨i0, i1, i2, if0, ib0⟩ := cells3i hI.head
            have HI := hid hI
            clear ht hk5 her hf5 hl5 hl6 hI hnx H4 H3
            obtain ⟨nd, hnd⟩ : ∃ nd, nd = k5.done.length := ⟨_, rfl⟩
            obtain ⟨nh, hnh⟩ : ∃ nh, nh = k5.held.length := ⟨_, rfl⟩
            obtain ⟨ct, hct⟩ : ∃ ct, ct = k5.cut := ⟨_, rfl⟩
            obtain ⟨nx, hnx⟩ : ∃ nx, nx = k5.next := ⟨_, rfl⟩
            rw [← hnd] at i1
            rw [← hnh] at i2
            rw [← hct] at i0
            have HD := hid (And.intro hnd (And.intro hnh (And.intro hct hnx)))
            clear hnd hnh hct hnx
            go_wp2_with (at_builtin; refine stopAt ?_; intro q hq)
            have j0 := fun s : Later w5 => s.cell i0
            have j1 := fun s : Later w5 => s.cell i1
            have j2 := fun s : Later w5 => s.cell i2
            clear i0 i1 i2 if0 ib0
            refine wp_region_pool [(5, fun v _ => v = .int .u64 (ct : Int)), (14, fun v _ => v = .int .u64 (nx : Int)), (16, fun v _ => v = .int .u64 (nx : Int)), (21, fun v _ => v = .int .i64 (nh : Int)),
              (31, fun v w' => Row w' 72 2 v (layAll k5.done).length (prsV (layAll k5.done))), (40, fun v w' => Row w' 72 2 v (layAll k5.done).length (prsV (layAll k5.done))), (41, fun v _ => v = .bool true)] (by kernel_rfl) (by kernel_rfl) ?_ ?_
            · intro q hq v w1 w3 hk hx
              simp only [List.mem_cons, List.not_mem_nil, or_false] at hq
              rcases hq with rfl | rfl | rfl | rfl | rfl | rfl | rfl
              · exact hx
              · exact hx
              · exact hx
              · exact hx
              · exact Row.keep hx hk (fun _ _ x => x)
              · exact Row.keep hx hk (fun _ _ x => x)
              · exact hx
            repeat (apply wpT_pure (by rfl); (intro K s; go_simp; exact id))
            refine wpT_made (by rfl) (by kernel_rfl) (fun s hs => ?_) (fun v hv K hK => ?_)
            · go_simp
              refine (cut_any s.val b F4 k5 (SnkAt.later H5.out.one s.keep)).mono ?_
              rintro e w' ⟨rfl, rfl⟩
              exact ⟨by rw [HD.out.2.2.1], Keep.refl _ _⟩
            obtain ⟨s1, -, rfl⟩ := hv
            go_simp
            refine hK _ ?_
            clear hK K s1
            repeat (apply wpT_pure (by rfl); (intro K s; go_simp; exact id))
            refine wpT_made (by rfl) (by kernel_rfl) (fun s hs => ?_) (fun v hv K hK => ?_)
            · go_simp
              have e1 := HF.out.1.cut
              have e2 := HF.out.2
              refine (next_any s.val b F4 k5 (SnkAt.later H5.out.one s.keep) (by omega)).mono ?_
              rintro e w' ⟨j, rfl, g1, g2, hk⟩
              exact ⟨by rw [HD.out.2.2.2, next_eq HF.out.1.ok g1 g2], hk⟩
            obtain ⟨s1, -, rfl⟩ := hv
            go_simp
            refine hK _ ?_
            clear hK K s1
            repeat (apply wpT_pure (by rfl); (intro K s; go_simp; exact id))
            refine wpT_made (by rfl) (by kernel_rfl) (fun s hs => ?_) (fun v hv K hK => ?_)
            · go_simp
              have e1 := HF.out.1.cut
              have e2 := HF.out.2
              refine (rnext_any s.val c G5 k5 (H5.out.two.later s.keep) (by omega)).mono ?_
              rintro e w' ⟨j, rfl, g1, g2, hk⟩
              exact ⟨by rw [HD.out.2.2.2, next_eq HF.out.1.ok g1 g2], hk⟩
            obtain ⟨s1, -, rfl⟩ := hv
            go_simp
            refine hK _ ?_
            clear hK K s1
            repeat (apply wpT_pure (by rfl); (intro K s; go_simp; exact id))
            refine wpT_made (by rfl) (by kernel_rfl) (fun s hs => ?_) (fun v hv K hK => ?_)
            · go_simp
              refine (held_any s.val b F4 k5 (SnkAt.later H5.out.one s.keep)).mono ?_
              rintro e w' ⟨rfl, rfl⟩
              exact ⟨by rw [HD.out.2.1], Keep.refl _ _⟩
            obtain ⟨s1, -, rfl⟩ := hv
            go_simp
            refine hK _ ?_
            clear hK K s1
            repeat (apply wpT_pure (by rfl); (intro K s; go_simp; exact id))
            refine wpT_made (by rfl) (by kernel_rfl) (fun s hs => ?_) (fun v hv K hK => ?_)
            · go_simp
              have e2 := HF.out.2
              refine (pairs_any s.val b F4 k5 (SnkAt.later H5.out.one s.keep) (by have := layAll_len k5.done; omega) HF.out.1.keys).mono ?_
              rintro e w' ⟨v, rfl, hr, hk, ho⟩
              exact ⟨v, rfl, hk, hr⟩
            obtain ⟨s1, -, hr1⟩ := hv
            obtain ⟨ap, cp, rfl, -⟩ := hr1.form
            go_simp
            refine hK _ ?_
            clear hK K hr1 s1
            repeat (apply wpT_pure (by rfl); (intro K s; go_simp; exact id))
            refine wpT_made (by rfl) (by kernel_rfl) (fun s hs => ?_) (fun v hv K hK => ?_)
            · go_simp
              have e2 := HF.out.2
              have hrw := HI.out.done.keep s.keep (fun _ _ x => x)
              rw [← HD.out.1] at hrw
              have hct := HF.out.1.cut
              have hrp := rpairs_any s.val _ _ nd ct k5.done hrw HD.out.1 (by have := HD.out.1; omega) (by have := HD.out.2.2.1; omega)
              rw [HD.out.2.2.1, HF.out.1.upTo] at hrp
              rw [HD.out.2.2.1]
              refine hrp.mono ?_
              rintro e w' ⟨v, rfl, hr, hk, ho⟩
              exact ⟨v, rfl, hk, hr⟩
            obtain ⟨s1, -, hr1⟩ := hv
            obtain ⟨ap2, cp2, rfl, -⟩ := hr1.form
            go_simp
            refine hK _ ?_
            clear hK K hr1 s1
            repeat (apply wpT_pure (by rfl); (intro K s; go_simp; exact id))
            refine wpT_made (by rfl) (by kernel_rfl) (fun s hs => ?_) (fun v hv K hK => ?_)
            · go_simp
              have r1 := hs (31, fun w' => Row w' 72 2 (.slice ap (layAll k5.done).length cp) (layAll k5.done).length (prsV (layAll k5.done))) (by simp) (by kernel_rfl)
              have r2 := hs (40, fun w' => Row w' 72 2 (.slice ap2 (layAll k5.done).length cp2) (layAll k5.done).length (prsV (layAll k5.done))) (by simp) (by kernel_rfl)
              refine (same_prs s.val _ _ _ _ (layAll k5.done) r1 r2).mono ?_
              rintro e w' ⟨rfl, hk⟩
              exact ⟨by simp, hk⟩
            obtain ⟨s1, -, rfl⟩ := hv
            go_simp
            refine hK _ ?_
            clear hK K s1
            repeat (apply wpT_pure (by rfl); (intro K s; go_simp; exact id))
            refine wpT_nil fun s _ => ?_
            have HU := hid (show SinksRel W b c (i + 1) s.val from ⟨k5, F4, G5, H5.out.later (SnkT.lives _ _) (RSnkT.lives _ _) s.keep, HF.out⟩)
            clear j0 j1 j2
            go_wp2_with (at_builtin; refine stopAt ?_; intro q hq)
            exact ⟨⟨i + 1, by omega, by omega, by go_num, HU⟩, by simp [intOf]; omega⟩
        · have q2 : decide ((i : Int) < 150) = false := by simp; omega
          go_wp2_with (at_builtin; refine stopAt ?_; intro q hq)
          go_meet
          exact hid ⟨_, HS.out⟩
      · have q1 : decide ((i : Int) < m) = false := by simp; omega
        go_wp2_with (at_builtin; refine stopAt ?_; intro q hq)
        go_meet
        exact hid ⟨_, HS.out⟩
  case rest =>
    have HQ : Hid (∃ i, SinksRel W b c i wc) := hcut
    clear hcut
    go_wp2_with (at_builtin; refine stopAt ?_; intro q hq)
    refine (known_any wc).mono ?_
    rintro e w4 ⟨rfl, hk4⟩
    have HK : Hid (Keep (fun _ => False) W w4) := hid (by
      obtain ⟨i, ⟨k, F, G, hT, _⟩⟩ := HQ.out
      exact hT.keep.next hk4 (fun _ _ x => x) (fun _ _ x => x))
    clear hk4
    go_wp2_with (at_builtin; refine stopAt ?_; intro q hq)
    go_ret
    exact ⟨rfl, HK.out⟩
end Go.Proofs.Ytiilondhppipnaa
/- MirrorSources' walk: the program's source and the document's are asked the same. Conditions: none. -/
namespace Go.Proofs.Ytiilondhppipnaa
open Go.ChangeShapes Go.WideShapes Go.RowKit Go.Deep
open MI

/-- A cell of a row is set. -/
theorem row_set {w : World} {e : TypeId} {size g n cap : Nat} {xs : List Value} (h : Row w e size (.slice (some ⟨g, 0, none⟩) n cap) n xs) (j : Nat) (u : Value) :
    Row (w.setCell ⟨g, j, none⟩ u) e size (.slice (some ⟨g, 0, none⟩) n cap) n (xs.set j u) := by
  obtain ⟨h0, h⟩ := h
  rcases h with ⟨hv, _⟩ | ⟨g', cap', cur, fz, hv, hg, hf, h1, h2, h3, h4⟩
  · cases hv
  · cases hv
    refine ⟨by simpa using h0, .inr ⟨g, cap, cur.setIfInBounds j u, fz, rfl, ?_, by simpa using hf, h1, h2, by simpa using h3, ?_⟩⟩
    · simp [World.setCell]
      rw [Array.getElem?_modify]
      simp [hg]
    · rw [← h4]
      simp only [Array.toList_setIfInBounds]
      rw [List.take_set]

theorem MI.radd_do {s : Src} {A : List It} (c : Ch) : (radd s A c false).1 = (s.do_ c).1 ∧ (radd s A c false).2.2 = (s.do_ c).2 ∧ (radd s A c false).2.1.length ≤ A.length + 1 := by
  unfold radd Src.do_ Src.add rightI
  simp only
  by_cases h : rightC c = true <;> by_cases h2 : 4096 ≤ s.l.length <;> simp [h, h2]
theorem MI.radd_mark {s : Src} {A : List It} : (radd s A Ch.zero true).1 = s.mark.1 ∧ (radd s A Ch.zero true).2.2 = s.mark.2 ∧ (radd s A Ch.zero true).2.1.length ≤ A.length + 1 := by
  unfold radd Src.mark Src.add rightI
  simp only
  by_cases h2 : 4096 ≤ s.l.length <;> simp [h2]

theorem cells6 {w : World} {b : Nat} {T : TypeId} {a0 a1 a2 a3 a4 a5 : Value} (H : w.heap[b]? = some (.cells #[a0, a1, a2, a3, a4, a5] T (0, 0))) :
    w.cell? ⟨b, 0, none⟩ = some a0 ∧ w.cell? ⟨b, 1, none⟩ = some a1 ∧ w.cell? ⟨b, 2, none⟩ = some a2 ∧ w.cell? ⟨b, 3, none⟩ = some a3 ∧ w.cell? ⟨b, 4, none⟩ = some a4 ∧ w.cell? ⟨b, 5, none⟩ = some a5 ∧ (∀ o, w.frozen? ⟨b, o, none⟩ = false) ∧ b < w.heap.size := by
  refine ⟨?_, ?_, ?_, ?_, ?_, ?_, ?_, heap_lt H⟩ <;> simp [World.cell?, World.frozen?, H]

structure SrcsRel (W : World) (a c : Nat) (i : Nat) (wr : World) : Prop where
  ex : ∃ s A F G, Two W (SrcT a s) F (RSrcT c s A) G wr ∧ A.length ≤ i
theorem rsrc_new (w : World) : RSrcAt (w.alloc (.cells #[.slice none 0 0, .int .i64 0] 58)) w.heap.size (fun i => i = w.heap.size) Src.new [] := by
  refine ⟨.slice none 0 0, heap_alloc_new w _, Row.nil _ _ _, rfl, fun i e => by simp [Value.ownBlock] at e, fun i e => ?_, Whole.new⟩
  rw [e]
  exact heap_lt (heap_alloc_new w _)

set_option maxRecDepth 20000 in
set_option maxHeartbeats 4000000 in
theorem sources_walk (W : World) (v : Value) (l : List MAct) (hl : SliceOf W 6 MActR v l) :
    Calls Try.prog 7 #[v] W fun e w' => e = .returned (.bool true) ∧ Keep (fun _ => False) W w' := by
  obtain ⟨ao, cc, rfl, hcc, hcm⟩ := hl.form
  obtain ⟨m, hm⟩ : ∃ m, m = l.length := ⟨_, rfl⟩
  rw [← hm] at hl hcc ⊢
  have HM := hid hm
  have HL := hid hl
  have hm63 : (m : Int) ≤ 9223372036854775807 := by unfold maxLen at hcm; omega
  clear hl hm
  go_enter Try.func7, Try.ntmps7
  go_wp2_with (at_builtin; refine stopAt ?_; intro q hq)
  refine (newSource_any W).mono ?_
  rintro e w1 ⟨a, F, rfl, hs, hk1, hF⟩
  have H1 := hid (And.intro hs (And.intro hk1 hF))
  clear hs hk1 hF
  go_upto_block 0 with fail
  obtain ⟨c, hc⟩ : ∃ c, c = w1.heap.size := ⟨_, rfl⟩
  have hr := rsrc_new w1
  have hk2 : Keep (fun _ => False) w1 (w1.alloc (.cells #[.slice none 0 0, .int .i64 0] 58)) := (Keep.refl _ _).alloc _
  obtain ⟨w2, hw2⟩ : ∃ w2, w2 = w1.alloc (.cells #[.slice none 0 0, .int .i64 0] 58) := ⟨_, rfl⟩
  rw [← hw2, ← hc] at hr
  rw [← hw2] at hk2 ⊢
  rw [← hc]
  have HS := hid (show SrcsRel W a c 0 w2 from ⟨Src.new, [], F, _, Two.make H1.out.1 H1.out.2.2 H1.out.2.1 (SrcT.lives _ _) hr (fun i e => by rw [e, hc]; exact Nat.le_refl _) hk2, Nat.le_refl _⟩)
  clear hr hk2 hw2 hc H1
  go_cut [5] (fun s5 wx => Hid (∃ i, i ≤ 150 ∧ SrcsRel W a c i wx))
  case first =>
    go_wp2_with (at_builtin; refine stopAt ?_; intro q hq)
    go_loopw [5] (fun iv wr => ∃ i : Nat, i ≤ m ∧ i ≤ 150 ∧ iv = .int .i64 i ∧ Hid (SrcsRel W a c i wr)) (fun iv _ => m - (intOf iv).toNat)
    case atStart => exact ⟨0, Nat.zero_le _, Nat.zero_le _, rfl, HS⟩
    case round =>
      clear HS
      obtain ⟨i, hi, hi2, rfl, HS⟩ := hrel
      by_cases h1 : i < m
      · have q1 : (i : Int) < m := by omega
        by_cases h2 : i < 150
        · have q2 : (i : Int) < 150 := by omega
          obtain ⟨s, A, F, G, hT, hlen⟩ := HS.out.ex
          have hiL : i < l.length := by rw [← HM.out]; exact h1
          obtain ⟨ad, cs, rfl, -, ⟨rfl, hco, hseq, hkd, hmo⟩, e0, ej⟩ := HL.out.at (Keep.refl _ _) i hiL
          obtain ⟨x, hx⟩ : ∃ x, x = l[i] := ⟨_, rfl⟩
          rw [← hx] at hco hseq hkd hmo e0 ej
          have HX := hid (And.intro hT (And.intro hlen (And.intro hco (And.intro hseq (And.intro hkd hmo)))))
          have a0 := cell_old hT.keep _ _ (e0 _ rfl)
          have a1 := cell_old hT.keep _ _ (ej 1 _ (by decide) rfl)
          have a2 := cell_old hT.keep _ _ (ej 2 _ (by decide) rfl)
          have a3 := cell_old hT.keep _ _ (ej 3 _ (by decide) rfl)
          have a4 := cell_old hT.keep _ _ (ej 4 _ (by decide) rfl)
          have a5 := cell_old hT.keep _ _ (ej 5 _ (by decide) rfl)
          clear hx e0 ej hT hlen hco hseq hkd hmo
          go_wp2_with (at_builtin; refine stopAt ?_; intro q hq)
          clear a0 a1 a2 a3 a4 a5
          have hkA : Keep (fun _ => False) wr (wr.alloc (.cells #[.int .i64 x.kind, .string (str x.ch.key), .string (str x.ch.value), .bool x.ch.gone, .int .u64 (x.seq : Int), .int .i64 x.most] 60)) := (Keep.refl _ _).alloc _
          have hnA := heap_alloc_new wr (.cells #[.int .i64 x.kind, .string (str x.ch.key), .string (str x.ch.value), .bool x.ch.gone, .int .u64 (x.seq : Int), .int .i64 x.most] 60)
          obtain ⟨w3, hw3⟩ : ∃ w3, w3 = wr.alloc (.cells #[.int .i64 x.kind, .string (str x.ch.key), .string (str x.ch.value), .bool x.ch.gone, .int .u64 (x.seq : Int), .int .i64 x.most] 60) := ⟨_, rfl⟩
          rw [← hw3] at hkA hnA ⊢
          clear hw3
          obtain ⟨gb, hgb⟩ : ∃ gb, gb = wr.heap.size := ⟨_, rfl⟩
          rw [← hgb] at hnA ⊢
          have H3 := hid (HX.out.1.later (SrcT.lives _ _) (RSrcT.lives _ _ _) hkA)
          have HN3 := hid hnA
          have hgnew : W.heap.size ≤ gb := by rw [hgb]; exact HX.out.1.keep.size
          have hgF : ¬ F gb := fun x => by have := (SrcT.lives _ _).lt HX.out.1.one gb x; omega
          have hgG : ¬ G gb := fun x => by have := (RSrcT.lives _ _ _).lt HX.out.1.two gb x; omega
          have HG := hid (And.intro hgnew (And.intro hgF hgG))
          clear hkA hnA hgb hgnew hgF hgG
          refine (long_any w3 x.ch HX.out.2.2.1).mono ?_
          rintro e w4 ⟨rfl, hk4⟩
          have H4 := hid (H3.out.later (SrcT.lives _ _) (RSrcT.lives _ _ _) hk4)
          have HN4 := hid (hk4.get HN3.out id)
          clear hk4 H3 HN3
          obtain ⟨lg, hlg⟩ : ∃ lg, lg = (decide (1000 < x.ch.key.length) || decide (1000 < x.ch.value.length)) := ⟨_, rfl⟩
          rw [← hlg]
          clear hlg
          cases lg with
          | true =>
            go_wp2_with (at_builtin; refine stopAt ?_; intro q hq)
            refine (known_any w4).mono ?_
            rintro e w5 ⟨rfl, hk5⟩
            have HK := hid (H4.out.keep.next hk5 (fun _ _ x => x) (fun _ _ x => x))
            clear hk5
            go_wp2_with (at_builtin; refine stopAt ?_; intro q hq)
            go_ret
            exact ⟨rfl, HK.out⟩
          | false =>
            obtain ⟨j0, j1, j2, j3, j4, j5, jf, jb⟩ := cells6 HN4.out
            have hbnd : s.last < 4611686018427387904 := by
              obtain ⟨_, hI⟩ := HX.out.1.two
              have := hI.whole.len
              have := HX.out.2.1
              omega
            have HB := hid hbnd
            clear hbnd
            go_upto_block 2 with fail
            go_cut [] (fun wx => Hid (SrcsRel W a c (i + 1) wx))
            case first =>
              have hkk : x.kind = 0 ∨ x.kind = 1 ∨ x.kind = 2 ∨ x.kind = 3 ∨ x.kind = 4 ∨ x.kind = 5 ∨ (x.kind ≠ 0 ∧ x.kind ≠ 1 ∧ x.kind ≠ 2 ∧ x.kind ≠ 3 ∧ x.kind ≠ 4 ∧ x.kind ≠ 5) := by omega
              rcases hkk with hk | hk | hk | hk | hk | hk | hk
              · have e0 : decide (x.kind = 0) = true := by rw [hk]; decide
                have g0 : (x.kind == 0) = true := by rw [hk]; decide
                have e1 : decide (x.kind = 1) = false := by rw [hk]; decide
                have g1 : (x.kind == 1) = false := by rw [hk]; decide
                have e2 : decide (x.kind = 2) = false := by rw [hk]; decide
                have g2 : (x.kind == 2) = false := by rw [hk]; decide
                have e3 : decide (x.kind = 3) = false := by rw [hk]; decide
                have g3 : (x.kind == 3) = false := by rw [hk]; decide
                have e4 : decide (x.kind = 4) = false := by rw [hk]; decide
                have g4 : (x.kind == 4) = false := by rw [hk]; decide
                have e5 : decide (x.kind = 5) = false := by rw [hk]; decide
                have g5 : (x.kind == 5) = false := by rw [hk]; decide
                have Hkk := hid hk
                clear hk
                go_wp2_with (at_builtin; refine stopAt ?_; intro q hq)
                clear j0 j1 j2 j3 j4 j5 jf jb
                refine (do_any w4 a F s x.ch H4.out.one HB.out).mono ?_
                rintro e w5 ⟨rfl, ht⟩
                have hn5 := ht.choose_spec.2.1.get HN4.out HG.out.2.1
                obtain ⟨F5, H5⟩ := H4.out.turn1 (RSrcT.lives _ _ _) (T' := SrcT a (s.do_ x.ch).1) ht
                have H5 := hid H5
                obtain ⟨j0, j1, j2, j3, j4, j5, jf, jb⟩ := cells6 hn5
                clear ht hn5
                go_wp2_with (at_builtin; refine stopAt ?_; intro q hq)
                clear j0 j1 j2 j3 j4 j5 jf jb
                have hra := radd_do (s := s) (A := A) x.ch
                refine (radd_any w5 c G s A x.ch false H5.out.two (by have := HX.out.2.1; omega)).mono ?_
                rintro e w6 ⟨rfl, ht⟩
                obtain ⟨G6, H6⟩ := H5.out.turn2 (SrcT.lives _ _) (U' := RSrcT c (radd s A x.ch false).1 (radd s A x.ch false).2.1) ht
                rw [hra.1] at H6
                rw [hra.2.1]
                obtain ⟨r1, hr1⟩ : ∃ r1, r1 = (s.do_ x.ch).2.1 := ⟨_, rfl⟩
                obtain ⟨r2, hr2⟩ : ∃ r2, r2 = (s.do_ x.ch).2.2 := ⟨_, rfl⟩
                rw [← hr1, ← hr2]
                have H6 := hid (show SrcsRel W a c (i + 1) w6 from ⟨_, _, _, _, H6, by have := HX.out.2.1; omega⟩)
                clear hra hr1 hr2 ht
                go_wp2_with (at_builtin; refine stopAt ?_; intro q hq)
                go_meet
                exact H6
              · have e0 : decide (x.kind = 0) = false := by rw [hk]; decide
                have g0 : (x.kind == 0) = false := by rw [hk]; decide
                have e1 : decide (x.kind = 1) = true := by rw [hk]; decide
                have g1 : (x.kind == 1) = true := by rw [hk]; decide
                have e2 : decide (x.kind = 2) = false := by rw [hk]; decide
                have g2 : (x.kind == 2) = false := by rw [hk]; decide
                have e3 : decide (x.kind = 3) = false := by rw [hk]; decide
                have g3 : (x.kind == 3) = false := by rw [hk]; decide
                have e4 : decide (x.kind = 4) = false := by rw [hk]; decide
                have g4 : (x.kind == 4) = false := by rw [hk]; decide
                have e5 : decide (x.kind = 5) = false := by rw [hk]; decide
                have g5 : (x.kind == 5) = false := by rw [hk]; decide
                have Hkk := hid hk
                clear hk
                go_wp2_with (at_builtin; refine stopAt ?_; intro q hq)
                clear j0 j1 j2 j3 j4 j5 jf jb
                refine (do_any w4 a F s x.ch H4.out.one HB.out).mono ?_
                rintro e w5 ⟨rfl, ht⟩
                have hn5 := ht.choose_spec.2.1.get HN4.out HG.out.2.1
                obtain ⟨F5, H5⟩ := H4.out.turn1 (RSrcT.lives _ _ _) (T' := SrcT a (s.do_ x.ch).1) ht
                have H5 := hid H5
                obtain ⟨j0, j1, j2, j3, j4, j5, jf, jb⟩ := cells6 hn5
                clear ht hn5
                go_wp2_with (at_builtin; refine stopAt ?_; intro q hq)
                clear j0 j1 j2 j3 j4 j5 jf jb
                have hra := radd_do (s := s) (A := A) x.ch
                refine (radd_any w5 c G s A x.ch false H5.out.two (by have := HX.out.2.1; omega)).mono ?_
                rintro e w6 ⟨rfl, ht⟩
                obtain ⟨G6, H6⟩ := H5.out.turn2 (SrcT.lives _ _) (U' := RSrcT c (radd s A x.ch false).1 (radd s A x.ch false).2.1) ht
                rw [hra.1] at H6
                rw [hra.2.1]
                obtain ⟨r1, hr1⟩ : ∃ r1, r1 = (s.do_ x.ch).2.1 := ⟨_, rfl⟩
                obtain ⟨r2, hr2⟩ : ∃ r2, r2 = (s.do_ x.ch).2.2 := ⟨_, rfl⟩
                rw [← hr1, ← hr2]
                have H6 := hid (show SrcsRel W a c (i + 1) w6 from ⟨_, _, _, _, H6, by have := HX.out.2.1; omega⟩)
                clear hra hr1 hr2 ht
                go_wp2_with (at_builtin; refine stopAt ?_; intro q hq)
                go_meet
                exact H6
              · have e0 : decide (x.kind = 0) = false := by rw [hk]; decide
                have g0 : (x.kind == 0) = false := by rw [hk]; decide
                have e1 : decide (x.kind = 1) = false := by rw [hk]; decide
                have g1 : (x.kind == 1) = false := by rw [hk]; decide
                have e2 : decide (x.kind = 2) = true := by rw [hk]; decide
                have g2 : (x.kind == 2) = true := by rw [hk]; decide
                have e3 : decide (x.kind = 3) = false := by rw [hk]; decide
                have g3 : (x.kind == 3) = false := by rw [hk]; decide
                have e4 : decide (x.kind = 4) = false := by rw [hk]; decide
                have g4 : (x.kind == 4) = false := by rw [hk]; decide
                have e5 : decide (x.kind = 5) = false := by rw [hk]; decide
                have g5 : (x.kind == 5) = false := by rw [hk]; decide
                have Hkk := hid hk
                clear hk
                go_wp2_with (at_builtin; refine stopAt ?_; intro q hq)
                clear j0 j1 j2 j3 j4 j5 jf jb
                refine (do_any w4 a F s x.ch H4.out.one HB.out).mono ?_
                rintro e w5 ⟨rfl, ht⟩
                have hn5 := ht.choose_spec.2.1.get HN4.out HG.out.2.1
                obtain ⟨F5, H5⟩ := H4.out.turn1 (RSrcT.lives _ _ _) (T' := SrcT a (s.do_ x.ch).1) ht
                have H5 := hid H5
                obtain ⟨j0, j1, j2, j3, j4, j5, jf, jb⟩ := cells6 hn5
                clear ht hn5
                go_wp2_with (at_builtin; refine stopAt ?_; intro q hq)
                clear j0 j1 j2 j3 j4 j5 jf jb
                have hra := radd_do (s := s) (A := A) x.ch
                refine (radd_any w5 c G s A x.ch false H5.out.two (by have := HX.out.2.1; omega)).mono ?_
                rintro e w6 ⟨rfl, ht⟩
                obtain ⟨G6, H6⟩ := H5.out.turn2 (SrcT.lives _ _) (U' := RSrcT c (radd s A x.ch false).1 (radd s A x.ch false).2.1) ht
                rw [hra.1] at H6
                rw [hra.2.1]
                obtain ⟨r1, hr1⟩ : ∃ r1, r1 = (s.do_ x.ch).2.1 := ⟨_, rfl⟩
                obtain ⟨r2, hr2⟩ : ∃ r2, r2 = (s.do_ x.ch).2.2 := ⟨_, rfl⟩
                rw [← hr1, ← hr2]
                have H6 := hid (show SrcsRel W a c (i + 1) w6 from ⟨_, _, _, _, H6, by have := HX.out.2.1; omega⟩)
                clear hra hr1 hr2 ht
                go_wp2_with (at_builtin; refine stopAt ?_; intro q hq)
                go_meet
                exact H6
              · have e0 : decide (x.kind = 0) = false := by rw [hk]; decide
                have g0 : (x.kind == 0) = false := by rw [hk]; decide
                have e1 : decide (x.kind = 1) = false := by rw [hk]; decide
                have g1 : (x.kind == 1) = false := by rw [hk]; decide
                have e2 : decide (x.kind = 2) = false := by rw [hk]; decide
                have g2 : (x.kind == 2) = false := by rw [hk]; decide
                have e3 : decide (x.kind = 3) = true := by rw [hk]; decide
                have g3 : (x.kind == 3) = true := by rw [hk]; decide
                have e4 : decide (x.kind = 4) = false := by rw [hk]; decide
                have g4 : (x.kind == 4) = false := by rw [hk]; decide
                have e5 : decide (x.kind = 5) = false := by rw [hk]; decide
                have g5 : (x.kind == 5) = false := by rw [hk]; decide
                have Hkk := hid hk
                clear hk
                go_wp2_with (at_builtin; refine stopAt ?_; intro q hq)
                clear j0 j1 j2 j3 j4 j5 jf jb
                refine (mark_any w4 a F s H4.out.one HB.out).mono ?_
                rintro e w5 ⟨rfl, ht⟩
                have hn5 := ht.choose_spec.2.1.get HN4.out HG.out.2.1
                obtain ⟨F5, H5⟩ := H4.out.turn1 (RSrcT.lives _ _ _) (T' := SrcT a s.mark.1) ht
                have H5 := hid H5
                obtain ⟨j0, j1, j2, j3, j4, j5, jf, jb⟩ := cells6 hn5
                clear ht hn5
                go_wp2_with (at_builtin; refine stopAt ?_; intro q hq)
                clear j0 j1 j2 j3 j4 j5 jf jb
                have hra := radd_mark (s := s) (A := A)
                refine (radd_any w5 c G s A Ch.zero true H5.out.two (by have := HX.out.2.1; omega)).mono ?_
                rintro e w6 ⟨rfl, ht⟩
                obtain ⟨G6, H6⟩ := H5.out.turn2 (SrcT.lives _ _) (U' := RSrcT c (radd s A Ch.zero true).1 (radd s A Ch.zero true).2.1) ht
                rw [hra.1] at H6
                rw [hra.2.1]
                obtain ⟨r1, hr1⟩ : ∃ r1, r1 = s.mark.2.1 := ⟨_, rfl⟩
                obtain ⟨r2, hr2⟩ : ∃ r2, r2 = s.mark.2.2 := ⟨_, rfl⟩
                rw [← hr1, ← hr2]
                have H6 := hid (show SrcsRel W a c (i + 1) w6 from ⟨_, _, _, _, H6, by have := HX.out.2.1; omega⟩)
                clear hra hr1 hr2 ht
                go_wp2_with (at_builtin; refine stopAt ?_; intro q hq)
                go_meet
                exact H6
              · have e0 : decide (x.kind = 0) = false := by rw [hk]; decide
                have g0 : (x.kind == 0) = false := by rw [hk]; decide
                have e1 : decide (x.kind = 1) = false := by rw [hk]; decide
                have g1 : (x.kind == 1) = false := by rw [hk]; decide
                have e2 : decide (x.kind = 2) = false := by rw [hk]; decide
                have g2 : (x.kind == 2) = false := by rw [hk]; decide
                have e3 : decide (x.kind = 3) = false := by rw [hk]; decide
                have g3 : (x.kind == 3) = false := by rw [hk]; decide
                have e4 : decide (x.kind = 4) = true := by rw [hk]; decide
                have g4 : (x.kind == 4) = true := by rw [hk]; decide
                have e5 : decide (x.kind = 5) = false := by rw [hk]; decide
                have g5 : (x.kind == 5) = false := by rw [hk]; decide
                have Hkk := hid hk
                clear hk
                go_wp2_with (at_builtin; refine stopAt ?_; intro q hq)
                clear j0 j1 j2 j3 j4 j5 jf jb
                refine (from_any w4 a F s x.seq x.most H4.out.one HB.out (by
                  obtain ⟨_, hI⟩ := HX.out.1.two
                  have := hI.whole.len
                  unfold Src.last at this
                  have := HX.out.2.1
                  omega) HX.out.2.2.2.1 HX.out.2.2.2.2.2).mono ?_
                rintro e w5 ⟨va, rfl, hra, hk5, hoa⟩
                obtain ⟨o, ho⟩ : ∃ o, o = s.from_ x.seq x.most := ⟨_, rfl⟩
                rw [← ho] at hra
                have Ho := hid ho
                clear ho
                obtain ⟨aa, ca, rfl, -⟩ := hra.form
                have H5 := hid (And.intro (H4.out.later (SrcT.lives _ _) (RSrcT.lives _ _ _) hk5) (And.intro hra hoa))
                obtain ⟨j0, j1, j2, j3, j4, j5, jf, jb⟩ := cells6 (hk5.get HN4.out id)
                clear hra hoa hk5
                go_wp2_with (at_builtin; refine stopAt ?_; intro q hq)
                clear j0 j1 j2 j3 j4 j5 jf jb
                refine (rfrom_any w5 c G s A x.seq x.most H5.out.1.two (by have := HX.out.2.1; omega) HX.out.2.2.2.1 HX.out.2.2.2.2.2).mono ?_
                rintro e w6 ⟨vb, rfl, hrb, hk6, -⟩
                rw [← Ho.out] at hrb
                obtain ⟨ab, cb, rfl, -⟩ := hrb.form
                have H6 := hid (And.intro (H5.out.1.later (SrcT.lives _ _) (RSrcT.lives _ _ _) hk6) (And.intro (H5.out.2.1.keep hk6 (fun _ _ x => x)) hrb))
                clear hrb hk6
                go_wp2_with (at_builtin; refine stopAt ?_; intro q hq)
                refine (same_its w6 aa ab ca cb o H6.out.2.1 H6.out.2.2).mono ?_
                rintro e w7 ⟨rfl, hk7⟩
                have H7 := hid (And.intro (H6.out.1.later (SrcT.lives _ _) (RSrcT.lives _ _ _) hk7) (H6.out.2.1.keep hk7 (fun _ _ x => x)))
                clear hk7
                have hn63 : (o.length : Int) ≤ 9223372036854775807 := by obtain ⟨_, _, _, x1, x2, _⟩ := H7.out.2.form; unfold maxLen at x2; omega
                have hown : ∀ j, (Value.slice aa o.length ca).ownBlock = some j → ¬ F j ∧ ¬ G j ∧ W.heap.size ≤ j := fun j e => by
                  have h1 := H5.out.2.2 j e
                  refine ⟨fun x => ?_, fun x => ?_, Nat.le_trans H4.out.keep.size h1⟩
                  · have := (SrcT.lives _ _).lt H4.out.one j x; omega
                  · have := (RSrcT.lives _ _ _).lt H4.out.two j x; omega
                have HO := hid hown
                obtain ⟨n, hn⟩ : ∃ n, n = o.length := ⟨_, rfl⟩
                rw [← hn] at H7 HO hn63 ⊢
                have H8 := hid (show Keep (fun j => (Value.slice aa n ca).ownBlock = some j) w7 w7 ∧ ∃ xs, Row w7 33 5 (.slice aa n ca) n xs from ⟨Keep.refl _ _, _, H7.out.2⟩)
                have HS7 := hid H7.out.1
                clear hown hn H7 H6 H5
                go_wp2_with (at_builtin; refine stopAt ?_; intro q hq)
                go_loopw [16] (fun kv wr' => ∃ q : Nat, q ≤ n ∧ kv = .int .i64 (q : Int) ∧ Hid (Keep (fun j => (Value.slice aa n ca).ownBlock = some j) w7 wr' ∧ ∃ xs, Row wr' 33 5 (.slice aa n ca) n xs)) (fun kv _ => n - (intOf kv).toNat)
                case atStart => exact ⟨0, Nat.zero_le _, rfl, H8⟩
                case round =>
                  clear H8
                  obtain ⟨q, hqn, rfl, HQ⟩ := hrel
                  by_cases hq : q < n
                  · have h4 : (q : Int) < n := by omega
                    obtain ⟨xs, hrq⟩ := HQ.out.2
                    obtain ⟨g, cg, cur, fz, hgv, -⟩ := hrq.some (by omega)
                    cases hgv
                    have hfz := hrq.frozen (q * 5) (show q * 5 < n * 5 by omega)
                    have hcl := hrq.cell (q * 5) (show q * 5 < n * 5 by omega)
                    have hxl := hrq.len
                    obtain ⟨u, hu⟩ : ∃ u, xs[q * 5]? = some u := ⟨_, List.getElem?_eq_getElem (by omega)⟩
                    rw [hu] at hcl
                    have HR := hid hrq
                    clear hrq hxl hu
                    go_wp2_with (at_builtin; refine stopAt ?_; intro q hq)
                    have hk2 : Keep (fun j => (Value.slice (some ⟨g, 0, none⟩) n ca).ownBlock = some j) wr (wr.setCell ⟨g, q * 5, none⟩ (.int .u64 99)) := by
                      refine Keep.setCell (Keep.refl _ _) (.inl ?_) _; rfl
                    exact ⟨⟨q + 1, by omega, by go_num, hid ⟨HQ.out.1.next hk2 (fun _ _ x => x) (fun _ _ x => x), _, row_set HR.out (q * 5) (.int .u64 99)⟩⟩, by simp [intOf]; omega⟩
                  · have h4 : decide ((q : Int) < n) = false := by simp; omega
                    go_wp2_with (at_builtin; refine stopAt ?_; intro q hq)
                    go_meet
                    exact hid ⟨s, A, F, G, HS7.out.step (SrcT.lives _ _) (RSrcT.lives _ _ _) HQ.out.1 HO.out, by have := HX.out.2.1; omega⟩
              · have e0 : decide (x.kind = 0) = false := by rw [hk]; decide
                have g0 : (x.kind == 0) = false := by rw [hk]; decide
                have e1 : decide (x.kind = 1) = false := by rw [hk]; decide
                have g1 : (x.kind == 1) = false := by rw [hk]; decide
                have e2 : decide (x.kind = 2) = false := by rw [hk]; decide
                have g2 : (x.kind == 2) = false := by rw [hk]; decide
                have e3 : decide (x.kind = 3) = false := by rw [hk]; decide
                have g3 : (x.kind == 3) = false := by rw [hk]; decide
                have e4 : decide (x.kind = 4) = false := by rw [hk]; decide
                have g4 : (x.kind == 4) = false := by rw [hk]; decide
                have e5 : decide (x.kind = 5) = true := by rw [hk]; decide
                have g5 : (x.kind == 5) = true := by rw [hk]; decide
                have Hkk := hid hk
                clear hk
                go_wp2_with (at_builtin; refine stopAt ?_; intro q hq)
                clear j0 j1 j2 j3 j4 j5 jf jb
                refine (trim_any w4 a F s x.seq H4.out.one HB.out (by
                  obtain ⟨_, hI⟩ := HX.out.1.two
                  have := hI.whole.len
                  unfold Src.last at this
                  have := HX.out.2.1
                  omega) HX.out.2.2.2.1).mono ?_
                rintro e w5 ⟨rfl, ht⟩
                have hn5 := ht.choose_spec.2.1.get HN4.out HG.out.2.1
                obtain ⟨F5, H5⟩ := H4.out.turn1 (RSrcT.lives _ _ _) (T' := SrcT a (s.trim x.seq).1) ht
                have H5 := hid H5
                obtain ⟨j0, j1, j2, j3, j4, j5, jf, jb⟩ := cells6 hn5
                clear ht hn5
                go_wp2_with (at_builtin; refine stopAt ?_; intro q hq)
                clear j0 j1 j2 j3 j4 j5 jf jb
                refine (rtrim_any w5 c G s A x.seq H5.out.two (by have := HX.out.2.1; omega) HX.out.2.2.2.1).mono ?_
                rintro e w6 ⟨rfl, ht⟩
                obtain ⟨G6, H6⟩ := H5.out.turn2 (SrcT.lives _ _) (U' := RSrcT c (s.trim x.seq).1 A) ht
                obtain ⟨r2, hr2⟩ : ∃ r2, r2 = (s.trim x.seq).2 := ⟨_, rfl⟩
                rw [← hr2]
                have H6 := hid (show SrcsRel W a c (i + 1) w6 from ⟨_, _, _, _, H6, by have := HX.out.2.1; omega⟩)
                clear hr2 ht
                go_wp2_with (at_builtin; refine stopAt ?_; intro q hq)
                go_meet
                exact H6
              · have e0 : decide (x.kind = 0) = false := by simp; omega
                have g0 : (x.kind == 0) = false := by simp; omega
                have e1 : decide (x.kind = 1) = false := by simp; omega
                have g1 : (x.kind == 1) = false := by simp; omega
                have e2 : decide (x.kind = 2) = false := by simp; omega
                have g2 : (x.kind == 2) = false := by simp; omega
                have e3 : decide (x.kind = 3) = false := by simp; omega
                have g3 : (x.kind == 3) = false := by simp; omega
                have e4 : decide (x.kind = 4) = false := by simp; omega
                have g4 : (x.kind == 4) = false := by simp; omega
                have e5 : decide (x.kind = 5) = false := by simp; omega
                have g5 : (x.kind == 5) = false := by simp; omega
                have Hkk := hid hk
                clear hk
                go_wp2_with (at_builtin; refine stopAt ?_; intro q hq)
                go_meet
                obtain ⟨sA, sB, sC, sD, sE, sF⟩ := HX.out
                exact hid ⟨s, A, F, G, H4.out, by omega⟩
            case rest =>
              have HC : Hid (SrcsRel W a c (i + 1) wc) := hcut
              clear hcut
              obtain ⟨s', A', F', G', hT', hl'⟩ := HC.out.ex
              obtain ⟨vr, hI⟩ := hT'.two
              have hwl := hI.whole.len
              obtain ⟨ar, cr, rfl, -⟩ := hI.row.form
              obtain ⟨i0, i1, if0, ib0⟩ := cells2i hI.head
              obtain ⟨N, hN⟩ : ∃ N, N = A'.length := ⟨_, rfl⟩
              rw [← hN] at i0 hwl hl'
              have hla := last_any wc a F' s' hT'.one (by omega)
              rw [← hwl] at hla
              have HLa := hid (fun s : Later wc => by
                have h := last_any s.val a F' s' ((SrcT.lives _ _).keep hT'.one s.keep (fun _ _ x => x)) (by omega)
                rw [← hwl] at h
                exact h)
              have HT' := hid hT'
              have wN1 : IntKind.u64.wrap (N : Int) = (N : Int) := wrapU64 _ (by omega)
              have HNN := hid hN
              clear hla hI hT' hwl hN
              go_wp2_with (at_builtin; refine stopAt ?_; intro q hq)
              have k0 := fun s : Later wc => s.cell i0
              have k1 := fun s : Later wc => s.cell i1
              clear i0 i1 if0 ib0
              (refine wp_region_later (by kernel_rfl) (by kernel_rfl) ?_; (repeat (go_big_quiet_step ((go_at_call 33; exact Later.call (HLa.out _))))); refine wpQuiet_nil ?_; rintro _ ⟨sq, rfl⟩)
              have HU := hid (show SrcsRel W a c (i + 1) sq.val from ⟨s', A', F', G', HT'.out.later (SrcT.lives _ _) (RSrcT.lives _ _ _) sq.keep, by have := HNN.out; omega⟩)
              clear k0 k1
              go_wp2_with (at_builtin; refine stopAt ?_; intro q hq)
              exact ⟨⟨i + 1, by omega, by omega, by go_num, HU⟩, by simp [intOf]; omega⟩
        · have q2 : decide ((i : Int) < 150) = false := by simp; omega
          go_wp2_with (at_builtin; refine stopAt ?_; intro q hq)
          go_meet
          exact hid ⟨_, hi2, HS.out⟩
      · have q1 : decide ((i : Int) < m) = false := by simp; omega
        go_wp2_with (at_builtin; refine stopAt ?_; intro q hq)
        go_meet
        exact hid ⟨_, hi2, HS.out⟩
  case rest =>
    have HC : Hid (∃ i, i ≤ 150 ∧ SrcsRel W a c i wc) := hcut
    clear hcut
    obtain ⟨i, hi, s, A, F, G, hT, hlen⟩ := HC.out
    have hb : s.last < 4611686018427387904 ∧ s.l.length ≤ 1000000 := by
      obtain ⟨_, hI⟩ := hT.two
      have := hI.whole.len
      unfold Src.last at *
      omega
    have HT := hid (And.intro hT hb)
    have hA : A.length ≤ 1000000 := by omega
    clear hT hb
    go_wp2_with (at_builtin; refine stopAt ?_; intro q hq)
    refine (from_any wc a F s 0 1000 HT.out.1.one HT.out.2.1 HT.out.2.2 (by decide) (by decide)).mono ?_
    rintro e w5 ⟨va, rfl, hra, hk5, hoa⟩
    obtain ⟨aa, ca, rfl, -⟩ := hra.form
    have H5 := hid (And.intro (HT.out.1.later (SrcT.lives _ _) (RSrcT.lives _ _ _) hk5) hra)
    clear hra hk5 hoa
    go_wp2_with (at_builtin; refine stopAt ?_; intro q hq)
    refine (rfrom_any w5 c G s A 0 1000 H5.out.1.two hA (by decide) (by decide)).mono ?_
    rintro e w6 ⟨vb, rfl, hrb, hk6, -⟩
    obtain ⟨ab, cb, rfl, -⟩ := hrb.form
    have H6 := hid (And.intro (H5.out.1.keep.next hk6 (fun _ _ x => x) (fun _ _ x => x)) (And.intro (H5.out.2.keep hk6 (fun _ _ x => x)) hrb))
    clear hrb hk6
    go_wp2_with (at_builtin; refine stopAt ?_; intro q hq)
    refine (same_its w6 aa ab ca cb _ H6.out.2.1 H6.out.2.2).mono ?_
    rintro e w7 ⟨rfl, hk7⟩
    have H7 := hid (H6.out.1.next hk7 (fun _ _ x => x) (fun _ _ x => x))
    clear hk7
    go_wp2_with (at_builtin; refine stopAt ?_; intro q hq)
    refine (known_any w7).mono ?_
    rintro e w8 ⟨rfl, hk8⟩
    have HK := hid (H7.out.next hk8 (fun _ _ x => x) (fun _ _ x => x))
    clear hk8
    go_wp2_with (at_builtin; refine stopAt ?_; intro q hq)
    go_ret
    exact ⟨rfl, HK.out⟩
end Go.Proofs.Ytiilondhppipnaa
/- What a sink comes to that takes the items of one row, in whatever order: plain. Conditions: as each law names them. -/
namespace Go.Proofs.Ytiilondhppipnaa
namespace MI

/-- Items as a source makes them. -/
structure GoodI (I : List It) : Prop where
  seq : ∀ i (h : i < I.length), I[i].seq = i + 1
  right : ∀ i ∈ I, rightI i = true
  few : I.length ≤ 400

theorem GoodI.upTo {I : List It} (h : GoodI I) (c : Nat) : upTo I c = I.take c := by
  have : ∀ (l : List It) (b : Nat), (∀ i (h : i < l.length), l[i].seq = b + i + 1) → l.filter (fun i => decide (i.seq ≤ c)) = l.take (c - b) := by
    intro l
    induction l with
    | nil => intro b _; simp
    | cons x l ih =>
      intro b hx
      have h0 := hx 0 (by simp)
      simp only [List.getElem_cons_zero] at h0
      have ih' := ih (b + 1) (fun i hi => by have := hx (i + 1) (by simpa using hi); simp only [List.getElem_cons_succ] at this; omega)
      rw [List.filter_cons]
      by_cases hc : x.seq ≤ c
      · rw [if_pos (by simpa using hc), ih', show c - b = (c - (b + 1)) + 1 by omega, List.take_succ_cons]
      · rw [if_neg (by simpa using hc), ih', show c - b = 0 by omega, show c - (b + 1) = 0 by omega]
        simp
  have h2 := this I 0 (fun i hi => by rw [h.seq i hi]; omega)
  simpa [MI.upTo] using h2

structure Sub (I : List It) (k : Snk) : Prop where
  fine : Fine k
  le : k.cut ≤ I.length
  done : k.done = I.take k.cut
  held : ∀ n o, AL.get k.held n = some o → I[n - 1]? = some o
  mark : k.cut = 0 ∨ ∃ o, I[k.cut - 1]? = some o ∧ o.mark = true
  settled : ∀ j, (∀ i, i ≤ j → (AL.get k.held (k.cut + 1 + i)).isSome = true) → ∀ o, AL.get k.held (k.cut + 1 + j) = some o → o.mark = false
theorem Sub.new (I : List It) : Sub I Snk.new := ⟨Fine.new, Nat.zero_le _, rfl, fun _ _ h => (by cases h), .inl rfl, fun _ _ _ h => (by cases h)⟩

def Has (k : Snk) (n : Nat) : Prop := n ≤ k.cut ∨ (AL.get k.held n).isSome = true

theorem lastMark_is (h : List (Nat × It)) (c : Nat) : ∀ n, lastMark h c n = c ∨ ∃ o, AL.get h (lastMark h c n) = some o ∧ o.mark = true
  | 0 => .inl rfl
  | n + 1 => by
    unfold lastMark
    by_cases hm : ((AL.get h (c + n + 1)).map It.mark).getD false = true
    · rw [if_pos hm]
      cases hg : AL.get h (c + n + 1) with
      | none => rw [hg] at hm; cases hm
      | some o => rw [hg] at hm; exact .inr ⟨o, rfl, hm⟩
    · rw [if_neg hm]; exact lastMark_is h c n
theorem lastMark_max (h : List (Nat × It)) (c : Nat) : ∀ n m, lastMark h c n < m → m ≤ c + n → ∀ o, AL.get h m = some o → o.mark = false
  | 0, m, h1, h2, o, _ => by unfold lastMark at h1; omega
  | n + 1, m, h1, h2, o, ho => by
    unfold lastMark at h1
    by_cases hm : ((AL.get h (c + n + 1)).map It.mark).getD false = true
    · rw [if_pos hm] at h1; omega
    · rw [if_neg hm] at h1
      rcases Nat.lt_or_eq_of_le h2 with h3 | h3
      · exact lastMark_max h c n m h1 (by omega) o ho
      · rw [show c + (n + 1) = c + n + 1 by omega] at h3
        rw [h3] at ho
        rw [ho] at hm
        simpa using hm
theorem run_stop (h : List (Nat × It)) : ∀ (n a : Nat), run h a n < n → AL.get h (a + run h a n) = none
  | 0, _, hi => by omega
  | n + 1, a, hi => by
    unfold run at hi ⊢
    by_cases h0 : (AL.get h a).isSome = true
    · rw [if_pos h0] at hi ⊢
      rw [show a + (run h (a + 1) n + 1) = a + 1 + run h (a + 1) n by omega]
      exact run_stop h n (a + 1) (by omega)
    · rw [if_neg h0, Nat.add_zero]
      cases hg : AL.get h a with
      | none => rfl
      | some o => rw [hg] at h0; exact absurd rfl h0
/-- The run's end is not there. -/
theorem run_end {h : List (Nat × It)} (hok : AL.Ok h) (a : Nat) : AL.get h (a + run h a h.length) = none := by
  have hle : run h a h.length ≤ h.length := row_len hok a _ (fun i hi => run_has h h.length a i hi)
  rcases Nat.lt_or_eq_of_le hle with h1 | h1
  · exact run_stop h h.length a h1
  · cases hg : AL.get h (a + run h a h.length) with
    | none => rfl
    | some o =>
      have := row_len hok a (h.length + 1) (fun i hi => by
        rcases Nat.lt_or_eq_of_le (Nat.le_of_lt_succ hi) with h2 | h2
        · exact run_has h h.length a i (by omega)
        · rw [h2]
          rw [h1] at hg
          rw [hg]
          rfl)
      omega
theorem adv_take {I : List It} : ∀ (m : Nat) (k : Snk), k.done = I.take k.cut → (∀ i, i < m → ∃ o, AL.get k.held (k.cut + 1 + i) = some o ∧ I[k.cut + i]? = some o) → (adv k m).done = I.take (k.cut + m)
  | 0, k, h, _ => h
  | m + 1, k, h, hp => by
    rw [adv_done1, adv_take m k h (fun i hi => hp i (by omega))]
    obtain ⟨o, h1, h2⟩ := hp m (by omega)
    rw [show k.cut + m + 1 = k.cut + 1 + m by omega, h1, show k.cut + (m + 1) = k.cut + m + 1 by omega, List.take_add_one, h2]
    rfl
theorem get_filter {α : Type} {m : List (Nat × α)} {c n : Nat} : AL.get (m.filter fun q => decide (c < q.1)) n = if c < n then AL.get m n else none := by
  induction m with
  | nil => simp [AL.get_nil]
  | cons p m ih =>
    rw [List.filter_cons]
    by_cases hp : c < p.1
    · rw [if_pos (by simpa using hp), AL.get_cons, AL.get_cons, ih]
      by_cases hn : p.1 = n
      · rw [if_pos hn, if_pos (by omega), if_pos hn]
      · rw [if_neg hn, if_neg hn]
    · rw [if_neg (by simpa using hp), ih, AL.get_cons]
      by_cases hn : p.1 = n
      · rw [if_neg (by omega), if_neg (by omega)]
      · rw [if_neg hn]

/-- What Take does with an item of the row. -/
theorem Sub.take {I : List It} {k : Snk} (h : Sub I k) (hI : GoodI I) {x : It} (hx : x ∈ I) :
    (k.take x).2 = 0 ∧ Sub I (k.take x).1 ∧ k.cut ≤ (k.take x).1.cut ∧ Has (k.take x).1 x.seq ∧ ∀ m, Has k m → Has (k.take x).1 m := by
  obtain ⟨j, hj, hjx⟩ := List.getElem_of_mem hx
  have hsq : x.seq = j + 1 := by rw [← hjx]; exact hI.seq j hj
  have hr := hI.right x hx
  unfold Snk.take
  rw [if_neg (by rw [hr]; simp)]
  by_cases hc : x.seq ≤ k.cut
  · rw [if_pos hc]
    exact ⟨rfl, h, Nat.le_refl _, .inl hc, fun _ x => x⟩
  rw [if_neg hc]
  cases hg : AL.get k.held x.seq with
  | some o =>
    have ho := h.held _ _ hg
    rw [hsq, Nat.add_sub_cancel, List.getElem?_eq_getElem hj, hjx] at ho
    cases ho
    simp only
    rw [if_pos trivial]
    exact ⟨rfl, h, Nat.le_refl _, .inr (by rw [hg]; rfl), fun _ x => x⟩
  | none =>
    simp only
    have hfew := hI.few
    rw [if_neg (by omega)]
    simp only
    obtain ⟨h1, hh1⟩ : ∃ h1, h1 = AL.put k.held x.seq x := ⟨_, rfl⟩
    rw [← hh1]
    have hok1 : AL.Ok h1 := by rw [hh1]; exact h.fine.ok.put _ _
    have hg1 : ∀ n, AL.get h1 n = if n = x.seq then some x else AL.get k.held n := fun n => by
      rw [hh1]
      by_cases hn : n = x.seq
      · rw [if_pos hn, hn, AL.get_put_same]
      · rw [if_neg hn, AL.get_put_other _ _ hn]
    have hhI : ∀ n o, AL.get h1 n = some o → I[n - 1]? = some o := fun n o ho => by
      rw [hg1] at ho
      split at ho
      · rename_i hn
        cases ho
        rw [hn, hsq, Nat.add_sub_cancel, List.getElem?_eq_getElem hj, hjx]
      · exact h.held n o ho
    obtain ⟨n, hn⟩ : ∃ n, n = (Snk.next ⟨k.cut, k.done, h1⟩) - k.cut - 1 := ⟨_, rfl⟩
    rw [← hn]
    have hnr : n = run h1 (k.cut + 1) h1.length := by rw [hn]; unfold Snk.next; simp only; omega
    have hpres : ∀ i, i < n → (AL.get h1 (k.cut + 1 + i)).isSome = true := fun i hi => run_has h1 h1.length (k.cut + 1) i (by omega)
    have hstop : AL.get h1 (k.cut + 1 + n) = none := by rw [hnr]; exact run_end hok1 (k.cut + 1)
    obtain ⟨L, hL⟩ : ∃ L, L = lastMark h1 k.cut n := ⟨_, rfl⟩
    have hlm := lastMark_le h1 k.cut n
    have hli := lastMark_is h1 k.cut n
    have hlx := lastMark_max h1 k.cut n
    rw [← hL] at hlm hli hlx ⊢
    have hF1 : Fine ⟨k.cut, k.done, h1⟩ := ⟨hok1, h.fine.cut, h.fine.seq, h.fine.right, fun q hq => by
      simp only at hq
      rw [hh1] at hq
      rcases List.mem_append.1 hq with hq | hq
      · exact h.fine.held q (List.mem_filter.1 hq).1
      · simp only [List.mem_singleton] at hq
        subst hq
        exact ⟨rfl, by simp only; omega, hr⟩⟩
    have hFa := hF1.adv (L - k.cut) (fun i hi => hpres i (by omega))
    have e1 := adv_cut (L - k.cut) ⟨k.cut, k.done, h1⟩
    have e2 := adv_held (L - k.cut) ⟨k.cut, k.done, h1⟩ (fun q hq => (hF1.held q hq).2.1)
    have e3 := adv_take (I := I) (L - k.cut) ⟨k.cut, k.done, h1⟩ h.done (fun i hi => by
      obtain ⟨o, ho⟩ := Option.isSome_iff_exists.1 (hpres i (by omega))
      refine ⟨o, ho, ?_⟩
      have := hhI _ _ ho
      simp only
      rwa [show k.cut + 1 + i - 1 = k.cut + i by omega] at this)
    simp only at e1 e2 e3
    rw [show k.cut + (L - k.cut) = L by omega] at e1 e2 e3
    obtain ⟨k', hk'⟩ : ∃ k', k' = adv ⟨k.cut, k.done, h1⟩ (L - k.cut) := ⟨_, rfl⟩
    rw [← hk'] at e1 e2 e3 hFa ⊢
    have hget : ∀ m, AL.get k'.held m = if L < m then AL.get h1 m else none := fun m => by rw [e2]; exact get_filter
    have hLI : L ≤ I.length := by
      rcases hli with h0 | ⟨o, ho, _⟩
      · rw [h0]; exact h.le
      · have := hhI _ _ ho
        have := (List.getElem?_eq_some_iff.1 this).1
        omega
    refine ⟨by first | rfl | trivial, ⟨hFa, by rw [e1]; exact hLI, by rw [e3, e1], fun m o ho => ?_, ?_, fun j' hall o ho => ?_⟩, by omega, ?_, fun m hm => ?_⟩
    · rw [hget] at ho
      split at ho
      · exact hhI m o ho
      · cases ho
    · rw [e1]
      rcases hli with h0 | ⟨o, ho, hm⟩
      · rw [h0]; exact h.mark
      · exact .inr ⟨o, hhI _ _ ho, hm⟩
    · rw [e1] at hall ho
      rw [hget, if_pos (by omega)] at ho
      have hle : L + 1 + j' ≤ k.cut + n := by
        rcases Nat.lt_or_ge (k.cut + n) (L + 1 + j') with hx | hx
        · exfalso
          have h3 := hall (k.cut + 1 + n - (L + 1)) (by omega)
          rw [hget, if_pos (by omega), show L + 1 + (k.cut + 1 + n - (L + 1)) = k.cut + 1 + n by omega, hstop] at h3
          cases h3
        · exact hx
      exact hlx (L + 1 + j') (by omega) hle o ho
    · by_cases hxl : x.seq ≤ L
      · exact .inl (by rw [e1]; exact hxl)
      · refine .inr ?_
        rw [hget, if_pos (by omega), hg1, if_pos rfl]
        rfl
    · by_cases hml : m ≤ L
      · exact .inl (by rw [e1]; exact hml)
      · refine .inr ?_
        rw [hget, if_pos (by omega), hg1]
        split
        · rfl
        · rcases hm with hm | hm
          · omega
          · exact hm

/-- A sink that has all. -/
theorem Sub.all {I : List It} {k : Snk} (h : Sub I k) (_hI : GoodI I) (ha : ∀ n, 0 < n → n ≤ I.length → Has k n) :
    k.held.length = I.length - k.cut ∧ k.next = I.length + 1 ∧ ∀ i (hi : i < I.length), k.cut ≤ i → I[i].mark = false := by
  have hp : ∀ i, i < I.length - k.cut → (AL.get k.held (k.cut + 1 + i)).isSome = true := fun i hi => by
    rcases ha (k.cut + 1 + i) (by omega) (by omega) with h1 | h1
    · omega
    · exact h1
  have hno : AL.get k.held (k.cut + 1 + (I.length - k.cut)) = none := by
    cases hg : AL.get k.held (k.cut + 1 + (I.length - k.cut)) with
    | none => rfl
    | some o =>
      have := h.held _ _ hg
      have := (List.getElem?_eq_some_iff.1 this).1
      have := h.le
      omega
  have hle := h.le
  refine ⟨?_, ?_, fun i hi hci => ?_⟩
  · have h1 := row_len h.fine.ok (k.cut + 1) (I.length - k.cut) hp
    have h2 : k.held.length ≤ I.length - k.cut := by
      have h3 : (k.held.map (·.1)).Nodup := by
        unfold List.Nodup
        rw [List.pairwise_map]
        exact h.fine.ok
      have h4 := keys_len (ks := k.held.map (·.1)) (m := (List.range (I.length - k.cut)).map (fun i => (k.cut + 1 + i, ()))) (by
        unfold AL.Ok
        rw [List.pairwise_map]
        exact List.nodup_range.imp fun {a b} hab => by simp only; omega) h3 (fun n hn => by
        obtain ⟨q, hq, rfl⟩ := List.mem_map.1 hn
        have hq2 := h.fine.held q hq
        obtain ⟨t, ht, hte⟩ := List.getElem_of_mem hq
        have hg := AL.get_at h.fine.ok ht
        rw [hte] at hg
        have := h.held _ _ hg
        have := (List.getElem?_eq_some_iff.1 this).1
        cases hx : AL.get ((List.range (I.length - k.cut)).map (fun i => (k.cut + 1 + i, ()))) q.1 with
        | some o => rfl
        | none =>
          exact absurd rfl (AL.get_none.1 hx (q.1, ()) (List.mem_map.2 ⟨q.1 - k.cut - 1, List.mem_range.2 (by omega), by rw [show k.cut + 1 + (q.1 - k.cut - 1) = q.1 by omega]⟩)))
      simpa using h4
    omega
  · rw [next_eq h.fine.ok hp hno]
    omega
  · have hg := hp (i - k.cut) (by omega)
    obtain ⟨o, ho⟩ := Option.isSome_iff_exists.1 hg
    have h2 := h.held _ _ ho
    rw [show k.cut + 1 + (i - k.cut) - 1 = i by omega, List.getElem?_eq_getElem hi] at h2
    cases h2
    exact h.settled (i - k.cut) (fun t ht => hp t (by omega)) _ ho
end MI
end Go.Proofs.Ytiilondhppipnaa
/- The laws' row: the items of a source that was told of changes, with cuts. Conditions: none. -/
namespace Go.Proofs.Ytiilondhppipnaa
open Go.ChangeShapes Go.WideShapes Go.RowKit Go.Deep
open MI

/-- A source and all its items, each right. -/
structure MI.Made (s : Src) (A : List It) : Prop where
  whole : Whole s A
  right : ∀ i ∈ A, rightI i = true
theorem MI.Made.new : Made Src.new [] := ⟨Whole.new, fun _ h => by cases h⟩
theorem MI.Made.add {s : Src} {A : List It} (h : Made s A) (c : Ch) (m : Bool) (hr : ∀ n, rightI ⟨n + 1, m, c⟩ = true) : ∃ A', Made (s.add c m).1 A' ∧ A'.length ≤ A.length + 1 ∧ (s.add c m).1.gone = s.gone ∧ (A' = A ∨ A' = A ++ [⟨s.last + 1, m, c⟩]) := by
  unfold Src.add
  split
  · exact ⟨A, h, by omega, rfl, .inl rfl⟩
  · refine ⟨_, ⟨h.whole.add c m, fun i hi => ?_⟩, by simp, rfl, .inr rfl⟩
    rcases List.mem_append.1 hi with hi | hi
    · exact h.right i hi
    · simp only [List.mem_singleton] at hi
      rw [hi]
      exact hr _
theorem MI.Made.do_ {s : Src} {A : List It} (h : Made s A) (c : Ch) : ∃ A', Made (s.do_ c).1 A' ∧ A'.length ≤ A.length + 1 ∧ (s.do_ c).1.gone = s.gone ∧ (A' = A ∨ A' = A ++ [⟨s.last + 1, false, c⟩]) := by
  unfold Src.do_
  split
  · rename_i hr
    exact h.add c false fun n => by simp [rightI, hr]
  · exact ⟨A, h, by omega, rfl, .inl rfl⟩
theorem MI.Made.mark {s : Src} {A : List It} (h : Made s A) : ∃ A', Made s.mark.1 A' ∧ A'.length ≤ A.length + 1 ∧ s.mark.1.gone = s.gone ∧ (A' = A ∨ A' = A ++ [⟨s.last + 1, true, Ch.zero⟩]) := h.add Ch.zero true fun n => by simp [rightI]
theorem MI.Made.from1 {s : Src} {A : List It} (h : Made s A) (h0 : s.gone = 0) (hl : A.length ≤ 400) : s.from_ 1 1000 = A ∧ GoodI A := by
  refine ⟨?_, h.whole.seq, h.right, hl⟩
  have h1 := from_pick h.whole 1 1000
  rw [h1, h0, List.drop_zero]
  have h2 : pick A 1 = A := by
    unfold pick
    rw [List.filter_eq_self]
    intro i hi
    obtain ⟨j, hj, rfl⟩ := List.getElem_of_mem hi
    rw [h.whole.seq j hj]
    simp
  rw [h2, List.take_of_length_le]
  have : (1000 : Int).toNat = 1000 := rfl
  omega

structure RowRel (W : World) (a : Nat) (i : Nat) (wr : World) : Prop where
  ex : ∃ s A F, SrcAt wr a F s ∧ Made s A ∧ s.gone = 0 ∧ A.length ≤ 2 * i ∧ (∀ k, F k → W.heap.size ≤ k) ∧ Keep (fun _ => False) W wr

theorem SrcTo.row {W w w' : World} {a : Nat} {F : Nat → Prop} {s' : Src} (h : SrcTo a F w s' w') (hF : ∀ k, F k → W.heap.size ≤ k) (hk : Keep (fun _ => False) W w) : ∃ F', SrcAt w' a F' s' ∧ (∀ k, F' k → W.heap.size ≤ k) ∧ Keep (fun _ => False) W w' := by
  obtain ⟨F', h1, h2, h3⟩ := h
  exact ⟨F', h1, fun k x => (h3 k x).elim (hF k) (fun y => Nat.le_trans hk.size y), hk.next h2 (fun _ _ x => x) (fun k hk' x => absurd (hF k x) (by omega))⟩

set_option maxRecDepth 20000 in
set_option maxHeartbeats 4000000 in
theorem row_any (W w : World) (vl vm : Value) (l : List Ch) (ms : List Bool) (hl : SliceOf W 3 ChR vl l) (hm : Bools W vm ms) (hk0 : Keep (fun _ => False) W w) :
    Calls Try.prog 22 #[vl, vm] w fun e w' => ∃ v I, e = .returned v ∧ GoodI I ∧ Row w' 33 5 v I.length (itsV I) ∧ Keep (fun _ => False) w w' ∧ (∀ k, v.ownBlock = some k → w.heap.size ≤ k) := by
  obtain ⟨ao, cc, rfl, hcc, hcm⟩ := hl.form
  obtain ⟨am, cm, rfl, hcc2, hcm2⟩ := hm.form
  obtain ⟨n, hn⟩ : ∃ n, n = l.length := ⟨_, rfl⟩
  obtain ⟨m, hmm⟩ : ∃ m, m = ms.length := ⟨_, rfl⟩
  rw [← hn] at hl hcc ⊢
  rw [← hmm] at hm hcc2 ⊢
  have HN := hid (And.intro hn hmm)
  have HL := hid hl
  have HM := hid hm
  have HK0 := hid hk0
  have hn63 : (n : Int) ≤ 9223372036854775807 := by unfold maxLen at hcm; omega
  have hm63 : (m : Int) ≤ 9223372036854775807 := by unfold maxLen at hcm2; omega
  clear hl hm hn hmm hk0
  go_enter Try.func22, Try.ntmps22
  go_wp2_with (at_builtin; refine stopAt ?_; intro q hq)
  refine (newSource_any w).mono ?_
  rintro e w1 ⟨a, F, rfl, hs, hk1, hF⟩
  have HS := hid (show RowRel w a 0 w1 from ⟨Src.new, [], F, hs, Made.new, rfl, Nat.le_refl _, hF, hk1⟩)
  clear hs hk1 hF
  go_upto_block 0 with fail
  go_cut [6] (fun s6 wx => Hid (∃ i, i ≤ 60 ∧ RowRel w a i wx))
  case first =>
    go_wp2_with (at_builtin; refine stopAt ?_; intro q hq)
    go_loopw [6] (fun iv wr => ∃ i : Nat, i ≤ n ∧ i ≤ 60 ∧ iv = .int .i64 i ∧ Hid (RowRel w a i wr)) (fun iv _ => n - (intOf iv).toNat)
    case atStart => exact ⟨0, Nat.zero_le _, Nat.zero_le _, rfl, HS⟩
    case round =>
      clear HS
      obtain ⟨i, hi, hi2, rfl, HS⟩ := hrel
      by_cases h1 : i < n
      · have q1 : (i : Int) < n := by omega
        by_cases h2 : i < 60
        · have q2 : (i : Int) < 60 := by omega
          obtain ⟨s, A, F, hT, hMd, hg, hlen, hF, hk⟩ := HS.out.ex
          have hiL : i < l.length := by rw [← HN.out.1]; exact h1
          have hkW := HK0.out.next hk (fun _ _ x => x) (fun _ _ x => x)
          obtain ⟨ad, cs, rfl, -, ⟨rfl, hco⟩, e0, ej⟩ := HL.out.at (Keep.refl _ _) i hiL
          obtain ⟨x, hx⟩ : ∃ x, x = l[i] := ⟨_, rfl⟩
          rw [← hx] at hco e0 ej
          have hlast : s.last < 4611686018427387904 := by have := hMd.whole.len; omega
          have HX := hid (And.intro hT (And.intro hMd (And.intro hg (And.intro hlen (And.intro hF (And.intro hk (And.intro hco hlast)))))))
          have HE := hid (And.intro (e0 _ rfl) (And.intro (ej 1 _ (by decide) rfl) (ej 2 _ (by decide) rfl)))
          have a0 := cell_old hkW _ _ HE.out.1
          have a1 := cell_old hkW _ _ HE.out.2.1
          have a2 := cell_old hkW _ _ HE.out.2.2
          clear hx e0 ej hT hMd hg hlen hF hk hco hlast hkW
          go_wp2_with (at_builtin; refine stopAt ?_; intro q hq)
          refine (long_any wr x HX.out.2.2.2.2.2.2.1).mono ?_
          rintro e w3 ⟨rfl, hk3⟩
          clear a0 a1 a2
          have HK3 := hid hk3
          clear hk3
          obtain ⟨lg, hlg⟩ : ∃ lg, lg = (decide (1000 < x.key.length) || decide (1000 < x.value.length)) := ⟨_, rfl⟩
          rw [← hlg]
          clear hlg
          go_upto_if 25 with fail
          go_cut [] (fun wx => Hid (∃ s A F, SrcAt wx a F s ∧ Made s A ∧ s.gone = 0 ∧ A.length ≤ 2 * i + 1 ∧ (∀ k, F k → w.heap.size ≤ k) ∧ Keep (fun _ => False) w wx))
          case first =>
            cases lg with
            | true =>
              go_wp2_with (at_builtin; refine stopAt ?_; intro q hq)
              go_meet
              obtain ⟨hT, hMd, hg, hlen, hF, hk, -⟩ := HX.out
              exact hid ⟨s, A, F, hT.later HK3.out, hMd, hg, by omega, hF, hk.next HK3.out (fun _ _ x => x) (fun _ _ x => x)⟩
            | false =>
              have hk3 := HX.out.2.2.2.2.2.1.next HK3.out (fun _ _ x => x) (fun _ _ x => x)
              have hkW := HK0.out.next hk3 (fun _ _ x => x) (fun _ _ x => x)
              have a0 := cell_old hkW _ _ HE.out.1
              have a1 := cell_old hkW _ _ HE.out.2.1
              have a2 := cell_old hkW _ _ HE.out.2.2
              have HK4 := hid hk3
              clear hk3 hkW
              go_wp2_with (at_builtin; refine stopAt ?_; intro q hq)
              clear a0 a1 a2
              refine (do_any w3 a F s x (HX.out.1.later HK3.out) HX.out.2.2.2.2.2.2.2).mono ?_
              rintro e w4 ⟨rfl, ht⟩
              obtain ⟨F4, hT4, hF4, hk4⟩ := ht.row HX.out.2.2.2.2.1 HK4.out
              obtain ⟨A', hM', hl', hg', -⟩ := HX.out.2.1.do_ x
              have HF := hid (show ∃ s A F, SrcAt w4 a F s ∧ Made s A ∧ s.gone = 0 ∧ A.length ≤ 2 * i + 1 ∧ (∀ k, F k → w.heap.size ≤ k) ∧ Keep (fun _ => False) w w4 from ⟨_, A', F4, hT4, hM', by rw [hg']; exact HX.out.2.2.1, by have := HX.out.2.2.2.1; omega, hF4, hk4⟩)
              clear ht hT4 hF4 hk4 hM' hl' hg'
              go_wp2_with (at_builtin; refine stopAt ?_; intro q hq)
              go_meet
              exact HF
          case rest =>
            have HC : Hid (∃ s A F, SrcAt wc a F s ∧ Made s A ∧ s.gone = 0 ∧ A.length ≤ 2 * i + 1 ∧ (∀ k, F k → w.heap.size ≤ k) ∧ Keep (fun _ => False) w wc) := hcut
            clear hcut
            obtain ⟨s5, A5, F5, hT5, hM5, hg5, hl5, hF5, hk5⟩ := HC.out
            have hlast5 : s5.last < 4611686018427387904 := by have := hM5.whole.len; omega
            have HY := hid (And.intro hT5 (And.intro hM5 (And.intro hg5 (And.intro hl5 (And.intro hF5 (And.intro hk5 hlast5))))))
            clear hT5 hM5 hg5 hl5 hF5 hlast5
            by_cases him : i < m
            · have q3 : (i : Int) < m := by omega
              have hkW := HK0.out.next hk5 (fun _ _ x => x) (fun _ _ x => x)
              have him' : i < ms.length := by rw [← HN.out.2]; exact him
              obtain ⟨am, cs, rfl, -, hb, e0, -⟩ := HM.out.at hkW i him'
              unfold BoolR at hb
              subst hb
              have a0 := e0 _ rfl
              rw [Nat.mul_one] at a0
              obtain ⟨bm, hbm⟩ : ∃ bm, bm = ms[i] := ⟨_, rfl⟩
              rw [← hbm] at a0
              clear hbm e0 hkW hk5
              cases bm with
              | false =>
                go_wp2_with (at_builtin; refine stopAt ?_; intro q hq)
                obtain ⟨y1, y2, y3, y4, y5, y6, -⟩ := HY.out
                exact ⟨⟨i + 1, by omega, by omega, by go_num, hid ⟨s5, A5, F5, y1, y2, y3, by omega, y5, y6⟩⟩, by simp [intOf]; omega⟩
              | true =>
                go_wp2_with (at_builtin; refine stopAt ?_; intro q hq)
                clear a0
                refine (mark_any wc a F5 s5 HY.out.1 HY.out.2.2.2.2.2.2).mono ?_
                rintro e w4 ⟨rfl, ht⟩
                obtain ⟨F4, hT4, hF4, hk4⟩ := ht.row HY.out.2.2.2.2.1 HY.out.2.2.2.2.2.1
                obtain ⟨A', hM', hl', hg', -⟩ := HY.out.2.1.mark
                have HF := hid (show RowRel w a (i + 1) w4 from ⟨_, A', F4, hT4, hM', by rw [hg']; exact HY.out.2.2.1, by have := HY.out.2.2.2.1; omega, hF4, hk4⟩)
                clear ht hT4 hF4 hk4 hM' hl' hg'
                go_wp2_with (at_builtin; refine stopAt ?_; intro q hq)
                exact ⟨⟨i + 1, by omega, by omega, by go_num, HF⟩, by simp [intOf]; omega⟩
            · have q3 : decide ((i : Int) < m) = false := by simp; omega
              clear hk5
              go_wp2_with (at_builtin; refine stopAt ?_; intro q hq)
              obtain ⟨y1, y2, y3, y4, y5, y6, -⟩ := HY.out
              exact ⟨⟨i + 1, by omega, by omega, by go_num, hid ⟨s5, A5, F5, y1, y2, y3, by omega, y5, y6⟩⟩, by simp [intOf]; omega⟩
        · have q2 : decide ((i : Int) < 60) = false := by simp; omega
          go_wp2_with (at_builtin; refine stopAt ?_; intro q hq)
          go_meet
          exact hid ⟨i, hi2, HS.out⟩
      · have q1 : decide ((i : Int) < n) = false := by simp; omega
        go_wp2_with (at_builtin; refine stopAt ?_; intro q hq)
        go_meet
        exact hid ⟨i, hi2, HS.out⟩
  case rest =>
    have HC : Hid (∃ i, i ≤ 60 ∧ RowRel w a i wc) := hcut
    clear hcut
    obtain ⟨i, hi, s, A, F, hT, hMd, hg, hlen, hF, hk⟩ := HC.out
    obtain ⟨hfr, hgood⟩ := hMd.from1 hg (by omega)
    have hlast : s.last < 4611686018427387904 ∧ s.l.length ≤ 1000000 := by have := hMd.whole.len; unfold Src.last at *; omega
    have HX := hid (And.intro hT (And.intro hgood (And.intro hlast (And.intro hk hfr))))
    clear hT hMd hgood hlast hk hfr
    go_wp2_with (at_builtin; refine stopAt ?_; intro q hq)
    have hfa := from_any wc a F s 1 1000 HX.out.1 HX.out.2.2.1.1 HX.out.2.2.1.2 (by decide) (by decide)
    rw [HX.out.2.2.2.2] at hfa
    refine hfa.mono ?_
    clear hfa
    rintro e w5 ⟨va, rfl, hra, hk5, hoa⟩
    have HF := hid (And.intro hra (And.intro hk5 hoa))
    clear hra hk5 hoa
    go_wp2_with (at_builtin; refine stopAt ?_; intro q hq)
    go_ret
    exact ⟨va, A, rfl, HX.out.2.1, HF.out.1, HX.out.2.2.2.1.next HF.out.2.1 (fun _ _ x => x) (fun _ _ x => x), fun k e => Nat.le_trans HX.out.2.2.2.1.size (HF.out.2.2 k e)⟩
end Go.Proofs.Ytiilondhppipnaa
/- MirrorCuts' walk: a sink that takes a source's items in any order has one of its cuts. Conditions: none. -/
namespace Go.Proofs.Ytiilondhppipnaa
open Go.ChangeShapes Go.WideShapes Go.RowKit Go.Deep
open MI

/-- A sink that took items of a row, and the row. -/
structure FedRel (W : World) (b : Nat) (v : Value) (I : List It) (k : Snk) (wr : World) : Prop where
  ex : ∃ F G, Two W (SnkT b k) F (RowT 33 5 v I.length (itsV I)) G wr
  sub : Sub I k
theorem FedRel.bounds {W wr : World} {b : Nat} {v : Value} {I : List It} {k : Snk} (h : FedRel W b v I k wr) (hI : GoodI I) : k.cut + k.held.length < 2305843009213693952 ∧ k.done.length + k.held.length + 1 ≤ 1000000 ∧ k.cut ≤ I.length ∧ k.held.length ≤ 400 := by
  have h1 := h.sub.fine.cut
  have h2 := h.sub.le
  have h3 := hI.few
  have h4 : k.held.length ≤ I.length := by
    have h5 : (k.held.map (·.1)).Nodup := by
      unfold List.Nodup
      rw [List.pairwise_map]
      exact h.sub.fine.ok
    have h6 := keys_len (ks := k.held.map (·.1)) (m := (List.range I.length).map (fun i => (i + 1, ()))) (by
      unfold AL.Ok
      rw [List.pairwise_map]
      exact List.nodup_range.imp fun {a b} hab => by simp only; omega) h5 (fun n hn => by
      obtain ⟨q, hq, rfl⟩ := List.mem_map.1 hn
      have hq2 := h.sub.fine.held q hq
      obtain ⟨t, ht, hte⟩ := List.getElem_of_mem hq
      have hg := AL.get_at h.sub.fine.ok ht
      rw [hte] at hg
      have := h.sub.held _ _ hg
      have := (List.getElem?_eq_some_iff.1 this).1
      cases hx : AL.get ((List.range I.length).map (fun i => (i + 1, ()))) q.1 with
      | some o => rfl
      | none =>
        exact absurd rfl (AL.get_none.1 hx (q.1, ()) (List.mem_map.2 ⟨q.1 - 1, List.mem_range.2 (by omega), by rw [show q.1 - 1 + 1 = q.1 by omega]⟩)))
    simpa using h6
  omega
theorem SnkTo.fed {W w w' : World} {b : Nat} {v : Value} {I : List It} {k k' : Snk} {F G : Nat → Prop} (h : Two W (SnkT b k) F (RowT 33 5 v I.length (itsV I)) G w) (ht : SnkTo b F w k' w') (hs : Sub I k') : FedRel W b v I k' w' := by
  obtain ⟨F', h'⟩ := h.turn1 (RowT.lives _ _ _ _ _) (T' := SnkT b k') ht
  exact ⟨⟨F', G, h'⟩, hs⟩
theorem FedRel.later {W w w' : World} {b : Nat} {v : Value} {I : List It} {k : Snk} (h : FedRel W b v I k w) (hk : Keep (fun _ => False) w w') : FedRel W b v I k w' := by
  obtain ⟨F, G, h'⟩ := h.ex
  exact ⟨⟨F, G, h'.later (SnkT.lives _ _) (RowT.lives _ _ _ _ _) hk⟩, h.sub⟩
theorem FedRel.keep {W w : World} {b : Nat} {v : Value} {I : List It} {k : Snk} (h : FedRel W b v I k w) : Keep (fun _ => False) W w := by
  obtain ⟨F, G, h'⟩ := h.ex
  exact h'.keep
theorem FedRel.snk {W w : World} {b : Nat} {v : Value} {I : List It} {k : Snk} (h : FedRel W b v I k w) : ∃ F, SnkAt w b F k := by
  obtain ⟨F, G, h'⟩ := h.ex
  exact ⟨F, h'.one⟩
theorem FedRel.row {W w : World} {b : Nat} {v : Value} {I : List It} {k : Snk} (h : FedRel W b v I k w) : Row w 33 5 v I.length (itsV I) := by
  obtain ⟨F, G, h'⟩ := h.ex
  exact h'.two.1
set_option maxRecDepth 20000 in
/-- Take of one of the row's items, at a world of the call. -/
theorem FedRel.take {W w : World} {b : Nat} {v : Value} {I : List It} {k : Snk} (h : FedRel W b v I k w) (hI : GoodI I) {x : It} (hx : x ∈ I) :
    Calls Try.prog 13 #[.pointer (some ⟨b, 0, none⟩), itVal x] w fun e w' => e = .returned (.int .i64 0) ∧ FedRel W b v I (k.take x).1 w' := by
  obtain ⟨F, G, h'⟩ := h.ex
  have hb := h.bounds hI
  have ht := h.sub.take hI hx
  refine (take_any w b F k x h'.one hb.1 hb.2.1 (by
    obtain ⟨j, hj, rfl⟩ := List.getElem_of_mem hx
    rw [hI.seq j hj]
    have := hI.few
    omega)).mono ?_
  rintro e w' ⟨rfl, h2⟩
  rw [ht.1]
  exact ⟨rfl, SnkTo.fed h' h2 ht.2.1⟩
set_option maxRecDepth 20000 in
/-- The pairs are those of the row's items up to the cut. -/
theorem FedRel.pairs {W w : World} {b : Nat} {v : Value} {I : List It} {k : Snk} (h : FedRel W b v I k w) (hI : GoodI I) :
    Calls Try.prog 20 #[.pointer (some ⟨b, 0, none⟩)] w fun e w' => ∃ u, e = .returned u ∧ Row w' 72 2 u (layAll (I.take k.cut)).length (prsV (layAll (I.take k.cut))) ∧ Keep (fun _ => False) w w' := by
  obtain ⟨F, hs⟩ := h.snk
  have hb := h.bounds hI
  have h1 := pairs_any w b F k hs (by have := layAll_len k.done; omega) h.sub.fine.keys
  rw [h.sub.done] at h1
  refine h1.mono ?_
  rintro e w' ⟨u, rfl, h2, h3, -⟩
  exact ⟨u, rfl, h2, h3⟩
set_option maxRecDepth 20000 in
theorem rpairs_good (w : World) (ao : Option Addr) (cap n c : Nat) (I : List It) (hI : GoodI I) (hn : n = I.length) (h1 : Row w 33 5 (.slice ao n cap) n (itsV I)) (hc : c ≤ n) :
    Calls Try.prog 21 #[.slice ao n cap, .int .u64 (c : Int)] w fun e w' => ∃ u, e = .returned u ∧ Row w' 72 2 u (layAll (I.take c)).length (prsV (layAll (I.take c))) ∧ Keep (fun _ => False) w w' := by
  have hf := hI.few
  have h2 := rpairs_any w ao cap n c I h1 hn (by omega) (by omega)
  rw [hI.upTo] at h2
  refine h2.mono ?_
  rintro e w' ⟨u, rfl, h2, h3, -⟩
  exact ⟨u, rfl, h2, h3⟩

set_option maxRecDepth 20000 in
set_option maxHeartbeats 4000000 in
theorem cuts_walk (W : World) (vl : Value) (l : List Ch) (hl : SliceOf W 3 ChR vl l) (vm : Value) (ms : List Bool) (hm : Bools W vm ms) (vo : Value) (os : List Int) (ho : Ints W vo os) :
    Calls Try.prog 4 #[vl, vm, vo] W fun e w' => e = .returned (.bool true) ∧ Keep (fun _ => False) W w' := by
  have hrow := hid (row_any W W vl vm l ms hl hm (Keep.refl _ _))
  obtain ⟨ao, cc, rfl, -⟩ := hl.form
  obtain ⟨am, cm, rfl, -⟩ := hm.form
  obtain ⟨aq, cq, rfl, hcq, hcq2⟩ := ho.form
  obtain ⟨N, hN⟩ : ∃ N, N = os.length := ⟨_, rfl⟩
  rw [← hN] at ho hcq ⊢
  have hN63 : (N : Int) ≤ 9223372036854775807 := by unfold maxLen at hcq2; omega
  have HN := hid hN
  have HO := hid ho
  clear hl hm ho hN
  go_enter Try.func4, Try.ntmps4
  go_wp2_with (at_builtin; refine stopAt ?_; intro q hq)
  refine hrow.out.mono ?_
  rintro e w1 ⟨v, I, rfl, hI, hr, hk1, hoI⟩
  have H1 := hid (And.intro hI (And.intro hr (And.intro hk1 hoI)))
  obtain ⟨ai, ci, rfl, -⟩ := hr.form
  obtain ⟨n, hn⟩ : ∃ n, n = I.length := ⟨_, rfl⟩
  have hn4 : n ≤ 400 := by rw [hn]; exact hI.few
  have Hn := hid hn
  rw [← hn]
  clear hI hr hk1 hoI hrow hn
  go_wp2_with (at_builtin; refine stopAt ?_; intro q hq)
  refine (newSink_any w1).mono ?_
  rintro e w2 ⟨b, F, rfl, hs, hk2, hF⟩
  obtain ⟨hI, hr, hk1, hoI⟩ := H1.out
  have hT : Two W (RowT 33 5 (.slice ai I.length ci) I.length (itsV I)) _ (SnkT b Snk.new) F w2 := Two.make (RowT.of hr) (fun i e => hoI i e) hk1 (RowT.lives _ _ _ _ _) hs hF hk2
  have HI := hid hI
  have HS := hid (show FedRel W b (.slice ai I.length ci) I Snk.new w2 from ⟨⟨F, _, hT.two, hT.one, fun i x y => hT.apart i y x, hT.new2, hT.new1, hT.keep⟩, Sub.new I⟩)
  rw [← Hn.out] at HS
  clear hI hr hk1 hoI hs hk2 hF hT H1
  go_upto_block 0 with fail
  go_cut [9, 10] (fun s9 s10 wx => Hid (∃ k, FedRel W b (.slice ai n ci) I k wx))
  case first =>
    go_wp2_with (at_builtin; refine stopAt ?_; intro q hq)
    go_loopw [9, 10] (fun lv iv wr => ∃ (i : Nat) (c : Nat), i ≤ N ∧ i ≤ 300 ∧ lv = .int .u64 (c : Int) ∧ iv = .int .i64 i ∧ Hid (∃ k, FedRel W b (.slice ai n ci) I k wr ∧ c = k.cut)) (fun _ iv _ => N - (intOf iv).toNat)
    case atStart => exact ⟨0, 0, Nat.zero_le _, Nat.zero_le _, by go_num, rfl, hid ⟨_, HS.out, rfl⟩⟩
    case round =>
      clear HS
      obtain ⟨i, c, hi, hi2, rfl, rfl, HS⟩ := hrel
      by_cases h1 : i < N
      · have q1 : (i : Int) < N := by omega
        by_cases h2 : i < 300
        · have q2 : (i : Int) < 300 := by omega
          by_cases h3 : 0 < n
          · have q3 : (0 : Int) < n := by omega
            obtain ⟨k, hfd, hck⟩ := HS.out
            have hiL : i < os.length := by rw [← HN.out]; exact h1
            obtain ⟨ad, cs, rfl, -, ⟨rfl, hz1, hz2⟩, e0, -⟩ := HO.out.at hfd.keep i hiL
            have a0 := e0 _ rfl
            rw [Nat.mul_one] at a0
            obtain ⟨z, hz⟩ : ∃ z, z = os[i] := ⟨_, rfl⟩
            rw [← hz] at a0
            have hmod := umod_int z n (by omega) (by omega)
            obtain ⟨d, hd⟩ : ∃ d : Nat, (d : Int) = z % 18446744073709551616 % n := ⟨(z % 18446744073709551616 % n).toNat, by
              have := Int.emod_nonneg (z % 18446744073709551616) (show (n : Int) ≠ 0 by omega)
              omega⟩
            have hdn : d < n := by
              have := Int.emod_lt_of_pos (z % 18446744073709551616) (show (0 : Int) < n by omega)
              omega
            rw [← hd] at hmod
            have wn : IntKind.u64.wrap (n : Int) = (n : Int) := wrapU64 _ (by omega)
            have hdI : d < I.length := by rw [← Hn.out]; exact hdn
            have hfr := hfd.row
            rw [← Hn.out] at hfr
            obtain ⟨g, cap', hgv, k0⟩ := row_item hfr d hdI
            cases hgv
            have b0 := k0 0 _ rfl
            have b1 := k0 1 _ rfl
            have b2 := k0 2 _ rfl
            have b3 := k0 3 _ rfl
            have b4 := k0 4 _ rfl
            rw [Nat.add_zero] at b0
            have hxm : I[d] ∈ I := List.getElem_mem hdI
            obtain ⟨x, hx⟩ : ∃ x, x = I[d] := ⟨_, rfl⟩
            rw [← hx] at b0 b1 b2 b3 b4 hxm
            have HX := hid (And.intro hfd (And.intro hck hxm))
            clear e0 hz hd k0 hx hfd hck hxm hfr hz1 hz2
            have q4 : (d : Int) < n := by omega
            have q5 : decide (n = 0) = false := by simp; omega
            have q6 : ((n : Int) == 0) = false := by simp; omega
            go_wp2_with (at_builtin; refine stopAt ?_; intro q hq)
            clear a0 b0 b1 b2 b3 b4
            have htk := (HX.out.1.later ((Keep.refl (fun _ => False) wr).alloc (.cells #[.int .u64 (x.seq : Int), .bool x.mark, .string (str x.ch.key), .string (str x.ch.value), .bool x.ch.gone] 33))).take HI.out HX.out.2.2
            refine htk.mono ?_
            clear htk
            rintro e w4 ⟨rfl, hf4⟩
            have hle := (HX.out.1.sub.take HI.out HX.out.2.2).2.2.1
            obtain ⟨k', hk'⟩ : ∃ k', k' = (k.take x).1 := ⟨_, rfl⟩
            rw [← hk'] at hf4 hle
            have H4 := hid hf4
            clear hf4 hk'
            go_wp2_with (at_builtin; refine stopAt ?_; intro q hq)
            obtain ⟨F4, hs4⟩ := H4.out.snk
            refine (cut_any w4 b F4 k' hs4).mono ?_
            rintro e w5 ⟨rfl, rfl⟩
            obtain ⟨c', hc'⟩ : ∃ c', c' = k'.cut := ⟨_, rfl⟩
            rw [← hc'] at hle ⊢
            have hlen := H4.out.sub.le
            rw [← hc', ← Hn.out] at hlen
            have hmk := H4.out.sub.mark
            rw [← hc'] at hmk
            have H5 := hid H4.out
            rw [← HX.out.2.1] at hle
            have HC := hid (And.intro hc' hmk)
            have t1 : decide ((c' : Int) < (c : Int)) = false := by simp; omega
            have t2 : decide ((n : Int) < (c' : Int)) = false := by simp; omega
            have n1 : decide (c' < c) = false := by simp; omega
            have n2 : decide (n < c') = false := by simp; omega
            clear hs4 hc' hmk
            by_cases hc0 : c' = 0
            · have t3 : decide ((0 : Int) < (c' : Int)) = false := by simp; omega
              have n3 : decide (0 < c') = false := by simp; omega
              have Hc0 := hid hc0
              clear hc0
              go_wp2_with (at_builtin; refine stopAt ?_; intro q hq)
              have hp := (H5.out.pairs HI.out)
              rw [← HC.out.1] at hp
              refine hp.mono ?_
              clear hp
              rintro e w6 ⟨u, rfl, hr6, hk6⟩
              obtain ⟨au, cu, rfl, -⟩ := hr6.form
              have H6 := hid (And.intro (H5.out.later hk6) hr6)
              clear hr6 hk6 
              go_wp2_with (at_builtin; refine stopAt ?_; intro q hq)
              have hrw := H6.out.1.row
              rw [← Hn.out] at hrw
              refine (rpairs_good w6 _ ci n c' I HI.out Hn.out hrw (by omega)).mono ?_
              clear hrw
              rintro e w7 ⟨u, rfl, hr7, hk7⟩
              obtain ⟨au2, cu2, rfl, -⟩ := hr7.form
              have H7 := hid (And.intro (H6.out.1.later hk7) (And.intro (H6.out.2.keep hk7 (fun _ _ x => x)) hr7))
              clear hr7 hk7
              go_wp2_with (at_builtin; refine stopAt ?_; intro q hq)
              refine (same_prs w7 _ _ _ _ _ H7.out.2.1 H7.out.2.2).mono ?_
              rintro e w8 ⟨rfl, hk8⟩
              have H8 := hid (H7.out.1.later hk8)
              clear hk8
              go_wp2_with (at_builtin; refine stopAt ?_; intro q hq)
              exact ⟨⟨i + 1, c', by omega, by omega, by go_num, by go_num, hid ⟨k', H8.out, HC.out.1⟩⟩, by simp [intOf]; omega⟩
            · have t3 : (0 : Int) < (c' : Int) := by omega
              have n3 : decide (0 < c') = true := by simp; omega
              obtain ⟨e, he⟩ : ∃ e, e = c' - 1 := ⟨_, rfl⟩
              have wq : IntKind.u64.wrap ((c' : Int) - 1) = (e : Int) := by rw [show ((c' : Int) - 1) = (e : Int) by omega]; exact wrapU64 _ (by omega)
              have hen : e < n := by omega
              have heI : e < I.length := by rw [← Hn.out]; exact hen
              have q7 : (e : Int) < n := by omega
              have hrw := H5.out.row
              rw [← Hn.out] at hrw
              obtain ⟨g2, cap', hgv, k0⟩ := row_item hrw e heI
              cases hgv
              have b1 := k0 1 _ rfl
              have hmt : I[e].mark = true := by
                rcases HC.out.2 with h0 | ⟨o, h1, h2⟩
                · omega
                · rw [← he, List.getElem?_eq_getElem heI] at h1
                  cases h1
                  exact h2
              simp only [hmt] at b1
              have He := hid he
              clear hrw k0 hmt he hc0
              go_wp2_with (at_builtin; refine stopAt ?_; intro q hq)
              have hp := (H5.out.pairs HI.out)
              rw [← HC.out.1] at hp
              refine hp.mono ?_
              clear hp
              rintro e w6 ⟨u, rfl, hr6, hk6⟩
              obtain ⟨au, cu, rfl, -⟩ := hr6.form
              have H6 := hid (And.intro (H5.out.later hk6) hr6)
              clear hr6 hk6 b1
              go_wp2_with (at_builtin; refine stopAt ?_; intro q hq)
              have hrw := H6.out.1.row
              rw [← Hn.out] at hrw
              refine (rpairs_good w6 _ ci n c' I HI.out Hn.out hrw (by omega)).mono ?_
              clear hrw
              rintro e w7 ⟨u, rfl, hr7, hk7⟩
              obtain ⟨au2, cu2, rfl, -⟩ := hr7.form
              have H7 := hid (And.intro (H6.out.1.later hk7) (And.intro (H6.out.2.keep hk7 (fun _ _ x => x)) hr7))
              clear hr7 hk7
              go_wp2_with (at_builtin; refine stopAt ?_; intro q hq)
              refine (same_prs w7 _ _ _ _ _ H7.out.2.1 H7.out.2.2).mono ?_
              rintro e w8 ⟨rfl, hk8⟩
              have H8 := hid (H7.out.1.later hk8)
              clear hk8
              go_wp2_with (at_builtin; refine stopAt ?_; intro q hq)
              exact ⟨⟨i + 1, c', by omega, by omega, by go_num, by go_num, hid ⟨k', H8.out, HC.out.1⟩⟩, by simp [intOf]; omega⟩
          · have q3 : decide ((0 : Int) < (n : Int)) = false := by simp; omega
            go_wp2_with (at_builtin; refine stopAt ?_; intro q hq)
            go_meet
            obtain ⟨k, hfd, -⟩ := HS.out
            exact hid ⟨k, hfd⟩
        · have q2 : decide ((i : Int) < 300) = false := by simp; omega
          go_wp2_with (at_builtin; refine stopAt ?_; intro q hq)
          go_meet
          obtain ⟨k, hfd, -⟩ := HS.out
          exact hid ⟨k, hfd⟩
      · have q1 : decide ((i : Int) < N) = false := by simp; omega
        go_wp2_with (at_builtin; refine stopAt ?_; intro q hq)
        go_meet
        obtain ⟨k, hfd, -⟩ := HS.out
        exact hid ⟨k, hfd⟩
  case rest =>
    have HC : Hid (∃ k, FedRel W b (.slice ai n ci) I k wc) := hcut
    clear hcut
    go_wp2_with (at_builtin; refine stopAt ?_; intro q hq)
    refine (known_any wc).mono ?_
    rintro e w7 ⟨rfl, hk7⟩
    have HK := hid (show Keep (fun _ => False) W w7 from by obtain ⟨k, h⟩ := HC.out; exact h.keep.next hk7 (fun _ _ x => x) (fun _ _ x => x))
    clear hk7
    go_wp2_with (at_builtin; refine stopAt ?_; intro q hq)
    go_ret
    exact ⟨rfl, HK.out⟩
end Go.Proofs.Ytiilondhppipnaa
/- MirrorAll's walk: a sink that took all of a source's items is at the last cut. Conditions: none. -/
namespace Go.Proofs.Ytiilondhppipnaa
open Go.ChangeShapes Go.WideShapes Go.RowKit Go.Deep
open MI

/-- The last cut among the first ones. -/
structure MI.LastIs (I : List It) (q c : Nat) : Prop where
  le : c ≤ q
  mark : c = 0 ∨ ∃ o, I[c - 1]? = some o ∧ o.mark = true
  none : ∀ j (h : j < I.length), c ≤ j → j < q → I[j].mark = false
theorem MI.LastIs.unique {I : List It} {q c d : Nat} (h1 : LastIs I q c) (h2 : LastIs I q d) : c = d := by
  have key : ∀ c d, LastIs I q c → LastIs I q d → ¬ c < d := fun c d h1 h2 hlt => by
    rcases h2.mark with h | ⟨o, ho, hm⟩
    · omega
    · obtain ⟨hl, he⟩ := List.getElem?_eq_some_iff.1 ho
      have h3 := h1.none (d - 1) hl (by omega) (by have := h2.le; omega)
      rw [he, hm] at h3
      cases h3
  have := key c d h1 h2
  have := key d c h2 h1
  omega
theorem MI.LastIs.step {I : List It} {q c : Nat} (h : LastIs I q c) (hq : q < I.length) : LastIs I (q + 1) (if I[q].mark then q + 1 else c) := by
  split
  · rename_i hm
    refine ⟨Nat.le_refl _, .inr ⟨I[q], ?_, hm⟩, fun j _ h1 h2 => by omega⟩
    rw [Nat.add_sub_cancel, List.getElem?_eq_getElem hq]
  · rename_i hm
    refine ⟨by have := h.le; omega, h.mark, fun j hj h1 h2 => ?_⟩
    by_cases hjq : j = q
    · subst hjq; simpa using hm
    · exact h.none j hj h1 (by omega)

set_option maxRecDepth 20000 in
set_option maxHeartbeats 4000000 in
theorem all_walk (W : World) (vl : Value) (l : List Ch) (hl : SliceOf W 3 ChR vl l) (vm : Value) (ms : List Bool) (hm : Bools W vm ms) (vo : Value) (os : List Int) (ho : Ints W vo os) :
    Calls Try.prog 5 #[vl, vm, vo] W fun e w' => e = .returned (.bool true) ∧ Keep (fun _ => False) W w' := by
  have hrow := hid (row_any W W vl vm l ms hl hm (Keep.refl _ _))
  obtain ⟨ao, cc, rfl, -⟩ := hl.form
  obtain ⟨am, cm, rfl, -⟩ := hm.form
  obtain ⟨aq, cq, rfl, hcq, hcq2⟩ := ho.form
  obtain ⟨N, hN⟩ : ∃ N, N = os.length := ⟨_, rfl⟩
  rw [← hN] at ho hcq ⊢
  have hN63 : (N : Int) ≤ 9223372036854775807 := by unfold maxLen at hcq2; omega
  have HN := hid hN
  have HO := hid ho
  clear hl hm ho hN
  go_enter Try.func5, Try.ntmps5
  go_wp2_with (at_builtin; refine stopAt ?_; intro q hq)
  refine hrow.out.mono ?_
  rintro e w1 ⟨v, I, rfl, hI, hr, hk1, hoI⟩
  have H1 := hid (And.intro hI (And.intro hr (And.intro hk1 hoI)))
  obtain ⟨ai, ci, rfl, -⟩ := hr.form
  obtain ⟨n, hn⟩ : ∃ n, n = I.length := ⟨_, rfl⟩
  have hn4 : n ≤ 400 := by rw [hn]; exact hI.few
  have Hn := hid hn
  rw [← hn]
  clear hI hr hk1 hoI hrow hn
  go_wp2_with (at_builtin; refine stopAt ?_; intro q hq)
  refine (newSink_any w1).mono ?_
  rintro e w2 ⟨b, F, rfl, hs, hk2, hF⟩
  obtain ⟨hI, hr, hk1, hoI⟩ := H1.out
  have hT : Two W (RowT 33 5 (.slice ai I.length ci) I.length (itsV I)) _ (SnkT b Snk.new) F w2 := Two.make (RowT.of hr) (fun i e => hoI i e) hk1 (RowT.lives _ _ _ _ _) hs hF hk2
  have HI := hid hI
  have HS := hid (show FedRel W b (.slice ai I.length ci) I Snk.new w2 from ⟨⟨F, _, hT.two, hT.one, fun i x y => hT.apart i y x, hT.new2, hT.new1, hT.keep⟩, Sub.new I⟩)
  rw [← Hn.out] at HS
  clear hI hr hk1 hoI hs hk2 hF hT H1
  go_upto_block 0 with fail
  go_cut [9] (fun s9 wx => Hid (∃ k, FedRel W b (.slice ai n ci) I k wx))
  case first =>
    go_wp2_with (at_builtin; refine stopAt ?_; intro q hq)
    go_loopw [9] (fun iv wr => ∃ (i : Nat), i ≤ N ∧ i ≤ 200 ∧ iv = .int .i64 i ∧ Hid (∃ k, FedRel W b (.slice ai n ci) I k wr)) (fun iv _ => N - (intOf iv).toNat)
    case atStart => exact ⟨0, Nat.zero_le _, Nat.zero_le _, rfl, hid ⟨_, HS.out⟩⟩
    case round =>
      clear HS
      obtain ⟨i, hi, hi2, rfl, HS⟩ := hrel
      by_cases h1 : i < N
      · have q1 : (i : Int) < N := by omega
        by_cases h2 : i < 200
        · have q2 : (i : Int) < 200 := by omega
          by_cases h3 : 0 < n
          · have q3 : (0 : Int) < n := by omega
            obtain ⟨k, hfd⟩ := HS.out
            have hiL : i < os.length := by rw [← HN.out]; exact h1
            obtain ⟨ad, cs, rfl, -, ⟨rfl, hz1, hz2⟩, e0, -⟩ := HO.out.at hfd.keep i hiL
            have a0 := e0 _ rfl
            rw [Nat.mul_one] at a0
            obtain ⟨z, hz⟩ : ∃ z, z = os[i] := ⟨_, rfl⟩
            rw [← hz] at a0
            have hmod := umod_int z n (by omega) (by omega)
            obtain ⟨d, hd⟩ : ∃ d : Nat, (d : Int) = z % 18446744073709551616 % n := ⟨(z % 18446744073709551616 % n).toNat, by
              have := Int.emod_nonneg (z % 18446744073709551616) (show (n : Int) ≠ 0 by omega)
              omega⟩
            have hdn : d < n := by
              have := Int.emod_lt_of_pos (z % 18446744073709551616) (show (0 : Int) < n by omega)
              omega
            rw [← hd] at hmod
            have wn : IntKind.u64.wrap (n : Int) = (n : Int) := wrapU64 _ (by omega)
            have hdI : d < I.length := by rw [← Hn.out]; exact hdn
            have hfr := hfd.row
            rw [← Hn.out] at hfr
            obtain ⟨g, cap', hgv, k0⟩ := row_item hfr d hdI
            cases hgv
            have b0 := k0 0 _ rfl
            have b1 := k0 1 _ rfl
            have b2 := k0 2 _ rfl
            have b3 := k0 3 _ rfl
            have b4 := k0 4 _ rfl
            rw [Nat.add_zero] at b0
            have hxm : I[d] ∈ I := List.getElem_mem hdI
            obtain ⟨x, hx⟩ : ∃ x, x = I[d] := ⟨_, rfl⟩
            rw [← hx] at b0 b1 b2 b3 b4 hxm
            have HX := hid (And.intro hfd hxm)
            clear e0 hz hd k0 hx hfd hxm hfr hz1 hz2
            have q4 : (d : Int) < n := by omega
            have q5 : decide (n = 0) = false := by simp; omega
            have q6 : ((n : Int) == 0) = false := by simp; omega
            go_wp2_with (at_builtin; refine stopAt ?_; intro q hq)
            clear a0 b0 b1 b2 b3 b4
            refine (HX.out.1.take HI.out HX.out.2).mono ?_
            rintro e w4 ⟨rfl, hf4⟩
            have H4 := hid hf4
            clear hf4
            go_wp2_with (at_builtin; refine stopAt ?_; intro q hq)
            exact ⟨⟨i + 1, by omega, by omega, by go_num, hid ⟨_, H4.out⟩⟩, by simp [intOf]; omega⟩
          · have q3 : decide ((0 : Int) < (n : Int)) = false := by simp; omega
            go_wp2_with (at_builtin; refine stopAt ?_; intro q hq)
            go_meet
            exact HS
        · have q2 : decide ((i : Int) < 200) = false := by simp; omega
          go_wp2_with (at_builtin; refine stopAt ?_; intro q hq)
          go_meet
          exact HS
      · have q1 : decide ((i : Int) < N) = false := by simp; omega
        go_wp2_with (at_builtin; refine stopAt ?_; intro q hq)
        go_meet
        exact HS
  case rest =>
    have HC : Hid (∃ k, FedRel W b (.slice ai n ci) I k wc) := hcut
    clear hcut HS
    have HC2 : Hid (∃ k, FedRel W b (.slice ai n ci) I k wc ∧ ∀ q, n ≤ q → q < I.length → Has k (q + 1)) := hid (by
      obtain ⟨k, h⟩ := HC.out
      exact ⟨k, h, fun q h1 h2 => by have := Hn.out; omega⟩)
    clear HC
    go_wp2_with (at_builtin; refine stopAt ?_; intro q hq)
    go_loopw [10] (fun iv wr => ∃ (j : Nat), j ≤ n ∧ iv = .int .i64 ((j : Int) - 1) ∧ Hid (∃ k, FedRel W b (.slice ai n ci) I k wr ∧ ∀ q, j ≤ q → q < I.length → Has k (q + 1))) (fun iv _ => (intOf iv + 1).toNat)
    case atStart => exact ⟨n, Nat.le_refl _, by go_num, HC2⟩
    case round =>
      clear HC2
      obtain ⟨j, hj, rfl, HQ⟩ := hrel
      obtain ⟨k, hfd, hhas⟩ := HQ.out
      by_cases hj0 : 0 < j
      · obtain ⟨d, hd⟩ : ∃ d, d = j - 1 := ⟨_, rfl⟩
        rw [show ((j : Int) - 1) = (d : Int) by omega]
        have Hd := hid (And.intro hd hj0)
        have hdn : d < n := by omega
        have hdI : d < I.length := by rw [← Hn.out]; exact hdn
        have hfr := hfd.row
        rw [← Hn.out] at hfr
        obtain ⟨g, cap', hgv, k0⟩ := row_item hfr d hdI
        cases hgv
        have b0 := k0 0 _ rfl
        have b1 := k0 1 _ rfl
        have b2 := k0 2 _ rfl
        have b3 := k0 3 _ rfl
        have b4 := k0 4 _ rfl
        rw [Nat.add_zero] at b0
        have hxm : I[d] ∈ I := List.getElem_mem hdI
        have hxs := HI.out.seq d hdI
        obtain ⟨x, hx⟩ : ∃ x, x = I[d] := ⟨_, rfl⟩
        rw [← hx] at b0 b1 b2 b3 b4 hxm hxs
        have HX := hid (And.intro hfd (And.intro hxm (And.intro hxs hhas)))
        clear k0 hx hfd hxm hfr hxs hhas hd hj0
        have q4 : (d : Int) < n := by omega
        go_wp2_with (at_builtin; refine stopAt ?_; intro q hq)
        clear b0 b1 b2 b3 b4
        refine (HX.out.1.take HI.out HX.out.2.1).mono ?_
        rintro e w4 ⟨rfl, hf4⟩
        have H4 := hid hf4
        clear hf4
        go_wp2_with (at_builtin; refine stopAt ?_; intro q hq)
        have hdj := Hd.out
        refine ⟨⟨d, by omega, by go_num, hid ⟨_, H4.out, fun q h1 h2 => ?_⟩⟩, by simp [intOf]⟩
        have ht := HX.out.1.sub.take HI.out HX.out.2.1
        by_cases hqd : q = d
        · rw [hqd, ← HX.out.2.2.1]
          exact ht.2.2.2.1
        · exact ht.2.2.2.2 _ (HX.out.2.2.2 q (by omega) h2)
      · have hj1 : j = 0 := by omega
        subst hj1
        obtain ⟨hall, hnx, hnm⟩ := hfd.sub.all HI.out (fun m h1 h2 => by
          have := hhas (m - 1) (by omega) (by omega)
          rwa [show m - 1 + 1 = m by omega] at this)
        have hb := hfd.bounds HI.out
        have HX := hid (And.intro hfd (And.intro hall (And.intro hnx (And.intro hnm hb))))
        clear hfd hall hnx hnm hhas hb
        go_wp2_with (at_builtin; refine stopAt ?_; intro q hq)
        obtain ⟨wo, hwo⟩ : ∃ wo, wo = wr := ⟨_, rfl⟩
        rw [← hwo] at HX HQ ⊢
        clear hwo
        go_loopw [11, 12] (fun cv iv wr' => ∃ (c q : Nat), q ≤ n ∧ cv = .int .i64 (c : Int) ∧ iv = .int .i64 (q : Int) ∧ Hid (LastIs I q c ∧ FedRel W b (.slice ai n ci) I k wr')) (fun _ iv _ => n - (intOf iv).toNat)
        case atStart => exact ⟨0, 0, Nat.zero_le _, rfl, rfl, hid ⟨⟨Nat.le_refl _, .inl rfl, fun _ _ _ h => by omega⟩, HX.out.1⟩⟩
        case round =>
          obtain ⟨c, q, hq, rfl, rfl, HZ⟩ := hrel
          have hcq := HZ.out.1.le
          by_cases hqn : q < n
          · have q4 : (q : Int) < n := by omega
            have hqI : q < I.length := by rw [← Hn.out]; exact hqn
            have hfr := HZ.out.2.row
            rw [← Hn.out] at hfr
            obtain ⟨g, cap', hgv, k0⟩ := row_item hfr q hqI
            cases hgv
            have b1 := k0 1 _ rfl
            obtain ⟨mk, hmk⟩ : ∃ mk, mk = I[q].mark := ⟨_, rfl⟩
            rw [← hmk] at b1
            have hst := HZ.out.1.step hqI
            rw [← hmk] at hst
            have Hst := hid hst
            clear hfr k0 hmk hst
            cases mk with
            | true =>
              go_wp2_with (at_builtin; refine stopAt ?_; intro q hq)
              exact ⟨⟨q + 1, q + 1, by omega, by go_num, by go_num, hid ⟨by simpa using Hst.out, HZ.out.2⟩⟩, by simp [intOf]; omega⟩
            | false =>
              go_wp2_with (at_builtin; refine stopAt ?_; intro q hq)
              exact ⟨⟨c, q + 1, by omega, by go_num, by go_num, hid ⟨by simpa using Hst.out, HZ.out.2⟩⟩, by simp [intOf]; omega⟩
          · have q4 : decide ((q : Int) < (n : Int)) = false := by simp; omega
            have hck : c = k.cut := LastIs.unique HZ.out.1 ⟨by have := HX.out.1.sub.le; have := Hn.out; omega, HX.out.1.sub.mark, fun j hj h1 _ => HX.out.2.2.2.1 j hj h1⟩
            have hcn : c ≤ n := by omega
            obtain ⟨hl, hhl⟩ : ∃ hl : Nat, hl = n - c := ⟨_, rfl⟩
            obtain ⟨nx, hnx⟩ : ∃ nx : Nat, nx = n + 1 := ⟨_, rfl⟩
            have wc1 : IntKind.u64.wrap (c : Int) = (c : Int) := wrapU64 _ (by omega)
            have wc2 : IntKind.i64.wrap ((n : Int) - (c : Int)) = (hl : Int) := by rw [show ((n : Int) - (c : Int)) = (hl : Int) by omega]; exact wrapI64 _ (by omega)
            have wc3 : IntKind.i64.wrap ((n : Int) + 1) = (nx : Int) := by rw [show ((n : Int) + 1) = (nx : Int) by omega]; exact wrapI64 _ (by omega)
            have wc4 : IntKind.u64.wrap (nx : Int) = (nx : Int) := wrapU64 _ (by omega)
            have hh1 : hl = k.held.length := by rw [HX.out.2.1, hhl, ← Hn.out, hck]
            have hh2 : nx = k.next := by rw [HX.out.2.2.1, hnx, ← Hn.out]
            have HD := hid (And.intro hck (And.intro hh1 hh2))
            clear hck hhl hnx hh1 hh2
            go_wp2_with (at_builtin; refine stopAt ?_; intro q hq)
            obtain ⟨F4, hs4⟩ := HZ.out.2.snk
            have hc1 := cut_any wr b F4 k hs4
            rw [← HD.out.1] at hc1
            refine hc1.mono ?_
            clear hc1
            rintro e w5 ⟨rfl, rfl⟩
            have HS4 := hid hs4
            clear hs4
            go_wp2_with (at_builtin; refine stopAt ?_; intro q hq)
            have hc1 := held_any wr b F4 k HS4.out
            rw [← HD.out.2.1] at hc1
            refine hc1.mono ?_
            clear hc1
            rintro e w5 ⟨rfl, rfl⟩
            go_wp2_with (at_builtin; refine stopAt ?_; intro q hq)
            refine (next_any wr b F4 k HS4.out (by have := HX.out.2.2.2.2.1; omega)).mono ?_
            rintro e w5 ⟨jn, rfl, hj1, hj2, hk5⟩
            have hjn : k.cut + 1 + jn = nx := by rw [HD.out.2.2, next_eq HX.out.1.sub.fine.ok hj1 hj2]
            rw [hjn]
            have H5 := hid (HZ.out.2.later hk5)
            clear hk5 hj1 hj2 hjn HS4
            go_wp2_with (at_builtin; refine stopAt ?_; intro q hq)
            have hp := H5.out.pairs HI.out
            rw [← HD.out.1] at hp
            refine hp.mono ?_
            clear hp
            rintro e w6 ⟨u, rfl, hr6, hk6⟩
            obtain ⟨au, cu, rfl, -⟩ := hr6.form
            have H6 := hid (And.intro (H5.out.later hk6) hr6)
            clear hr6 hk6
            go_wp2_with (at_builtin; refine stopAt ?_; intro q hq)
            have hrw := H6.out.1.row
            rw [← Hn.out] at hrw
            refine (rpairs_good w6 _ ci n c I HI.out Hn.out hrw (by omega)).mono ?_
            clear hrw
            rintro e w7 ⟨u, rfl, hr7, hk7⟩
            obtain ⟨au2, cu2, rfl, -⟩ := hr7.form
            have H7 := hid (And.intro (H6.out.1.later hk7) (And.intro (H6.out.2.keep hk7 (fun _ _ x => x)) hr7))
            clear hr7 hk7
            go_wp2_with (at_builtin; refine stopAt ?_; intro q hq)
            refine (same_prs w7 _ _ _ _ _ H7.out.2.1 H7.out.2.2).mono ?_
            rintro e w8 ⟨rfl, hk8⟩
            have H8 := hid (H7.out.1.later hk8)
            clear hk8
            go_wp2_with (at_builtin; refine stopAt ?_; intro q hq)
            refine (known_any w8).mono ?_
            rintro e w9 ⟨rfl, hk9⟩
            have HK := hid (H8.out.keep.next hk9 (fun _ _ x => x) (fun _ _ x => x))
            clear hk9
            go_wp2_with (at_builtin; refine stopAt ?_; intro q hq)
            go_ret
            exact ⟨rfl, HK.out⟩
end Go.Proofs.Ytiilondhppipnaa
/- MirrorApart's walk: what is held, done, or too far ahead changes nothing. Conditions: none. -/
namespace Go.Proofs.Ytiilondhppipnaa
open Go.ChangeShapes Go.WideShapes Go.RowKit Go.Deep
open MI

/-- A cell of the base is set, in the base and later. -/
theorem Keep.both {a w : World} {g o : Nat} {u : Value} (h : Keep (fun _ => False) a w) (_hg : g < a.heap.size) : Keep (fun _ => False) (a.setCell ⟨g, o, none⟩ u) (w.setCell ⟨g, o, none⟩ u) := by
  refine ⟨h.os, h.tape, h.output, by simp [World.setCell]; exact h.size, fun k hk _ => ?_⟩
  have hk' : k < a.heap.size := by simpa [World.setCell] using hk
  have := h.block k hk' id
  simp only [World.setCell, Array.getElem?_modify]
  rw [this]
theorem Keep.base {a w : World} {g : Nat} {o : Obj} (h : Keep (fun _ => False) a w) (hg : a.heap[g]? = some o) : w.heap[g]? = some o := h.get hg id

/-- Only what was taken is held. -/
theorem MI.take_keys (k : Snk) (x : It) (n : Nat) (o : It) (h : AL.get (k.take x).1.held n = some o) : (∃ o', AL.get k.held n = some o') ∨ n = x.seq := by
  unfold Snk.take at h
  split at h
  · exact .inl ⟨o, h⟩
  split at h
  · exact .inl ⟨o, h⟩
  cases hg : AL.get k.held x.seq with
  | some y =>
    rw [hg] at h
    simp only at h
    split at h <;> exact .inl ⟨o, h⟩
  | none =>
    rw [hg] at h
    simp only at h
    split at h
    · exact .inl ⟨o, h⟩
    · simp only at h
      have key : ∀ (m : Nat) (k1 : Snk) (y : It), AL.get (adv k1 m).held n = some y → AL.get k1.held n = some y := by
        intro m
        induction m with
        | zero => exact fun _ _ h => h
        | succ m ih =>
          intro k1 y hy
          rw [adv_step] at hy
          simp only [step1] at hy
          by_cases hn : n = (adv k1 m).cut + 1
          · rw [hn, AL.get_del_same] at hy; cases hy
          · rw [AL.get_del_other _ hn] at hy
            exact ih k1 y hy
      have h2 := key _ _ _ h
      simp only at h2
      by_cases hn : n = x.seq
      · exact .inr hn
      · rw [AL.get_put_other _ _ hn] at h2
        exact .inl ⟨o, h2⟩
/-- An item too far ahead. -/
theorem MI.take_far {I : List It} {k : Snk} (h : Sub I k) (hI : GoodI I) (x : It) (hx : x.seq = k.cut + 513) : k.take x = (k, if rightI x then 5 else 2) := by
  unfold Snk.take
  by_cases hr : rightI x = true
  · rw [if_neg (by rw [hr]; simp), if_neg (by omega), if_pos hr]
    cases hg : AL.get k.held x.seq with
    | some o =>
      have := (List.getElem?_eq_some_iff.1 (h.held _ _ hg)).1
      have := hI.few
      omega
    | none =>
      simp only
      rw [if_pos (by omega)]
  · have hr' : rightI x = false := by simpa using hr
    rw [if_pos hr', if_neg hr]

theorem Three.rebase {w0 w : World} {T U V : Thing} {F G H : Nat → Prop} (h : Three w0 T F U G V H w) (LT : Lives T) (LU : Lives U) (LV : Lives V) {g o : Nat} {u : Value} (hg : g < w0.heap.size) :
    Three (w0.setCell ⟨g, o, none⟩ u) T F U G V H (w.setCell ⟨g, o, none⟩ u) := by
  have hk : Keep (fun i => i = g) w (w.setCell ⟨g, o, none⟩ u) := by refine Keep.setCell (Keep.refl _ _) (.inl ?_) _; rfl
  have hs : (w0.setCell ⟨g, o, none⟩ u).heap.size = w0.heap.size := by simp [World.setCell]
  exact ⟨LT.keep h.one hk (fun i x y => by have := h.new1 i x; omega), LU.keep h.two hk (fun i x y => by have := h.new2 i x; omega), LV.keep h.three hk (fun i x y => by have := h.new3 i x; omega), h.a12, h.a13, h.a23,
    fun i x => by rw [hs]; exact h.new1 i x, fun i x => by rw [hs]; exact h.new2 i x, fun i x => by rw [hs]; exact h.new3 i x, h.keep.both hg⟩

abbrev PrsT (v : Value) (o : List (Str × Str)) : Thing := RowT 72 2 v o.length (prsV o)

set_option maxRecDepth 20000 in
set_option maxHeartbeats 8000000 in
theorem apart_walk (W : World) (vl : Value) (l : List Ch) (hl : SliceOf W 3 ChR vl l) (vm : Value) (ms : List Bool) (hm : Bools W vm ms) (x : It) (hx : ChOk x.ch ∧ x.seq < 18446744073709551616) :
    Calls Try.prog 6 #[vl, vm, itVal x] W fun e w' => e = .returned (.bool true) ∧ Keep (fun _ => False) W w' := by
  have hrow := hid (fun w hk => row_any W w vl vm l ms hl hm hk)
  obtain ⟨ao, cc, rfl, -⟩ := hl.form
  obtain ⟨am, cm, rfl, -⟩ := hm.form
  have HX := hid hx
  obtain ⟨xs, xm, xk, xv, xg⟩ := x
  have hn1 := heap_alloc_new W (.cells #[.int .u64 (xs : Int), .bool xm, .string (str xk), .string (str xv), .bool xg] 33)
  have hk1 : Keep (fun _ => False) W (W.alloc (.cells #[.int .u64 (xs : Int), .bool xm, .string (str xk), .string (str xv), .bool xg] 33)) := (Keep.refl _ _).alloc _
  have H1 := hid (And.intro hn1 hk1)
  unfold itVal
  simp only
  clear hl hm hx hn1 hk1
  go_enter Try.func6, Try.ntmps6
  go_wp2_with (at_builtin; refine stopAt ?_; intro q hq)
  obtain ⟨gx, hgx⟩ : ∃ gx, gx = W.heap.size := ⟨_, rfl⟩
  obtain ⟨W1, hW1⟩ : ∃ W1, W1 = W.alloc (.cells #[.int .u64 (xs : Int), .bool xm, .string (str xk), .string (str xv), .bool xg] 33) := ⟨_, rfl⟩
  rw [← hW1, ← hgx] at H1
  rw [← hW1, ← hgx]
  have Hgx := hid hgx
  clear hW1 hgx
  refine (hrow.out W1 H1.out.2).mono ?_
  rintro e w1 ⟨v, I, rfl, hI, hr, hk1, hoI⟩
  have H2 := hid (And.intro hI (And.intro hr (And.intro hk1 hoI)))
  obtain ⟨ai, ci, rfl, -⟩ := hr.form
  obtain ⟨n, hn⟩ : ∃ n, n = I.length := ⟨_, rfl⟩
  have hn4 : n ≤ 400 := by rw [hn]; exact hI.few
  have Hn := hid hn
  rw [← hn]
  clear hI hr hk1 hoI hrow hn
  go_wp2_with (at_builtin; refine stopAt ?_; intro q hq)
  refine (newSink_any w1).mono ?_
  rintro e w2 ⟨b, F, rfl, hs, hk2, hF⟩
  obtain ⟨hI, hr, hk1, hoI⟩ := H2.out
  have hT : Two W1 (RowT 33 5 (.slice ai I.length ci) I.length (itsV I)) _ (SnkT b Snk.new) F w2 := Two.make (RowT.of hr) (fun i e => hoI i e) hk1 (RowT.lives _ _ _ _ _) hs hF hk2
  have HI := hid hI
  have HS := hid (show FedRel W1 b (.slice ai I.length ci) I Snk.new w2 from ⟨⟨F, _, hT.two, hT.one, fun i x y => hT.apart i y x, hT.new2, hT.new1, hT.keep⟩, Sub.new I⟩)
  rw [← Hn.out] at HS
  clear hI hr hk1 hoI hs hk2 hF hT H2
  obtain ⟨j0, j1, j2, j3, j4, jf, jb⟩ := cells5i (HS.out.keep.base H1.out.1)
  go_wp2_with (at_builtin; refine stopAt ?_; intro q hq)
  clear j0 j1 j2 j3 j4 jf jb
  refine (long_any w2 ⟨xk, xv, xg⟩ HX.out.1).mono ?_
  rintro e w3 ⟨rfl, hk3⟩
  have H3 := hid (HS.out.later hk3)
  clear hk3 HS
  obtain ⟨lg, hlg⟩ : ∃ lg, lg = (decide (1000 < xk.length) || decide (1000 < xv.length)) := ⟨_, rfl⟩
  rw [← hlg]
  clear hlg
  cases lg with
  | true =>
    go_wp2_with (at_builtin; refine stopAt ?_; intro q hq)
    refine (known_any w3).mono ?_
    rintro e w4 ⟨rfl, hk4⟩
    have HK := hid (H1.out.2.next (H3.out.keep.next hk4 (fun _ _ x => x) (fun _ _ x => x)) (fun _ _ x => x) (fun _ _ x => x))
    clear hk4
    go_wp2_with (at_builtin; refine stopAt ?_; intro q hq)
    go_ret
    exact ⟨rfl, HK.out⟩
  | false =>
    go_upto_block 0 with fail
    go_cut [9] (fun s9 wx => Hid (∃ k, FedRel W1 b (.slice ai n ci) I k wx ∧ (∀ q, q < I.length → q % 3 ≠ 1 → Has k (q + 1)) ∧ ∀ m o, AL.get k.held m = some o → (m - 1) % 3 ≠ 1))
    case first =>
      go_wp2_with (at_builtin; refine stopAt ?_; intro q hq)
      go_loopw [9] (fun iv wr => ∃ (i : Nat), i ≤ n ∧ iv = .int .i64 i ∧ Hid (∃ k, FedRel W1 b (.slice ai n ci) I k wr ∧ (∀ q, q < i → q % 3 ≠ 1 → Has k (q + 1)) ∧ ∀ m o, AL.get k.held m = some o → (m - 1) % 3 ≠ 1)) (fun iv _ => n - (intOf iv).toNat)
      case atStart => exact ⟨0, Nat.zero_le _, rfl, hid ⟨_, H3.out, fun q h => by omega, fun m o h => by cases h⟩⟩
      case round =>
        clear H3
        obtain ⟨i, hi, rfl, HS⟩ := hrel
        by_cases h1 : i < n
        · have q1 : (i : Int) < n := by omega
          obtain ⟨r3, hr3⟩ : ∃ r3, r3 = i % 3 := ⟨_, rfl⟩
          have w3 : ((i : Int)).tmod 3 = (r3 : Int) := by rw [Int.tmod_eq_emod_of_nonneg (by omega)]; omega
          have Hr3 := hid hr3
          clear hr3
          by_cases hm3 : r3 = 1
          · have t3 : decide (r3 = 1) = true := by simpa using hm3
            subst hm3
            go_wp2_with (at_builtin; refine stopAt ?_; intro q hq)
            obtain ⟨k, hfd, hh, hn⟩ := HS.out
            exact ⟨⟨i + 1, by omega, by go_num, hid ⟨k, hfd, fun q h1 h2 => hh q (by
              have := Hr3.out
              by_cases hqi : q = i
              · subst hqi; omega
              · omega) h2, hn⟩⟩, by simp [intOf]; omega⟩
          · have t3 : decide (r3 = 1) = false := by simpa using hm3
            have t4 : ((r3 : Int) == 1) = false := by simp; omega
            have t5 : ((r3 : Int) != 1) = true := by simp; omega
            have t6 : decide ((r3 : Int) = 1) = false := by simp; omega
            obtain ⟨k, hfd, hhas, hnot⟩ := HS.out
            have hdI : i < I.length := by rw [← Hn.out]; exact h1
            have hfr := hfd.row
            rw [← Hn.out] at hfr
            obtain ⟨g, cap', hgv, k0⟩ := row_item hfr i hdI
            cases hgv
            have b0 := k0 0 _ rfl
            have b1 := k0 1 _ rfl
            have b2 := k0 2 _ rfl
            have b3 := k0 3 _ rfl
            have b4 := k0 4 _ rfl
            rw [Nat.add_zero] at b0
            have hxm : I[i] ∈ I := List.getElem_mem hdI
            have hxs := HI.out.seq i hdI
            obtain ⟨x, hx⟩ : ∃ x, x = I[i] := ⟨_, rfl⟩
            rw [← hx] at b0 b1 b2 b3 b4 hxm hxs
            have HY := hid (And.intro hfd (And.intro hxm (And.intro hxs (And.intro hhas hnot))))
            clear k0 hx hfd hxm hfr hxs hhas hnot
            go_wp2_with (at_builtin; refine stopAt ?_; intro q hq)
            clear b0 b1 b2 b3 b4
            refine (HY.out.1.take HI.out HY.out.2.1).mono ?_
            rintro e w4 ⟨rfl, hf4⟩
            have H4 := hid hf4
            clear hf4
            go_wp2_with (at_builtin; refine stopAt ?_; intro q hq)
            have ht := HY.out.1.sub.take HI.out HY.out.2.1
            refine ⟨⟨i + 1, by omega, by go_num, hid ⟨_, H4.out, fun q h1 h2 => ?_, fun m o ho => ?_⟩⟩, by simp [intOf]; omega⟩
            · by_cases hqi : q = i
              · rw [hqi, ← HY.out.2.2.1]
                exact ht.2.2.2.1
              · exact ht.2.2.2.2 _ (HY.out.2.2.2.1 q (by omega) h2)
            · rcases MI.take_keys k x m o ho with ⟨o', h⟩ | h
              · exact HY.out.2.2.2.2 m o' h
              · rw [h, HY.out.2.2.1, Nat.add_sub_cancel]
                have := Hr3.out
                omega
        · have q1 : decide ((i : Int) < (n : Int)) = false := by simp; omega
          have hin : i = n := by omega
          subst hin
          go_wp2_with (at_builtin; refine stopAt ?_; intro q hq)
          go_meet
          obtain ⟨k, h1, h2, h3⟩ := HS.out
          exact hid ⟨k, h1, fun q hq => h2 q (by rw [Hn.out]; exact hq), h3⟩
    case rest =>
      have HC : Hid (∃ k, FedRel W1 b (.slice ai n ci) I k wc ∧ (∀ q, q < I.length → q % 3 ≠ 1 → Has k (q + 1)) ∧ ∀ m o, AL.get k.held m = some o → (m - 1) % 3 ≠ 1) := hcut
      clear hcut H3
      obtain ⟨k, hfd, hhas, hnot⟩ := HC.out
      obtain ⟨F, G, hT⟩ := hfd.ex
      have hsub := hfd.sub
      have hbd := hfd.bounds HI.out
      obtain ⟨ct, hct⟩ : ∃ ct, ct = k.cut := ⟨_, rfl⟩
      obtain ⟨hd, hhd⟩ : ∃ hd, hd = k.held.length := ⟨_, rfl⟩
      obtain ⟨ps, hps⟩ : ∃ ps, ps = layAll (I.take k.cut) := ⟨_, rfl⟩
      have HT := hid (And.intro hT (And.intro hsub (And.intro hhas hnot)))
      have HD := hid (And.intro hct (And.intro hhd hps))
      have hct4 : ct ≤ 400 := by rw [hct]; have := hbd.2.2.1; have := HI.out.few; omega
      have Hbd := hid hbd
      have Hf := hid hfd
      clear hT hsub hhas hnot hct hhd hps hbd hfd
      go_wp2_with (at_builtin; refine stopAt ?_; intro q hq)
      have hc1 := cut_any wc b F k HT.out.1.one
      rw [← HD.out.1] at hc1
      refine hc1.mono ?_
      clear hc1
      rintro e w5 ⟨rfl, rfl⟩
      go_wp2_with (at_builtin; refine stopAt ?_; intro q hq)
      have hc1 := held_any wc b F k HT.out.1.one
      rw [← HD.out.2.1] at hc1
      refine hc1.mono ?_
      clear hc1
      rintro e w5 ⟨rfl, rfl⟩
      go_wp2_with (at_builtin; refine stopAt ?_; intro q hq)
      have hp := pairs_any wc b F k HT.out.1.one (by have := layAll_len k.done; have := Hbd.out.2.1; omega) HT.out.2.1.fine.keys
      rw [HT.out.2.1.done, ← HD.out.2.2] at hp
      refine hp.mono ?_
      clear hp
      rintro e w6 ⟨u, rfl, hr6, hk6, ho6⟩
      obtain ⟨au, cu, rfl, -⟩ := hr6.form
      have H6 := hid (HT.out.1.and (SnkT.lives _ _) (RowT.lives _ _ _ _ _) (RowT.of hr6) ho6 hk6)
      obtain ⟨j0, j1, j2, j3, j4, jf, jb⟩ := cells5i (H6.out.keep.base H1.out.1)
      clear hr6 hk6 ho6
      obtain ⟨xr, hxr⟩ : ∃ xr, xr = xs % 100 := ⟨_, rfl⟩
      have wr3 : ((xs : Int)).tmod 100 = (xr : Int) := by rw [Int.tmod_eq_emod_of_nonneg (by omega)]; omega
      have wr4 : IntKind.u64.wrap (xr : Int) = (xr : Int) := wrapU64 _ (by omega)
      have hxr9 : xr < 100 := by omega
      have Hxr := hid hxr
      clear hxr
      go_upto_region 14 with fail
      clear j0 j1 j2 j3 j4 jf jb
      have hgl : gx < W1.heap.size := heap_lt H1.out.1
      have hT7 := H6.out.rebase (SnkT.lives _ _) (RowT.lives _ _ _ _ _) (RowT.lives _ _ _ _ _) (g := gx) (o := 0) (u := .int .u64 (xr : Int)) hgl
      have hn7 : (W1.setCell ⟨gx, 0, none⟩ (.int .u64 (xr : Int))).heap[gx]? = some (.cells #[.int .u64 (xr : Int), .bool xm, .string (str xk), .string (str xv), .bool xg] 33 (0, 0)) := by
        simp [World.setCell, Array.getElem?_modify, H1.out.1]
      have hkW7 : Keep (fun _ => False) W (W1.setCell ⟨gx, 0, none⟩ (.int .u64 (xr : Int))) := Keep.setCell H1.out.2 (.inr (by rw [Hgx.out]; exact Nat.le_refl _)) _
      obtain ⟨W2, hW2⟩ : ∃ W2, W2 = W1.setCell ⟨gx, 0, none⟩ (.int .u64 (xr : Int)) := ⟨_, rfl⟩
      obtain ⟨w7, hw7⟩ : ∃ w7, w7 = w6.setCell ⟨gx, 0, none⟩ (.int .u64 (xr : Int)) := ⟨_, rfl⟩
      rw [← hW2] at hT7 hn7 hkW7
      rw [← hw7] at hT7
      rw [← hw7]
      have H7 := hid hT7
      have HG := hid (And.intro hn7 hkW7)
      clear hT7 hn7 hkW7 hW2 hw7 hgl H6
      obtain ⟨j0, j1, j2, j3, j4, jf, jb⟩ := cells5i (H7.out.keep.base HG.out.1)
      go_wp2_with (at_builtin; refine stopAt ?_; intro q hq)
      clear j0 j1 j2 j3 j4 jf jb
      obtain ⟨kt, hkt⟩ : ∃ kt, kt = k.take ⟨xr, xm, ⟨xk, xv, xg⟩⟩ := ⟨_, rfl⟩
      have htk := take_any w7 b F k ⟨xr, xm, ⟨xk, xv, xg⟩⟩ H7.out.one Hbd.out.1 Hbd.out.2.1 (by simp only; omega)
      rw [← hkt] at htk
      have Hkt := hid hkt
      clear hkt
      refine htk.mono ?_
      clear htk
      rintro e w8 ⟨rfl, ht⟩
      obtain ⟨F8, hT8⟩ := H7.out.turn1 (RowT.lives _ _ _ _ _) (RowT.lives _ _ _ _ _) (T' := SnkT b kt.1) ht
      have H8 := hid hT8
      clear ht hT8
      obtain ⟨k8, r8⟩ := kt
      simp only at H8 ⊢
      obtain ⟨j0, j1, j2, j3, j4, jf, jb⟩ := cells5i (H8.out.keep.base HG.out.1)
      go_wp2_with (at_builtin; refine stopAt ?_; intro q hq)
      clear j0 j1 j2 j3 j4 jf jb
      refine (rrightI_any w8 ⟨xr, xm, ⟨xk, xv, xg⟩⟩).mono ?_
      rintro e w9 ⟨rfl, hk9⟩
      have H9 := hid (H8.out.later (SnkT.lives _ _) (RowT.lives _ _ _ _ _) (RowT.lives _ _ _ _ _) hk9)
      clear hk9 H8
      obtain ⟨rt, hrt⟩ : ∃ rt, rt = rightI ⟨xr, xm, ⟨xk, xv, xg⟩⟩ := ⟨_, rfl⟩
      rw [← hrt]
      have htk := Hkt.out
      unfold Snk.take at htk
      simp only at htk
      rw [← hrt, ← HD.out.1] at htk
      clear hrt
      go_upto_block 2 with fail
      go_cut [] (fun wx => Hid (∃ F, Three W2 (SnkT b k) F (RowT 33 5 (.slice ai n ci) I.length (itsV I)) G (PrsT (.slice au ps.length cu) ps) (fun i => (Value.slice au ps.length cu).ownBlock = some i) wx))
      case first =>
        cases rt with
        | false =>
          rw [if_pos rfl] at htk
          cases htk
          go_wp2_with (at_builtin; refine stopAt ?_; intro q hq)
          go_meet
          exact hid ⟨F8, H9.out⟩
        | true =>
          rw [if_neg (by simp)] at htk
          obtain ⟨j0, j1, j2, j3, j4, jf, jb⟩ := cells5i (H9.out.keep.base HG.out.1)
          by_cases hsc : xr ≤ ct
          · have t1 : (xr : Int) ≤ (ct : Int) := by omega
            rw [if_pos hsc] at htk
            cases htk
            go_wp2_with (at_builtin; refine stopAt ?_; intro q hq)
            go_meet
            exact hid ⟨F8, H9.out⟩
          · have t1 : decide ((xr : Int) ≤ (ct : Int)) = false := by simp; omega
            have n1 : decide (xr ≤ ct) = false := by simp; omega
            rw [if_neg hsc] at htk
            obtain ⟨e, he⟩ : ∃ e, e = xr - 1 := ⟨_, rfl⟩
            have wa : IntKind.i64.wrap (xr : Int) = (xr : Int) := wrapI64 _ (by omega)
            have wb : IntKind.i64.wrap ((xr : Int) - 1) = (e : Int) := by rw [show ((xr : Int) - 1) = (e : Int) by omega]; exact wrapI64 _ (by omega)
            have wc' : IntKind.u64.wrap ((xr : Int) - 1) = (e : Int) := by rw [show ((xr : Int) - 1) = (e : Int) by omega]; exact wrapU64 _ (by omega)
            obtain ⟨r3, hr3⟩ : ∃ r3, r3 = e % 3 := ⟨_, rfl⟩
            have w3 : ((e : Int)).tmod 3 = (r3 : Int) := by rw [Int.tmod_eq_emod_of_nonneg (by omega)]; omega
            have hx1 : xr = e + 1 := by omega
            have Hx1 := hid (And.intro hx1 hr3)
            have Htk := hid htk
            clear he htk hx1 hr3
            have dflt : AL.get k.held xr = none → r8 = 0 := fun hno => by
              have h := Htk.out
              rw [hno] at h
              simp only at h
              rw [if_neg (by omega)] at h
              simp only [Prod.mk.injEq] at h
              exact h.2
            by_cases hxn : xr ≤ n
            · have t2 : (xr : Int) ≤ (n : Int) := by omega
              have n2 : decide (xr ≤ n) = true := by simpa using hxn
              by_cases hm3 : r3 = 1
              · have t3 : decide (r3 = 1) = true := by simpa using hm3
                have hr0 := dflt (by
                  cases hg : AL.get k.held xr with
                  | none => rfl
                  | some o =>
                    have h1 := HT.out.2.2.2 xr o hg
                    have h2 := Hx1.out
                    omega)
                subst hr0
                have Hm3 := hid hm3
                have t4 : ((r3 : Int) == 1) = true := by simp; omega
                have t5 : ((r3 : Int) != 1) = false := by simp; omega
                have t6 : decide ((r3 : Int) = 1) = true := by simp; omega
                clear hm3 dflt
                go_wp2_with (at_builtin; refine stopAt ?_; intro q hq)
                refine (known_any w9).mono ?_
                rintro e w10 ⟨rfl, hk10⟩
                have HK := hid (HG.out.2.next (H9.out.keep.next hk10 (fun _ _ x => x) (fun _ _ x => x)) (fun _ _ x => x) (fun _ _ x => x))
                clear hk10
                go_wp2_with (at_builtin; refine stopAt ?_; intro q hq)
                go_ret
                exact ⟨rfl, HK.out⟩
              · have t3 : decide (r3 = 1) = false := by simpa using hm3
                have t4 : ((r3 : Int) == 1) = false := by simp; omega
                have t5 : ((r3 : Int) != 1) = true := by simp; omega
                have t6 : decide ((r3 : Int) = 1) = false := by simp; omega
                have heI : e < I.length := by rw [← Hn.out]; have := Hx1.out; omega
                have hen : (e : Int) < (n : Int) := by have := Hx1.out; omega
                have hhl : AL.get k.held xr = some I[e] := by
                  rcases HT.out.2.2.1 e heI (by rw [← Hx1.out.2]; exact hm3) with h | h
                  · rw [← HD.out.1, ← Hx1.out.1] at h; omega
                  · rw [← Hx1.out.1] at h
                    obtain ⟨o, ho⟩ := Option.isSome_iff_exists.1 h
                    have h2 := HT.out.2.1.held _ _ ho
                    rw [Hx1.out.1, Nat.add_sub_cancel, List.getElem?_eq_getElem heI] at h2
                    cases h2
                    exact ho
                have htk := Htk.out
                rw [hhl] at htk
                simp only at htk
                have hcmp := fun w => item_eql I[e] ⟨xr, xm, ⟨xk, xv, xg⟩⟩ w
                have hfr := H9.out.two.1
                rw [← Hn.out] at hfr
                obtain ⟨g, cap', hgv, k0⟩ := row_item hfr e heI
                cases hgv
                obtain ⟨it, hit⟩ : ∃ it, it = I[e] := ⟨_, rfl⟩
                rw [← hit] at k0 hcmp htk
                obtain ⟨cb, hcb⟩ : ∃ cb, cb = decide (it = ⟨xr, xm, ⟨xk, xv, xg⟩⟩) := ⟨_, rfl⟩
                rw [← hcb] at hcmp
                obtain ⟨is, im, ik, iv, ig⟩ := it
                have b0 := k0 0 _ rfl
                have b1 := k0 1 _ rfl
                have b2 := k0 2 _ rfl
                have b3 := k0 3 _ rfl
                have b4 := k0 4 _ rfl
                rw [Nat.add_zero] at b0
                simp only [itVal] at b0 b1 b2 b3 b4 hcmp
                clear k0 hit hfr dflt hhl
                cases cb with
                | true =>
                  rw [if_pos (of_decide_eq_true hcb.symm)] at htk
                  cases htk
                  clear hcb
                  go_wp2_with (at_builtin; refine stopAt ?_; intro q hq)
                  go_quiet (fail)
                  go_wp2_with (at_builtin; refine stopAt ?_; intro q hq)
                  go_meet
                  exact hid ⟨F8, H9.out.later (SnkT.lives _ _) (RowT.lives _ _ _ _ _) (RowT.lives _ _ _ _ _) ((Keep.refl _ _).drewN _)⟩
                | false =>
                  rw [if_neg (of_decide_eq_false hcb.symm)] at htk
                  cases htk
                  clear hcb
                  go_wp2_with (at_builtin; refine stopAt ?_; intro q hq)
                  go_quiet (fail)
                  go_wp2_with (at_builtin; refine stopAt ?_; intro q hq)
                  go_meet
                  exact hid ⟨F8, H9.out.later (SnkT.lives _ _) (RowT.lives _ _ _ _ _) (RowT.lives _ _ _ _ _) ((Keep.refl _ _).drewN _)⟩
            · have t2 : decide ((xr : Int) ≤ (n : Int)) = false := by simp; omega
              have n2 : decide (xr ≤ n) = false := by simpa using hxn
              have hr0 := dflt (by
                cases hg : AL.get k.held xr with
                | none => rfl
                | some o =>
                  have h2 := (List.getElem?_eq_some_iff.1 (HT.out.2.1.held _ _ hg)).1
                  have := Hn.out
                  omega)
              subst hr0
              clear dflt
              go_wp2_with (at_builtin; refine stopAt ?_; intro q hq)
              refine (known_any w9).mono ?_
              rintro e w10 ⟨rfl, hk10⟩
              have HK := hid (HG.out.2.next (H9.out.keep.next hk10 (fun _ _ x => x) (fun _ _ x => x)) (fun _ _ x => x) (fun _ _ x => x))
              clear hk10
              go_wp2_with (at_builtin; refine stopAt ?_; intro q hq)
              go_ret
              exact ⟨rfl, HK.out⟩
      case rest =>
        obtain ⟨F10, h10⟩ := (show ∃ F, Three W2 (SnkT b k) F (RowT 33 5 (.slice ai n ci) I.length (itsV I)) G (PrsT (.slice au ps.length cu) ps) (fun i => (Value.slice au ps.length cu).ownBlock = some i) wc from Hid.out hcut)
        have H10 := hid h10
        clear h10 hcut htk
        obtain ⟨j0, j1, j2, j3, j4, jf, jb⟩ := cells5i (H10.out.keep.base HG.out.1)
        obtain ⟨fs, hfs⟩ : ∃ fs, fs = ct + 513 := ⟨_, rfl⟩
        have wf : IntKind.u64.wrap ((ct : Int) + 513) = (fs : Int) := by rw [show ((ct : Int) + 513) = (fs : Int) by omega]; exact wrapU64 _ (by omega)
        have Hfs := hid hfs
        clear hfs
        go_upto_region 28 with fail
        clear j0 j1 j2 j3 j4 jf jb
        have hnf := heap_alloc_new wc (.cells #[.int .u64 (fs : Int), .bool xm, .string (str xk), .string (str xv), .bool xg] 33)
        have hkf : Keep (fun _ => False) wc (wc.alloc (.cells #[.int .u64 (fs : Int), .bool xm, .string (str xk), .string (str xv), .bool xg] 33)) := (Keep.refl _ _).alloc _
        obtain ⟨gf, hgf⟩ : ∃ gf, gf = wc.heap.size := ⟨_, rfl⟩
        obtain ⟨w11, hw11⟩ : ∃ w11, w11 = wc.alloc (.cells #[.int .u64 (fs : Int), .bool xm, .string (str xk), .string (str xv), .bool xg] 33) := ⟨_, rfl⟩
        rw [← hw11] at hkf
        rw [← hw11, ← hgf] at hnf
        rw [← hw11, ← hgf]
        have hgfF : ¬ F10 gf := fun x => by have := (SnkT.lives _ _).lt H10.out.one gf x; omega
        have H11 := hid (H10.out.later (SnkT.lives _ _) (RowT.lives _ _ _ _ _) (RowT.lives _ _ _ _ _) hkf)
        have HN11 := hid (And.intro hnf hgfF)
        clear hkf hgfF hw11 hgf
        obtain ⟨j0, j1, j2, j3, j4, jf, jb⟩ := cells5i hnf
        clear hnf
        go_wp2_with (at_builtin; refine stopAt ?_; intro q hq)
        clear j0 j1 j2 j3 j4 jf jb
        have htk := take_any w11 b F10 k ⟨fs, xm, ⟨xk, xv, xg⟩⟩ H11.out.one Hbd.out.1 Hbd.out.2.1 (by have := Hfs.out; simp only; omega)
        rw [MI.take_far HT.out.2.1 HI.out ⟨fs, xm, ⟨xk, xv, xg⟩⟩ (by rw [← HD.out.1]; exact Hfs.out)] at htk
        refine htk.mono ?_
        clear htk
        rintro e w12 ⟨rfl, ht⟩
        have hn12 := ht.choose_spec.2.1.get HN11.out.1 HN11.out.2
        obtain ⟨F12, hT12⟩ := H11.out.turn1 (RowT.lives _ _ _ _ _) (RowT.lives _ _ _ _ _) (T' := SnkT b k) ht
        have H12 := hid hT12
        have HN12 := hid hn12
        clear ht hT12 hn12 H11
        obtain ⟨rf, hrf⟩ : ∃ rf, rf = rightI ⟨fs, xm, ⟨xk, xv, xg⟩⟩ := ⟨_, rfl⟩
        simp only
        rw [← hrf]
        have Hrf := hid hrf
        clear hrf
        obtain ⟨rr, hrr⟩ : ∃ rr : Nat, rr = if rf = true then 5 else 2 := ⟨_, rfl⟩
        rw [← hrr]
        have Hrr := hid hrr
        clear hrr
        go_wp2_with (at_builtin; refine stopAt ?_; intro q hq)
        have hc1 := cut_any w12 b F12 k H12.out.one
        rw [← HD.out.1] at hc1
        refine hc1.mono ?_
        clear hc1
        rintro e w5 ⟨rfl, rfl⟩
        go_wp2_with (at_builtin; refine stopAt ?_; intro q hq)
        have hc1 := held_any w12 b F12 k H12.out.one
        rw [← HD.out.2.1] at hc1
        refine hc1.mono ?_
        clear hc1
        rintro e w5 ⟨rfl, rfl⟩
        go_wp2_with (at_builtin; refine stopAt ?_; intro q hq)
        have hp := pairs_any w12 b F12 k H12.out.one (by have := layAll_len k.done; have := Hbd.out.2.1; omega) HT.out.2.1.fine.keys
        rw [HT.out.2.1.done, ← HD.out.2.2] at hp
        refine hp.mono ?_
        clear hp
        rintro e w13 ⟨u, rfl, hr13, hk13, -⟩
        obtain ⟨au2, cu2, rfl, -⟩ := hr13.form
        have H13 := hid (And.intro (H12.out.later (SnkT.lives _ _) (RowT.lives _ _ _ _ _) (RowT.lives _ _ _ _ _) hk13) hr13)
        have HN13 := hid (hk13.get HN12.out id)
        clear hr13 hk13 H12 HN12
        go_wp2_with (at_builtin; refine stopAt ?_; intro q hq)
        refine (same_prs w13 _ _ _ _ _ H13.out.2 H13.out.1.three.1).mono ?_
        rintro e w14 ⟨rfl, hk14⟩
        have H14 := hid (H13.out.1.keep.next hk14 (fun _ _ x => x) (fun _ _ x => x))
        have hn14 := hk14.get HN13.out id
        obtain ⟨j0, j1, j2, j3, j4, jf, jb⟩ := cells5i hn14
        clear hk14 hn14 H13 HN13
        cases rf with
        | true =>
          have hrr : rr = 5 := Hrr.out
          subst hrr
          go_wp2_with (at_builtin; refine stopAt ?_; intro q hq)
          clear j0 j1 j2 j3 j4 jf jb
          refine (known_any w14).mono ?_
          rintro e w15 ⟨rfl, hk15⟩
          have HK := hid (HG.out.2.next (H14.out.next hk15 (fun _ _ x => x) (fun _ _ x => x)) (fun _ _ x => x) (fun _ _ x => x))
          clear hk15
          go_wp2_with (at_builtin; refine stopAt ?_; intro q hq)
          go_ret
          exact ⟨rfl, HK.out⟩
        | false =>
          have hrr : rr = 2 := Hrr.out
          subst hrr
          go_wp2_with (at_builtin; refine stopAt ?_; intro q hq)
          clear j0 j1 j2 j3 j4 jf jb
          have hri := rrightI_any w14 ⟨fs, xm, ⟨xk, xv, xg⟩⟩
          rw [← Hrf.out] at hri
          refine hri.mono ?_
          clear hri
          rintro e w15 ⟨rfl, hk15⟩
          have H15 := hid (H14.out.next hk15 (fun _ _ x => x) (fun _ _ x => x))
          clear hk15 H14
          go_wp2_with (at_builtin; refine stopAt ?_; intro q hq)
          refine (known_any w15).mono ?_
          rintro e w16 ⟨rfl, hk16⟩
          have HK := hid (HG.out.2.next (H15.out.next hk16 (fun _ _ x => x) (fun _ _ x => x)) (fun _ _ x => x) (fun _ _ x => x))
          clear hk16
          go_wp2_with (at_builtin; refine stopAt ?_; intro q hq)
          go_ret
          exact ⟨rfl, HK.out⟩
end Go.Proofs.Ytiilondhppipnaa
/- MirrorNil's walk: what is not there answers so; two sinks know nothing of one another. Conditions: none. -/
namespace Go.Proofs.Ytiilondhppipnaa
open Go.ChangeShapes Go.WideShapes Go.RowKit Go.Deep
open MI

theorem Keep.base' {a w : World} {g : Nat} {o : Obj} (h : Keep (fun _ => False) a w) (hg : a.heap[g]? = some o) : w.heap[g]? = some o := h.get hg id

set_option maxRecDepth 20000 in
set_option maxHeartbeats 8000000 in
theorem nil_walk (W : World) (c : Ch) (hc : ChOk c) (x : It) (hx : ChOk x.ch ∧ x.seq < 18446744073709551616) :
    Calls Try.prog 9 #[chVal c, itVal x] W fun e w' => e = .returned (.bool true) ∧ Keep (fun _ => False) W w' := by
  have HX := hid (And.intro hc hx)
  obtain ⟨xs, xm, xk, xv, xg⟩ := x
  obtain ⟨ck, cv, cg⟩ := c
  have hna := heap_alloc_new W (.cells #[.string (str ck), .string (str cv), .bool cg] 31)
  have hka : Keep (fun _ => False) W (W.alloc (.cells #[.string (str ck), .string (str cv), .bool cg] 31)) := (Keep.refl _ _).alloc _
  obtain ⟨Wa, hWa⟩ : ∃ Wa, Wa = W.alloc (.cells #[.string (str ck), .string (str cv), .bool cg] 31) := ⟨_, rfl⟩
  rw [← hWa] at hna hka
  have hnb := heap_alloc_new Wa (.cells #[.int .u64 (xs : Int), .bool xm, .string (str xk), .string (str xv), .bool xg] 33)
  have hkb : Keep (fun _ => False) Wa (Wa.alloc (.cells #[.int .u64 (xs : Int), .bool xm, .string (str xk), .string (str xv), .bool xg] 33)) := (Keep.refl _ _).alloc _
  have hna' := hkb.get hna id
  have hsz : Wa.heap.size = W.heap.size + 1 := by rw [hWa]; exact Array.size_push _
  rw [hsz] at hnb
  have H1 := hid (And.intro hna' (And.intro hnb (hka.next hkb (fun _ _ x => x) (fun _ _ x => x))))
  obtain ⟨k0, k1, k2, kf, kb⟩ := cells3i hna'
  rw [hWa] at H1 k0 k1 k2 kf kb
  unfold itVal chVal
  simp only
  clear hc hx hna hka hnb hkb hna' hsz hWa
  go_enter Try.func9, Try.ntmps9
  go_wp2_with (at_builtin; refine stopAt ?_; intro q hq)
  clear k0 k1 k2 kf kb
  obtain ⟨W1, hW1⟩ : ∃ W1, W1 = (W.alloc (.cells #[.string (str ck), .string (str cv), .bool cg] 31)).alloc (.cells #[.int .u64 (xs : Int), .bool xm, .string (str xk), .string (str xv), .bool xg] 33) := ⟨_, rfl⟩
  rw [← hW1] at H1
  rw [← hW1]
  clear hW1
  refine (long_any W1 ⟨ck, cv, cg⟩ HX.out.1).mono ?_
  rintro e w2 ⟨rfl, hk2⟩
  have K2 := hid hk2
  clear hk2
  obtain ⟨lg, hlg⟩ : ∃ lg, lg = (decide (1000 < ck.length) || decide (1000 < cv.length)) := ⟨_, rfl⟩
  rw [← hlg]
  clear hlg
  cases lg with
  | true =>
    go_wp2_with (at_builtin; refine stopAt ?_; intro q hq)
    refine (known_any w2).mono ?_
    rintro e w4 ⟨rfl, hk4⟩
    have HK := hid (H1.out.2.2.next (K2.out.next hk4 (fun _ _ x => x) (fun _ _ x => x)) (fun _ _ x => x) (fun _ _ x => x))
    clear hk4
    go_wp2_with (at_builtin; refine stopAt ?_; intro q hq)
    go_ret
    exact ⟨rfl, HK.out⟩
  | false =>
    obtain ⟨j0, j1, j2, j3, j4, jf, jb⟩ := cells5i (K2.out.base' H1.out.2.1)
    go_wp2_with (at_builtin; refine stopAt ?_; intro q hq)
    clear j0 j1 j2 j3 j4 jf jb
    refine (long_any w2 ⟨xk, xv, xg⟩ HX.out.2.1).mono ?_
    rintro e w3 ⟨rfl, hk3⟩
    have K3 := hid (K2.out.next hk3 (fun _ _ x => x) (fun _ _ x => x))
    clear hk3 K2
    obtain ⟨lg, hlg⟩ : ∃ lg, lg = (decide (1000 < xk.length) || decide (1000 < xv.length)) := ⟨_, rfl⟩
    rw [← hlg]
    clear hlg
    cases lg with
    | true =>
      go_wp2_with (at_builtin; refine stopAt ?_; intro q hq)
      refine (known_any w3).mono ?_
      rintro e w4 ⟨rfl, hk4⟩
      have HK := hid (H1.out.2.2.next (K3.out.next hk4 (fun _ _ x => x) (fun _ _ x => x)) (fun _ _ x => x) (fun _ _ x => x))
      clear hk4
      go_wp2_with (at_builtin; refine stopAt ?_; intro q hq)
      go_ret
      exact ⟨rfl, HK.out⟩
    | false =>
      obtain ⟨k0, k1, k2, kf, kb⟩ := cells3i (K3.out.base' H1.out.1)
      go_wp2_with (at_builtin; refine stopAt ?_; intro q hq)
      clear k0 k1 k2 kf kb
      refine (do_nil w3 ⟨ck, cv, cg⟩).mono ?_
      rintro e w4 ⟨rfl, hk4⟩
      have K4 := hid (K3.out.next hk4 (fun _ _ x => x) (fun _ _ x => x))
      clear hk4 K3
      go_wp2_with (at_builtin; refine stopAt ?_; intro q hq)
      refine (mark_nil w4).mono ?_
      rintro e w5 ⟨rfl, rfl⟩
      go_wp2_with (at_builtin; refine stopAt ?_; intro q hq)
      refine (last_nil w4).mono ?_
      rintro e w5 ⟨rfl, rfl⟩
      go_wp2_with (at_builtin; refine stopAt ?_; intro q hq)
      refine (from_nil w4 0 9).mono ?_
      rintro e w5 ⟨rfl, rfl⟩
      go_wp2_with (at_builtin; refine stopAt ?_; intro q hq)
      refine (trim_nil w4 9).mono ?_
      rintro e w5 ⟨rfl, rfl⟩
      obtain ⟨j0, j1, j2, j3, j4, jf, jb⟩ := cells5i (K4.out.base' H1.out.2.1)
      go_wp2_with (at_builtin; refine stopAt ?_; intro q hq)
      clear j0 j1 j2 j3 j4 jf jb
      refine (stake_nil w4 ⟨xs, xm, ⟨xk, xv, xg⟩⟩).mono ?_
      rintro e w5 ⟨rfl, hk5⟩
      have K5 := hid (K4.out.next hk5 (fun _ _ x => x) (fun _ _ x => x))
      clear hk5 K4
      go_wp2_with (at_builtin; refine stopAt ?_; intro q hq)
      refine (snext_nil w5).mono ?_
      rintro e w6 ⟨rfl, rfl⟩
      go_wp2_with (at_builtin; refine stopAt ?_; intro q hq)
      refine (scut_nil w5).mono ?_
      rintro e w6 ⟨rfl, rfl⟩
      go_wp2_with (at_builtin; refine stopAt ?_; intro q hq)
      refine (spairs_nil w5).mono ?_
      rintro e w6 ⟨rfl, rfl⟩
      go_wp2_with (at_builtin; refine stopAt ?_; intro q hq)
      refine (sheld_nil w5).mono ?_
      rintro e w6 ⟨rfl, rfl⟩
      go_wp2_with (at_builtin; refine stopAt ?_; intro q hq)
      refine (newSink_any w5).mono ?_
      rintro e w6 ⟨a, F, rfl, hs, hk6, hF⟩
      have H6 := hid (And.intro hs (And.intro hk6 hF))
      clear hs hk6 hF
      go_wp2_with (at_builtin; refine stopAt ?_; intro q hq)
      refine (newSink_any w6).mono ?_
      rintro e w7 ⟨b, G, rfl, hs, hk7, hG⟩
      have H7 := hid (show Two w5 (SnkT a Snk.new) F (SnkT b Snk.new) G w7 from Two.make H6.out.1 H6.out.2.2 H6.out.2.1 (SnkT.lives _ _) hs hG hk7)
      clear hs hk7 hG H6
      obtain ⟨j0, j1, j2, j3, j4, jf, jb⟩ := cells5i (H7.out.keep.base' (K5.out.base' H1.out.2.1))
      go_wp2_with (at_builtin; refine stopAt ?_; intro q hq)
      clear j0 j1 j2 j3 j4 jf jb
      refine (take_any w7 a F Snk.new ⟨xs, xm, ⟨xk, xv, xg⟩⟩ H7.out.one (by decide) (by decide) HX.out.2.2).mono ?_
      rintro e w8 ⟨rfl, ht⟩
      obtain ⟨F8, h8⟩ := H7.out.turn1 (SnkT.lives _ _) (T' := SnkT a (Snk.new.take ⟨xs, xm, ⟨xk, xv, xg⟩⟩).1) ht
      have H8 := hid h8
      clear ht h8 H7
      obtain ⟨ka, hka⟩ : ∃ ka, ka = (Snk.new.take ⟨xs, xm, ⟨xk, xv, xg⟩⟩).1 := ⟨_, rfl⟩
      have hfi := Fine.new.take ⟨xs, xm, ⟨xk, xv, xg⟩⟩
      have htl := (MI.take_len Snk.new ⟨xs, xm, ⟨xk, xv, xg⟩⟩ Fine.new.ok).2.1
      rw [← hka] at H8 hfi htl
      have HF := hid (And.intro hfi htl)
      clear hka hfi htl
      go_wp2_with (at_builtin; refine stopAt ?_; intro q hq)
      refine (pairs_any w8 a F8 ka H8.out.one (by have := layAll_len ka.done; have := HF.out.2; simp [Snk.new] at this; omega) HF.out.1.keys).mono ?_
      rintro e w9 ⟨u, rfl, hr9, hk9, ho9⟩
      obtain ⟨o, ho⟩ : ∃ o, o = layAll ka.done := ⟨_, rfl⟩
      rw [← ho] at hr9
      obtain ⟨au, cu, rfl, -⟩ := hr9.form
      have H9 := hid (H8.out.and (SnkT.lives _ _) (SnkT.lives _ _) (RowT.of hr9) ho9 hk9)
      clear hr9 hk9 ho9 ho H8
      obtain ⟨n, hn⟩ : ∃ n, n = o.length := ⟨_, rfl⟩
      have hn63 : (o.length : Int) ≤ 9223372036854775807 := by obtain ⟨_, _, _, x1, x2, _⟩ := H9.out.three.1.form; unfold maxLen at x2; omega
      have H10 := hid (show Keep (fun j => (Value.slice au o.length cu).ownBlock = some j) w9 w9 ∧ ∃ xs, Row w9 72 2 (.slice au o.length cu) o.length xs from ⟨Keep.refl _ _, _, H9.out.three.1⟩)
      rw [← hn] at H10 H9 hn63 ⊢
      clear hn
      go_upto_block 0 with fail
      go_cut [16] (fun s16 wx => Hid (Keep (fun j => (Value.slice au n cu).ownBlock = some j) w9 wx))
      case first =>
        go_wp2_with (at_builtin; refine stopAt ?_; intro q hq)
        go_loopw [16] (fun kv wr' => ∃ q : Nat, q ≤ n ∧ kv = .int .i64 (q : Int) ∧ Hid (Keep (fun j => (Value.slice au n cu).ownBlock = some j) w9 wr' ∧ ∃ xs, Row wr' 72 2 (.slice au n cu) n xs)) (fun kv _ => n - (intOf kv).toNat)
        case atStart => exact ⟨0, Nat.zero_le _, rfl, H10⟩
        case round =>
          clear H10
          obtain ⟨q, hqn, rfl, HQ⟩ := hrel
          by_cases hq : q < n
          · have h4 : (q : Int) < n := by omega
            obtain ⟨xs, hrq⟩ := HQ.out.2
            obtain ⟨g, cg, cur, fz, hgv, -⟩ := hrq.some (by omega)
            cases hgv
            have hfz := hrq.frozen (q * 2 + 1) (show q * 2 + 1 < n * 2 by omega)
            have hcl := hrq.cell (q * 2 + 1) (show q * 2 + 1 < n * 2 by omega)
            have hxl := hrq.len
            obtain ⟨u, hu⟩ : ∃ u, xs[q * 2 + 1]? = some u := ⟨_, List.getElem?_eq_getElem (by omega)⟩
            rw [hu] at hcl
            have HR := hid hrq
            clear hrq hxl hu
            go_wp2_with (at_builtin; refine stopAt ?_; intro q hq)
            have hk2 : Keep (fun j => (Value.slice (some ⟨g, 0, none⟩) n cu).ownBlock = some j) wr (wr.setCell ⟨g, q * 2 + 1, none⟩ (.string { data := #[115, 112, 111, 105, 108, 116] })) := by
              refine Keep.setCell (Keep.refl _ _) (.inl ?_) _; rfl
            exact ⟨⟨q + 1, by omega, by go_num, hid ⟨HQ.out.1.next hk2 (fun _ _ x => x) (fun _ _ x => x), _, row_set HR.out (q * 2 + 1) (.string { data := #[115, 112, 111, 105, 108, 116] })⟩⟩, by simp [intOf]; omega⟩
          · have h4 : decide ((q : Int) < n) = false := by simp; omega
            go_wp2_with (at_builtin; refine stopAt ?_; intro q hq)
            go_meet
            exact hid HQ.out.1
      case rest =>
        have HQ : Hid (Keep (fun j => (Value.slice au n cu).ownBlock = some j) w9 wc) := hcut
        clear hcut H10
        have hown : ∀ j, (Value.slice au n cu).ownBlock = some j → (Value.slice au o.length cu).ownBlock = some j := fun j e => by rw [ownBlock_len au o.length n cu]; exact e
        have hs : SnkAt wc b G Snk.new := (SnkT.lives b Snk.new).keep H9.out.two HQ.out (fun j x y => H9.out.a23 j x y)
        have HS := hid (And.intro hs (K5.out.next (H9.out.keep.next HQ.out (fun _ _ x => x) (fun j hj y => absurd (H9.out.new3 j y) (by omega))) (fun _ _ x => x) (fun _ _ x => x)))
        clear hs hown
        go_wp2_with (at_builtin; refine stopAt ?_; intro q hq)
        have hc1 := cut_any wc b G Snk.new HS.out.1
        refine hc1.mono ?_
        clear hc1
        rintro e w10 ⟨rfl, rfl⟩
        go_wp2_with (at_builtin; refine stopAt ?_; intro q hq)
        have hc1 := held_any wc b G Snk.new HS.out.1
        refine hc1.mono ?_
        clear hc1
        rintro e w10 ⟨rfl, rfl⟩
        go_wp2_with (at_builtin; refine stopAt ?_; intro q hq)
        refine (next_any wc b G Snk.new HS.out.1 (by decide)).mono ?_
        rintro e w10 ⟨j, rfl, hj1, hj2, hk10⟩
        have hj0 : j = 0 := by
          cases j with
          | zero => rfl
          | succ j => have := hj1 0 (by omega); cases this
        subst hj0
        have H11 := hid (HS.out.2.next hk10 (fun _ _ x => x) (fun _ _ x => x))
        clear hj1 hj2 hk10
        go_wp2_with (at_builtin; refine stopAt ?_; intro q hq)
        refine (known_any w10).mono ?_
        rintro e w11 ⟨rfl, hk11⟩
        have HK := hid (H1.out.2.2.next (H11.out.next hk11 (fun _ _ x => x) (fun _ _ x => x)) (fun _ _ x => x) (fun _ _ x => x))
        clear hk11
        go_wp2_with (at_builtin; refine stopAt ?_; intro q hq)
        go_ret
        exact ⟨rfl, HK.out⟩
end Go.Proofs.Ytiilondhppipnaa
/- MirrorAsks' walk: a sink that is told of what it asks for comes to the last cut. Conditions: none. -/
namespace Go.Proofs.Ytiilondhppipnaa
open Go.ChangeShapes Go.WideShapes Go.RowKit Go.Deep
open MI

theorem MI.Sub.bounds {I : List It} {k : Snk} (h : Sub I k) (hI : GoodI I) : k.cut + k.held.length < 2305843009213693952 ∧ k.done.length + k.held.length + 1 ≤ 1000000 ∧ k.cut ≤ I.length ∧ k.held.length ≤ 400 := by
  have h1 := h.fine.cut
  have h2 := h.le
  have h3 := hI.few
  have h4 : k.held.length ≤ I.length := by
    have h5 : (k.held.map (·.1)).Nodup := by
      unfold List.Nodup
      rw [List.pairwise_map]
      exact h.fine.ok
    have h6 := keys_len (ks := k.held.map (·.1)) (m := (List.range I.length).map (fun i => (i + 1, ()))) (by
      unfold AL.Ok
      rw [List.pairwise_map]
      exact List.nodup_range.imp fun {a b} hab => by simp only; omega) h5 (fun n hn => by
      obtain ⟨q, hq, rfl⟩ := List.mem_map.1 hn
      have hq2 := h.fine.held q hq
      obtain ⟨t, ht, hte⟩ := List.getElem_of_mem hq
      have hg := AL.get_at h.fine.ok ht
      rw [hte] at hg
      have := h.held _ _ hg
      have := (List.getElem?_eq_some_iff.1 this).1
      cases hx : AL.get ((List.range I.length).map (fun i => (i + 1, ()))) q.1 with
      | some o => rfl
      | none =>
        exact absurd rfl (AL.get_none.1 hx (q.1, ()) (List.mem_map.2 ⟨q.1 - 1, List.mem_range.2 (by omega), by rw [show q.1 - 1 + 1 = q.1 by omega]⟩)))
    simpa using h6
  omega

structure AsksRel (W : World) (a b : Nat) (V : Thing) (I : List It) (k : Snk) (wr : World) : Prop where
  ex : ∃ s F G H, Three W (SrcT a s) F (SnkT b k) G V H wr ∧ Whole s I ∧ s.gone ≤ k.cut
  sub : Sub I k
abbrev ItsT (v : Value) (I : List It) : Thing := RowT 33 5 v I.length (itsV I)
theorem AsksRel.fed {W wr : World} {a b : Nat} {v : Value} {I : List It} {k : Snk} (h : AsksRel W a b (ItsT v I) I k wr) : FedRel W b v I k wr := by
  obtain ⟨s, F, G, H, hT, -⟩ := h.ex
  exact ⟨⟨G, H, hT.two, hT.three, hT.a23, hT.new2, hT.new3, hT.keep⟩, h.sub⟩
theorem AsksRel.later {W w w' : World} {a b : Nat} {V : Thing} {I : List It} {k : Snk} (LV : Lives V) (h : AsksRel W a b V I k w) (hk : Keep (fun _ => False) w w') : AsksRel W a b V I k w' := by
  obtain ⟨s, F, G, H, hT, h2⟩ := h.ex
  exact ⟨⟨s, F, G, H, hT.later (SrcT.lives _ _) (SnkT.lives _ _) LV hk, h2⟩, h.sub⟩
set_option maxRecDepth 20000 in
theorem AsksRel.take {W w : World} {a b : Nat} {V : Thing} {I : List It} {k : Snk} (LV : Lives V) (h : AsksRel W a b V I k w) (hI : GoodI I) {x : It} (hx : x ∈ I) :
    Calls Try.prog 13 #[.pointer (some ⟨b, 0, none⟩), itVal x] w fun e w' => e = .returned (.int .i64 0) ∧ AsksRel W a b V I (k.take x).1 w' := by
  obtain ⟨s, F, G, H, hT, hw, hg⟩ := h.ex
  have hb := h.sub.bounds hI
  have ht := h.sub.take hI hx
  refine (take_any w b G k x hT.two hb.1 hb.2.1 (by
    obtain ⟨j, hj, rfl⟩ := List.getElem_of_mem hx
    rw [hI.seq j hj]
    have := hI.few
    omega)).mono ?_
  rintro e w' ⟨rfl, h2⟩
  rw [ht.1]
  obtain ⟨G', h3⟩ := hT.turn2 (SrcT.lives _ _) LV (U' := SnkT b (k.take x).1) h2
  exact ⟨rfl, ⟨s, F, G', H, h3, hw, Nat.le_trans hg ht.2.2.1⟩, ht.2.1⟩
set_option maxRecDepth 20000 in
theorem AsksRel.trim {W w : World} {a b : Nat} {V : Thing} {I : List It} {k : Snk} (LV : Lives V) (h : AsksRel W a b V I k w) (hI : GoodI I) :
    Calls Try.prog 31 #[.pointer (some ⟨a, 0, none⟩), .int .u64 (k.cut : Int)] w fun e w' => (∃ z : Int, e = .returned (.int .i64 z)) ∧ AsksRel W a b V I k w' := by
  obtain ⟨s, F, G, H, hT, hw, hg⟩ := h.ex
  have hf := hI.few
  have hl := hw.len
  have hll := h.sub.le
  refine (trim_any w a F s k.cut hT.one (by omega) (by unfold Src.last at hl; omega) (by omega)).mono ?_
  rintro e w' ⟨rfl, h2⟩
  obtain ⟨F', h3⟩ := hT.turn1 (SnkT.lives _ _) LV (T' := SrcT a (s.trim k.cut).1) h2
  refine ⟨⟨_, rfl⟩, ⟨_, F', G, H, h3, ?_, ?_⟩, h.sub⟩
  · rw [trim_eq]
    exact hw.trim _ (by unfold Src.last; omega)
  · rw [trim_eq]
    simp only [trimmedS]
    omega
set_option maxRecDepth 20000 in
theorem AsksRel.cut {W w : World} {a b : Nat} {V : Thing} {I : List It} {k : Snk} (h : AsksRel W a b V I k w) :
    Calls Try.prog 15 #[.pointer (some ⟨b, 0, none⟩)] w fun e w' => e = .returned (.int .u64 (k.cut : Int)) ∧ w = w' := by
  obtain ⟨s, F, G, H, hT, -⟩ := h.ex
  exact cut_any w b G k hT.two
set_option maxRecDepth 20000 in
theorem AsksRel.next {W w : World} {a b : Nat} {V : Thing} {I : List It} {k : Snk} (h : AsksRel W a b V I k w) (hI : GoodI I) :
    Calls Try.prog 16 #[.pointer (some ⟨b, 0, none⟩)] w fun e w' => e = .returned (.int .u64 (k.next : Int)) ∧ Keep (fun _ => False) w w' := by
  obtain ⟨s, F, G, H, hT, -⟩ := h.ex
  have hb := h.sub.bounds hI
  refine (next_any w b G k hT.two (by omega)).mono ?_
  rintro e w' ⟨j, rfl, h1, h2, hk⟩
  rw [next_eq h.sub.fine.ok h1 h2]
  exact ⟨rfl, hk⟩
theorem MI.next_has (k : Snk) (hok : AL.Ok k.held) : (∀ q, 0 < q → q < k.next → Has k q) ∧ ¬ Has k k.next ∧ k.cut < k.next := by
  refine ⟨fun q h1 h2 => ?_, fun h => ?_, by unfold Snk.next; omega⟩
  · by_cases hc : q ≤ k.cut
    · exact .inl hc
    · have := run_has k.held k.held.length (k.cut + 1) (q - k.cut - 1) (by unfold Snk.next at h2; omega)
      rw [show k.cut + 1 + (q - k.cut - 1) = q by omega] at this
      exact .inr this
  · have h2 := run_end hok (k.cut + 1)
    rcases h with h | h
    · unfold Snk.next at h; omega
    · have e : k.next = k.cut + 1 + run k.held (k.cut + 1) k.held.length := rfl
      rw [e, h2] at h
      cases h
set_option maxRecDepth 20000 in
/-- What the source has from the sink's next number on. -/
theorem AsksRel.from {W w : World} {a b : Nat} {V : Thing} {I : List It} {k : Snk} (h : AsksRel W a b V I k w) (hI : GoodI I) (nx m : Nat) (hn : nx = k.next) (hm : 1 ≤ m ∧ m ≤ 7) :
    Calls Try.prog 28 #[.pointer (some ⟨a, 0, none⟩), .int .u64 (nx : Int), .int .i64 (m : Int)] w fun e w' => ∃ u, e = .returned u ∧ Row w' 33 5 u ((I.drop (nx - 1)).take m).length (itsV ((I.drop (nx - 1)).take m)) ∧ Keep (fun _ => False) w w' ∧ ∀ i, u.ownBlock = some i → w.heap.size ≤ i := by
  obtain ⟨s, F, G, H, hT, hw, hg⟩ := h.ex
  have hf := hI.few
  have hl := hw.len
  have hb := h.sub.bounds hI
  have hnx : nx ≤ 1000 := by
    have h1 := row_len h.sub.fine.ok (k.cut + 1) _ (fun i hi => run_has k.held k.held.length (k.cut + 1) i hi)
    rw [hn]
    unfold Snk.next
    omega
  have hc := (next_has k h.sub.fine.ok).2.2
  have hfr : s.from_ nx m = (I.drop (nx - 1)).take m := by
    unfold Src.from_
    split
    · rename_i hx
      rcases hx with hx | hx
      · omega
      · rw [List.drop_of_length_le (by omega)]; simp
    · rw [hw.l, List.drop_drop, show s.gone + (max nx (s.gone + 1) - s.gone - 1) = nx - 1 by omega]
      rfl
  have h1 := from_any w a F s nx m hT.one (by omega) (by unfold Src.last at hl; omega) (by omega) (by omega)
  rw [hfr] at h1
  refine h1.mono ?_
  rintro e w' ⟨u, rfl, h2, h3, h4⟩
  exact ⟨u, rfl, h2, h3, h4⟩

abbrev GotT (v u : Value) (I J : List It) : Thing := fun w H => ItsT v I w H ∧ ItsT u J w H
theorem GotT.lives (v u : Value) (I J : List It) : Lives (GotT v u I J) := ⟨fun h hk hn => ⟨(RowT.lives _ _ _ _ _).keep h.1 hk hn, (RowT.lives _ _ _ _ _).keep h.2 hk hn⟩, fun h => (RowT.lives _ _ _ _ _).lt h.1⟩
theorem AsksRel.drop {W w : World} {a b : Nat} {v u : Value} {I J : List It} {k : Snk} (h : AsksRel W a b (GotT v u I J) I k w) : AsksRel W a b (ItsT v I) I k w := by
  obtain ⟨s, F, G, H, hT, h2⟩ := h.ex
  exact ⟨⟨s, F, G, H, ⟨hT.one, hT.two, hT.three.1, hT.a12, hT.a13, hT.a23, hT.new1, hT.new2, hT.new3, hT.keep⟩, h2⟩, h.sub⟩
theorem AsksRel.got {W w : World} {a b : Nat} {v u : Value} {I J : List It} {k : Snk} (h : AsksRel W a b (GotT v u I J) I k w) : Row w 33 5 u J.length (itsV J) := by
  obtain ⟨s, F, G, H, hT, h2⟩ := h.ex
  exact hT.three.2.1
theorem AsksRel.add {W w w' : World} {a b : Nat} {v u : Value} {I J : List It} {k : Snk} (h : AsksRel W a b (ItsT v I) I k w) (hr : Row w' 33 5 u J.length (itsV J)) (hk : Keep (fun _ => False) w w') (ho : ∀ i, u.ownBlock = some i → w.heap.size ≤ i) : AsksRel W a b (GotT v u I J) I k w' := by
  obtain ⟨s, F, G, H, hT, h2⟩ := h.ex
  have hT' := hT.later (SrcT.lives _ _) (SnkT.lives _ _) (RowT.lives _ _ _ _ _) hk
  refine ⟨⟨s, F, G, fun i => H i ∨ u.ownBlock = some i, ⟨hT'.one, hT'.two, ⟨⟨hT'.three.1, fun i e => .inl (hT'.three.2.1 i e), fun i x => x.elim (hT'.three.2.2 i) (fun y => hr.lt y)⟩, ⟨hr, fun i e => .inr e, fun i x => x.elim (hT'.three.2.2 i) (fun y => hr.lt y)⟩⟩, hT'.a12, fun i x y => ?_, fun i x y => ?_, hT'.new1, hT'.new2, fun i x => ?_, hT'.keep⟩, h2⟩, h.sub⟩
  · rcases y with y | y
    · exact hT'.a13 i x y
    · have := (SrcT.lives _ _).lt hT.one i x
      have := ho i y
      omega
  · rcases y with y | y
    · exact hT'.a23 i x y
    · have := (SnkT.lives _ _).lt hT.two i x
      have := ho i y
      omega
  · rcases x with x | x
    · exact hT'.new3 i x
    · exact Nat.le_trans hT.keep.size (ho i x)

/-- The source that is told, the last cut known. -/
structure TellRel (W : World) (a b : Nat) (i ll : Nat) (wr : World) : Prop where
  ex : ∃ s A F G, Two W (SrcT a s) F (SnkT b Snk.new) G wr ∧ Made s A ∧ s.gone = 0 ∧ A.length ≤ i ∧ LastIs A A.length ll
theorem MI.LastIs.same {A : List It} {ll : Nat} (h : LastIs A A.length ll) (x : It) (hx : x.mark = false) : LastIs (A ++ [x]) (A ++ [x]).length ll := by
  refine ⟨by have := h.le; simp; omega, ?_, fun j hj h1 h2 => ?_⟩
  · refine h.mark.imp id fun ⟨o, h1, h2⟩ => ⟨o, ?_, h2⟩
    obtain ⟨h3, h4⟩ := List.getElem?_eq_some_iff.1 h1
    rw [List.getElem?_append_left h3, List.getElem?_eq_getElem h3, h4]
  · rw [List.getElem_append]
    split
    · rename_i hjl; exact h.none j hjl h1 hjl
    · simp only [List.getElem_singleton]; exact hx
theorem MI.LastIs.made {A : List It} (x : It) (hx : x.mark = true) : LastIs (A ++ [x]) (A ++ [x]).length (A.length + 1) :=
  ⟨by simp, .inr ⟨x, by simp, hx⟩, fun j hj h1 h2 => by simp at h2; omega⟩

theorem TellRel.later {W w w' : World} {a b i ll : Nat} (h : TellRel W a b i ll w) (hk : Keep (fun _ => False) w w') : TellRel W a b i ll w' := by
  obtain ⟨s, A, F, G, hT, h2⟩ := h.ex
  exact ⟨⟨s, A, F, G, hT.later (SrcT.lives _ _) (SnkT.lives _ _) hk, h2⟩⟩
theorem TellRel.keep {W w : World} {a b i ll : Nat} (h : TellRel W a b i ll w) : Keep (fun _ => False) W w := by
  obtain ⟨s, A, F, G, hT, h2⟩ := h.ex
  exact hT.keep
set_option maxRecDepth 20000 in
theorem TellRel.do_ {W w : World} {a b i ll : Nat} (h : TellRel W a b i ll w) (hi : i ≤ 300) (c : Ch) :
    Calls Try.prog 25 #[.pointer (some ⟨a, 0, none⟩), chVal c] w fun e w' => (∃ x y : Nat, e = .returned (.tuple #[.int .u64 (x : Int), .int .i64 (y : Int)])) ∧ TellRel W a b (i + 1) ll w' := by
  obtain ⟨s, A, F, G, hT, hM, hg, hl, hL⟩ := h.ex
  have hlast := hM.whole.len
  refine (do_any w a F s c hT.one (by omega)).mono ?_
  rintro e w' ⟨rfl, ht⟩
  obtain ⟨F', hT'⟩ := hT.turn1 (SnkT.lives _ _) (T' := SrcT a (s.do_ c).1) ht
  obtain ⟨A', hM', hl', hg', hA'⟩ := hM.do_ c
  refine ⟨⟨_, _, rfl⟩, ⟨_, A', F', G, hT', hM', by rw [hg']; exact hg, by omega, ?_⟩⟩
  rcases hA' with rfl | rfl
  · exact hL
  · exact hL.same _ rfl
set_option maxRecDepth 20000 in
theorem TellRel.mark {W w : World} {a b i ll : Nat} (h : TellRel W a b i ll w) (hi : i ≤ 300) :
    Calls Try.prog 27 #[.pointer (some ⟨a, 0, none⟩)] w fun e w' => ∃ n : Nat, e = .returned (.tuple #[.int .u64 (n : Int), .int .i64 0]) ∧ TellRel W a b (i + 1) n w' := by
  obtain ⟨s, A, F, G, hT, hM, hg, hl, hL⟩ := h.ex
  have hlast := hM.whole.len
  refine (mark_any w a F s hT.one (by omega)).mono ?_
  rintro e w' ⟨rfl, ht⟩
  obtain ⟨F', hT'⟩ := hT.turn1 (SnkT.lives _ _) (T' := SrcT a s.mark.1) ht
  have hm : s.mark = (⟨s.gone, s.l ++ [⟨s.last + 1, true, Ch.zero⟩]⟩, s.last + 1, 0) := by
    unfold Src.mark Src.add
    rw [if_neg (by unfold Src.last at hlast; omega)]
  rw [hm] at hT' ⊢
  refine ⟨s.last + 1, rfl, ⟨_, A ++ [⟨s.last + 1, true, Ch.zero⟩], F', G, hT', ⟨hM.whole.add Ch.zero true, fun j hj => ?_⟩, hg, by simp; omega, ?_⟩⟩
  · rcases List.mem_append.1 hj with hj | hj
    · exact hM.right j hj
    · simp only [List.mem_singleton] at hj
      rw [hj]
      simp [rightI]
  · rw [← hlast]
    exact LastIs.made _ rfl

set_option maxRecDepth 20000 in
set_option maxHeartbeats 8000000 in
theorem asks_walk (W : World) (vl : Value) (l : List Ch) (hl : SliceOf W 3 ChR vl l) (vm : Value) (ms : List Bool) (hm : Bools W vm ms) (vo : Value) (os : List Int) (ho : Ints W vo os) (mo : Int) (_hmo1 : -9223372036854775808 ≤ mo) (_hmo2 : mo ≤ 9223372036854775807) :
    Calls Try.prog 8 #[vl, vm, vo, .int .i64 mo] W fun e w' => e = .returned (.bool true) ∧ Keep (fun _ => False) W w' := by
  obtain ⟨ao, cc, rfl, hcc, hcm⟩ := hl.form
  obtain ⟨am, cm, rfl, hcc2, hcm2⟩ := hm.form
  obtain ⟨aq, cq, rfl, hcq, hcq2⟩ := ho.form
  obtain ⟨N, hN⟩ : ∃ N, N = os.length := ⟨_, rfl⟩
  obtain ⟨n, hn⟩ : ∃ n, n = l.length := ⟨_, rfl⟩
  obtain ⟨m, hmm⟩ : ∃ m, m = ms.length := ⟨_, rfl⟩
  rw [← hN] at ho hcq ⊢
  rw [← hn] at hl hcc ⊢
  rw [← hmm] at hm hcc2 ⊢
  have hN63 : (N : Int) ≤ 9223372036854775807 := by unfold maxLen at hcq2; omega
  have hn63 : (n : Int) ≤ 9223372036854775807 := by unfold maxLen at hcm; omega
  have hm63 : (m : Int) ≤ 9223372036854775807 := by unfold maxLen at hcm2; omega
  have HN := hid (And.intro hN (And.intro hn hmm))
  have HO := hid ho
  have HL := hid hl
  have HM := hid hm
  clear hl hm ho hN hn hmm
  go_enter Try.func8, Try.ntmps8
  go_wp2_with (at_builtin; refine stopAt ?_; intro q hq)
  refine (newSource_any W).mono ?_
  rintro e w1 ⟨a, F, rfl, hs, hk1, hF⟩
  have H1 := hid (And.intro hs (And.intro hk1 hF))
  clear hs hk1 hF
  go_wp2_with (at_builtin; refine stopAt ?_; intro q hq)
  refine (newSink_any w1).mono ?_
  rintro e w2 ⟨b, G, rfl, hs, hk2, hG⟩
  have HS := hid (show TellRel W a b 0 0 w2 from ⟨Src.new, [], F, G, Two.make H1.out.1 H1.out.2.2 H1.out.2.1 (SrcT.lives _ _) hs hG hk2, Made.new, rfl, Nat.le_refl _, Nat.le_refl _, .inl rfl, fun j hj _ _ => by simp at hj⟩)
  clear hs hk2 hG H1
  go_upto_block 0 with fail
  go_cut [11, 12] (fun s11 s12 wx => ∃ ll : Nat, s11 = .int .u64 (ll : Int) ∧ Hid (TellRel W a b 120 ll wx))
  case first =>
    go_wp2_with (at_builtin; refine stopAt ?_; intro q hq)
    go_loopw [11, 12] (fun lv iv wr => ∃ i ll : Nat, i ≤ n ∧ i ≤ 60 ∧ lv = .int .u64 (ll : Int) ∧ iv = .int .i64 i ∧ Hid (TellRel W a b (2 * i) ll wr)) (fun _ iv _ => n - (intOf iv).toNat)
    case atStart => exact ⟨0, 0, Nat.zero_le _, Nat.zero_le _, by go_num, rfl, HS⟩
    case round =>
      clear HS
      obtain ⟨i, ll, hi, hi2, rfl, rfl, HS⟩ := hrel
      by_cases h1 : i < n
      · have q1 : (i : Int) < n := by omega
        by_cases h2 : i < 60
        · have q2 : (i : Int) < 60 := by omega
          have hiL : i < l.length := by rw [← HN.out.2.1]; exact h1
          have hkW := HS.out.keep
          obtain ⟨ad, cs, rfl, -, ⟨rfl, hco⟩, e0, ej⟩ := HL.out.at (Keep.refl _ _) i hiL
          obtain ⟨x, hx⟩ : ∃ x, x = l[i] := ⟨_, rfl⟩
          rw [← hx] at hco e0 ej
          have Hco := hid hco
          have HE := hid (And.intro (e0 _ rfl) (And.intro (ej 1 _ (by decide) rfl) (ej 2 _ (by decide) rfl)))
          have a0 := cell_old hkW _ _ HE.out.1
          have a1 := cell_old hkW _ _ HE.out.2.1
          have a2 := cell_old hkW _ _ HE.out.2.2
          clear hx e0 ej hco hkW
          go_wp2_with (at_builtin; refine stopAt ?_; intro q hq)
          refine (long_any wr x Hco.out).mono ?_
          rintro e w3 ⟨rfl, hk3⟩
          clear a0 a1 a2
          have H3 := hid (HS.out.later hk3)
          clear hk3
          obtain ⟨lg, hlg⟩ : ∃ lg, lg = (decide (1000 < x.key.length) || decide (1000 < x.value.length)) := ⟨_, rfl⟩
          rw [← hlg]
          clear hlg
          go_upto_if 44 with fail
          go_cut [] (fun wx => Hid (TellRel W a b (2 * i + 1) ll wx))
          case first =>
            cases lg with
            | true =>
              go_wp2_with (at_builtin; refine stopAt ?_; intro q hq)
              go_meet
              obtain ⟨s, A, F, G, y1, y2, y3, y4, y5⟩ := H3.out.ex
              exact hid ⟨⟨s, A, F, G, y1, y2, y3, by omega, y5⟩⟩
            | false =>
              have hkW := H3.out.keep
              have a0 := cell_old hkW _ _ HE.out.1
              have a1 := cell_old hkW _ _ HE.out.2.1
              have a2 := cell_old hkW _ _ HE.out.2.2
              clear hkW
              go_wp2_with (at_builtin; refine stopAt ?_; intro q hq)
              clear a0 a1 a2
              refine (H3.out.do_ (by omega) x).mono ?_
              rintro e w4 ⟨⟨z1, z2, rfl⟩, h4⟩
              have H4 := hid h4
              clear h4
              go_wp2_with (at_builtin; refine stopAt ?_; intro q hq)
              go_meet
              exact H4
          case rest =>
            have HC : Hid (TellRel W a b (2 * i + 1) ll wc) := hcut
            clear hcut
            by_cases him : i < m
            · have q3 : (i : Int) < m := by omega
              have him' : i < ms.length := by rw [← HN.out.2.2]; exact him
              obtain ⟨am, cs, rfl, -, hb, e0, -⟩ := HM.out.at HC.out.keep i him'
              unfold BoolR at hb
              subst hb
              have a0 := e0 _ rfl
              rw [Nat.mul_one] at a0
              obtain ⟨bm, hbm⟩ : ∃ bm, bm = ms[i] := ⟨_, rfl⟩
              rw [← hbm] at a0
              clear hbm e0
              cases bm with
              | false =>
                go_wp2_with (at_builtin; refine stopAt ?_; intro q hq)
                obtain ⟨s, A, F, G, y1, y2, y3, y4, y5⟩ := HC.out.ex
                exact ⟨⟨i + 1, ll, by omega, by omega, by go_num, by go_num, hid ⟨⟨s, A, F, G, y1, y2, y3, by omega, y5⟩⟩⟩, by simp [intOf]; omega⟩
              | true =>
                go_wp2_with (at_builtin; refine stopAt ?_; intro q hq)
                clear a0
                refine (HC.out.mark (by omega)).mono ?_
                rintro e w4 ⟨z, rfl, h4⟩
                have H4 := hid h4
                clear h4
                go_wp2_with (at_builtin; refine stopAt ?_; intro q hq)
                exact ⟨⟨i + 1, z, by omega, by omega, by go_num, by go_num, H4⟩, by simp [intOf]; omega⟩
            · have q3 : decide ((i : Int) < m) = false := by simp; omega
              go_wp2_with (at_builtin; refine stopAt ?_; intro q hq)
              obtain ⟨s, A, F, G, y1, y2, y3, y4, y5⟩ := HC.out.ex
              exact ⟨⟨i + 1, ll, by omega, by omega, by go_num, by go_num, hid ⟨⟨s, A, F, G, y1, y2, y3, by omega, y5⟩⟩⟩, by simp [intOf]; omega⟩
        · have q2 : decide ((i : Int) < 60) = false := by simp; omega
          go_wp2_with (at_builtin; refine stopAt ?_; intro q hq)
          go_meet
          obtain ⟨s, A, F, G, y1, y2, y3, y4, y5⟩ := HS.out.ex
          exact ⟨ll, rfl, hid ⟨⟨s, A, F, G, y1, y2, y3, by omega, y5⟩⟩⟩
      · have q1 : decide ((i : Int) < n) = false := by simp; omega
        go_wp2_with (at_builtin; refine stopAt ?_; intro q hq)
        go_meet
        obtain ⟨s, A, F, G, y1, y2, y3, y4, y5⟩ := HS.out.ex
        exact ⟨ll, rfl, hid ⟨⟨s, A, F, G, y1, y2, y3, by omega, y5⟩⟩⟩
  case rest =>
    obtain ⟨ll, rfl, HC⟩ := hcut
    clear HS
    obtain ⟨s, I, F, G, hT, hM, hg, hlen, hL⟩ := HC.out.ex
    obtain ⟨hfr, hI⟩ := hM.from1 hg (by omega)
    have hlast : s.last < 4611686018427387904 ∧ s.l.length ≤ 1000000 := by have := hM.whole.len; unfold Src.last at *; omega
    have HX := hid (And.intro hT (And.intro hM (And.intro hg (And.intro hlast hfr))))
    have HI := hid hI
    have HLL := hid hL
    have hI120 : I.length ≤ 120 := hlen
    clear hT hM hg hlast hfr hL hI hlen
    go_wp2_with (at_builtin; refine stopAt ?_; intro q hq)
    have hfa := from_any wc a F s 1 1000 HX.out.1.one HX.out.2.2.2.1.1 HX.out.2.2.2.1.2 (by decide) (by decide)
    rw [HX.out.2.2.2.2] at hfa
    refine hfa.mono ?_
    clear hfa
    rintro e w5 ⟨va, rfl, hra, hk5, hoa⟩
    obtain ⟨ai, ci, rfl, -⟩ := hra.form
    have H5 := hid (show AsksRel W a b (ItsT (.slice ai I.length ci) I) I Snk.new w5 from ⟨⟨s, F, G, _, HX.out.1.and (SrcT.lives _ _) (SnkT.lives _ _) (RowT.of hra) hoa hk5, HX.out.2.1.whole, by rw [HX.out.2.2.1]; exact Nat.zero_le _⟩, Sub.new I⟩)
    obtain ⟨n1, hn1⟩ : ∃ n1, n1 = I.length := ⟨_, rfl⟩
    rw [← hn1] at H5 hI120 ⊢
    have Hn := hid hn1
    clear hra hk5 hoa hn1
    go_upto_block 2 with fail
    go_cut [16] (fun s16 wx => Hid (∃ k, AsksRel W a b (ItsT (.slice ai n1 ci) I) I k wx))
    case first =>
      go_wp2_with (at_builtin; refine stopAt ?_; intro q hq)
      go_loopw [16] (fun iv wr => ∃ (i : Nat), i ≤ N ∧ i ≤ 100 ∧ iv = .int .i64 i ∧ Hid (∃ k, AsksRel W a b (ItsT (.slice ai n1 ci) I) I k wr)) (fun iv _ => N - (intOf iv).toNat)
      case atStart => exact ⟨0, Nat.zero_le _, Nat.zero_le _, rfl, hid ⟨_, H5.out⟩⟩
      case round =>
        clear H5
        obtain ⟨i, hi, hi2, rfl, HS⟩ := hrel
        by_cases h1 : i < N
        · have q1 : (i : Int) < N := by omega
          by_cases h2 : i < 100
          · have q2 : (i : Int) < 100 := by omega
            by_cases h3 : 0 < n1
            · have q3 : (0 : Int) < n1 := by omega
              obtain ⟨k, hfd⟩ := HS.out
              have hiL : i < os.length := by rw [← HN.out.1]; exact h1
              obtain ⟨ad, cs, rfl, -, ⟨rfl, hz1, hz2⟩, e0, -⟩ := HO.out.at hfd.fed.keep i hiL
              have a0 := e0 _ rfl
              rw [Nat.mul_one] at a0
              obtain ⟨z, hz⟩ : ∃ z, z = os[i] := ⟨_, rfl⟩
              rw [← hz] at a0
              have hmod := umod_int z n1 (by omega) (by omega)
              obtain ⟨d, hd⟩ : ∃ d : Nat, (d : Int) = z % 18446744073709551616 % n1 := ⟨(z % 18446744073709551616 % n1).toNat, by
                have := Int.emod_nonneg (z % 18446744073709551616) (show (n1 : Int) ≠ 0 by omega)
                omega⟩
              have hdn : d < n1 := by
                have := Int.emod_lt_of_pos (z % 18446744073709551616) (show (0 : Int) < n1 by omega)
                omega
              rw [← hd] at hmod
              have wn : IntKind.u64.wrap (n1 : Int) = (n1 : Int) := wrapU64 _ (by omega)
              have hdI : d < I.length := by rw [← Hn.out]; exact hdn
              have hfr := hfd.fed.row
              rw [← Hn.out] at hfr
              obtain ⟨g, cap', hgv, k0⟩ := row_item hfr d hdI
              cases hgv
              have b0 := k0 0 _ rfl
              have b1 := k0 1 _ rfl
              have b2 := k0 2 _ rfl
              have b3 := k0 3 _ rfl
              have b4 := k0 4 _ rfl
              rw [Nat.add_zero] at b0
              have hxm : I[d] ∈ I := List.getElem_mem hdI
              obtain ⟨x, hx⟩ : ∃ x, x = I[d] := ⟨_, rfl⟩
              rw [← hx] at b0 b1 b2 b3 b4 hxm
              have HX := hid (And.intro hfd hxm)
              clear e0 hz hd k0 hx hfd hxm hfr hz1 hz2
              have q4 : (d : Int) < n1 := by omega
              have q5 : decide (n1 = 0) = false := by simp; omega
              have q6 : ((n1 : Int) == 0) = false := by simp; omega
              go_wp2_with (at_builtin; refine stopAt ?_; intro q hq)
              clear a0 b0 b1 b2 b3 b4
              refine (HX.out.1.take (RowT.lives _ _ _ _ _) HI.out HX.out.2).mono ?_
              rintro e w6 ⟨rfl, hf6⟩
              have H6 := hid hf6
              clear hf6
              obtain ⟨k', hk'⟩ : ∃ k', k' = (k.take x).1 := ⟨_, rfl⟩
              rw [← hk'] at H6
              clear hk'
              go_wp2_with (at_builtin; refine stopAt ?_; intro q hq)
              refine H6.out.cut.mono ?_
              rintro e w7 ⟨rfl, rfl⟩
              go_wp2_with (at_builtin; refine stopAt ?_; intro q hq)
              refine (H6.out.trim (RowT.lives _ _ _ _ _) HI.out).mono ?_
              rintro e w7 ⟨⟨z1, rfl⟩, hf7⟩
              have H7 := hid hf7
              clear hf7
              go_wp2_with (at_builtin; refine stopAt ?_; intro q hq)
              exact ⟨⟨i + 1, by omega, by omega, by go_num, hid ⟨_, H7.out⟩⟩, by simp [intOf]; omega⟩
            · have q3 : decide ((0 : Int) < (n1 : Int)) = false := by simp; omega
              go_wp2_with (at_builtin; refine stopAt ?_; intro q hq)
              go_meet
              exact HS
          · have q2 : decide ((i : Int) < 100) = false := by simp; omega
            go_wp2_with (at_builtin; refine stopAt ?_; intro q hq)
            go_meet
            exact HS
        · have q1 : decide ((i : Int) < N) = false := by simp; omega
          go_wp2_with (at_builtin; refine stopAt ?_; intro q hq)
          go_meet
          exact HS
    case rest =>
      have HS : Hid (∃ k, AsksRel W a b (ItsT (.slice ai n1 ci) I) I k wc) := hcut
      clear hcut H5
      have hmod := umod_int mo 7 (by decide) (by decide)
      obtain ⟨d7, hd7⟩ : ∃ d : Nat, (d : Int) = mo % 18446744073709551616 % 7 := ⟨(mo % 18446744073709551616 % 7).toNat, by omega⟩
      have hd77 : d7 < 7 := by omega
      rw [← hd7] at hmod
      obtain ⟨mt, hmt⟩ : ∃ mt, mt = d7 + 1 := ⟨_, rfl⟩
      have wmt : IntKind.i64.wrap (1 + (d7 : Int)) = (mt : Int) := by rw [show (1 + (d7 : Int)) = (mt : Int) by omega]; exact wrapI64 _ (by omega)
      have hmt7 : 1 ≤ mt ∧ mt ≤ 7 := by omega
      clear hd7 hd77 hmt
      have HS0 := hid (show ∃ k, AsksRel W a b (ItsT (.slice ai n1 ci) I) I k wc ∧ ∀ q, 0 < q → q ≤ 0 → Has k q from by
        obtain ⟨k, h⟩ := HS.out
        exact ⟨k, h, fun q h1 h2 => by omega⟩)
      clear HS
      go_wp2_with (at_builtin; refine stopAt ?_; intro q hq)
      go_loopw [18] (fun iv wr => ∃ (i : Nat), i ≤ n1 + 1 ∧ iv = .int .i64 i ∧ Hid (∃ k, AsksRel W a b (ItsT (.slice ai n1 ci) I) I k wr ∧ ∀ q, 0 < q → q ≤ i → q ≤ I.length → Has k q)) (fun iv _ => n1 + 1 - (intOf iv).toNat)
      case atStart =>
        refine ⟨0, Nat.zero_le _, rfl, hid ?_⟩
        obtain ⟨k, h, h2⟩ := HS0.out
        exact ⟨k, h, fun q h1 h3 _ => h2 q h1 h3⟩
      case round =>
        clear HS0
        obtain ⟨i, hi, rfl, HS⟩ := hrel
        obtain ⟨k, hA, hP⟩ := HS.out
        by_cases hin : i ≤ n1
        · have q1 : (i : Int) ≤ n1 := by omega
          have HA := hid (And.intro hA hP)
          obtain ⟨nx, hnx⟩ : ∃ nx, nx = k.next := ⟨_, rfl⟩
          have Hnx := hid hnx
          clear hA hP hnx
          go_wp2_with (at_builtin; refine stopAt ?_; intro q hq)
          have hnc := HA.out.1.next HI.out
          rw [← Hnx.out] at hnc
          refine hnc.mono ?_
          clear hnc
          rintro e w6 ⟨rfl, hk6⟩
          have H6 := hid (HA.out.1.later (RowT.lives _ _ _ _ _) hk6)
          clear hk6
          go_wp2_with (at_builtin; refine stopAt ?_; intro q hq)
          refine (H6.out.from HI.out nx mt Hnx.out hmt7).mono ?_
          rintro e w7 ⟨u, rfl, hru, hk7, hou⟩
          obtain ⟨J, hJ⟩ : ∃ J, J = (I.drop (nx - 1)).take mt := ⟨_, rfl⟩
          rw [← hJ] at hru
          have hJl : J.length ≤ mt := by rw [hJ, List.length_take]; omega
          have hJI : J.length = min mt (I.length - (nx - 1)) := by rw [hJ, List.length_take, List.length_drop]
          have hJm : ∀ x ∈ J, x ∈ I := fun x hx => by rw [hJ] at hx; exact List.mem_of_mem_drop (List.mem_of_mem_take hx)
          have hnx0 := (next_has k HA.out.1.sub.fine.ok)
          rw [← Hnx.out] at hnx0
          have hJs : ∀ t (h : t < J.length), J[t].seq = nx + t := fun t h => by
            have h1 : t + (nx - 1) < I.length := by omega
            have h2 : J[t] = I[nx - 1 + t]'(by omega) := by simp [hJ]
            rw [h2, HI.out.seq]
            omega
          obtain ⟨au, cu, rfl, -⟩ := hru.form
          have H7 := hid (H6.out.add hru hk7 hou)
          have HJ := hid (And.intro hJI (And.intro hJm (And.intro hJs hnx0)))
          clear hru hk7 hou hJ hJI hJm hJs hnx0 H6
          obtain ⟨gl, hgl⟩ : ∃ gl, gl = J.length := ⟨_, rfl⟩
          have Hgl := hid hgl
          have t1 : decide ((mt : Int) < (gl : Int)) = false := by simp; omega
          have n1' : decide (mt < gl) = false := by simp; omega
          rw [← hgl] at H7 ⊢
          clear hgl
          have HNx := hid (fun s : Later w7 => by
            have h := (H7.out.later (GotT.lives _ _ _ _) s.keep).next HI.out
            rw [← Hnx.out] at h
            exact h)
          go_upto_region 27 with fail
          go_cut [138] (fun tv wx => tv = .bool false ∧ Hid (AsksRel W a b (GotT (.slice ai n1 ci) (.slice au gl cu) I J) I k wx))
          case first =>
            by_cases hg0 : 0 < gl
            · have t2 : (0 : Int) < (gl : Int) := by omega
              have n2 : decide (0 < gl) = true := by simpa using hg0
              have hg0J : 0 < J.length := by rw [← Hgl.out]; exact hg0
              have hfr := H7.out.got
              rw [← Hgl.out] at hfr
              obtain ⟨g, cap', hgv, k0⟩ := row_item hfr 0 hg0J
              cases hgv
              have b0 := k0 0 _ rfl
              rw [HJ.out.2.2.1 0 hg0J, Nat.add_zero, Nat.zero_mul, Nat.add_zero] at b0
              have j0 := fun s : Later w7 => s.cell b0
              clear b0 k0 hfr
              go_wp2_with (at_builtin; refine stopAt ?_; intro q hq)
              (refine wp_region_later (by kernel_rfl) (by kernel_rfl) ?_; (repeat (go_big_quiet_step ((go_at_call 16; exact Later.call (HNx.out _))))); refine wpQuiet_nil ?_; rintro _ ⟨sq, rfl⟩)
              go_wp2_with (at_builtin; refine stopAt ?_; intro q hq)
              go_meet
              exact ⟨by simp, hid (H7.out.later (GotT.lives _ _ _ _) sq.keep)⟩
            · have t2 : decide ((0 : Int) < (gl : Int)) = false := by simp; omega
              have n2 : decide (0 < gl) = false := by simpa using hg0
              go_wp2_with (at_builtin; refine stopAt ?_; intro q hq)
              (refine wp_region_later (by kernel_rfl) (by kernel_rfl) ?_; (repeat (go_big_quiet_step ((go_at_call 16; exact Later.call (HNx.out _))))); refine wpQuiet_nil ?_; rintro _ ⟨sq, rfl⟩)
              go_wp2_with (at_builtin; refine stopAt ?_; intro q hq)
              go_meet
              exact ⟨by simp, hid (H7.out.later (GotT.lives _ _ _ _) sq.keep)⟩
          case rest =>
            obtain ⟨rfl, H8⟩ := hcut
            clear HNx
            have H9 := hid (show ∃ k', AsksRel W a b (GotT (.slice ai n1 ci) (.slice au gl cu) I J) I k' wc ∧ (∀ q, Has k q → Has k' q) ∧ ∀ t, t < 0 → Has k' (nx + t) from ⟨k, H8.out, fun _ x => x, fun t h => by omega⟩)
            go_wp2_with (at_builtin; refine stopAt ?_; intro q hq)
            go_loopw [20] (fun iv wr' => ∃ (j : Nat), j ≤ gl ∧ iv = .int .i64 j ∧ Hid (∃ k', AsksRel W a b (GotT (.slice ai n1 ci) (.slice au gl cu) I J) I k' wr' ∧ (∀ q, Has k q → Has k' q) ∧ ∀ t, t < j → Has k' (nx + t))) (fun iv _ => gl - (intOf iv).toNat)
            case atStart => exact ⟨0, Nat.zero_le _, rfl, H9⟩
            case round =>
              clear H9
              obtain ⟨j, hj, rfl, HQ⟩ := hrel
              obtain ⟨k', hA', hh', ht'⟩ := HQ.out
              by_cases hjl : j < gl
              · have q4 : (j : Int) < gl := by omega
                have hjJ : j < J.length := by rw [← Hgl.out]; exact hjl
                have hfr := hA'.got
                rw [← Hgl.out] at hfr
                obtain ⟨g, cap', hgv, k0⟩ := row_item hfr j hjJ
                cases hgv
                have b0 := k0 0 _ rfl
                have b1 := k0 1 _ rfl
                have b2 := k0 2 _ rfl
                have b3 := k0 3 _ rfl
                have b4 := k0 4 _ rfl
                rw [Nat.add_zero] at b0
                have hxm : J[j] ∈ I := HJ.out.2.1 _ (List.getElem_mem hjJ)
                have hxs := HJ.out.2.2.1 j hjJ
                obtain ⟨x, hx⟩ : ∃ x, x = J[j] := ⟨_, rfl⟩
                rw [← hx] at b0 b1 b2 b3 b4 hxm hxs
                have HX2 := hid (And.intro hA' (And.intro hxm (And.intro hxs (And.intro hh' ht'))))
                clear k0 hx hfr hxm hxs hA' hh' ht'
                go_wp2_with (at_builtin; refine stopAt ?_; intro q hq)
                clear b0 b1 b2 b3 b4
                refine (HX2.out.1.take (GotT.lives _ _ _ _) HI.out HX2.out.2.1).mono ?_
                rintro e w9 ⟨rfl, hf9⟩
                have H10 := hid hf9
                clear hf9
                go_wp2_with (at_builtin; refine stopAt ?_; intro q hq)
                have ht := HX2.out.1.sub.take HI.out HX2.out.2.1
                refine ⟨⟨j + 1, by omega, by go_num, hid ⟨_, H10.out, fun q h => ht.2.2.2.2 q (HX2.out.2.2.2.1 q h), fun t h => ?_⟩⟩, by simp [intOf]; omega⟩
                by_cases htj : t = j
                · rw [htj, ← HX2.out.2.2.1]
                  exact ht.2.2.2.1
                · exact ht.2.2.2.2 _ (HX2.out.2.2.2.2 t (by omega))
              · have q4 : decide ((j : Int) < (gl : Int)) = false := by simp; omega
                have hjg : j = gl := by omega
                have HX2 := hid (And.intro hA'.drop (And.intro hh' ht'))
                clear hA' hh' ht'
                go_wp2_with (at_builtin; refine stopAt ?_; intro q hq)
                refine HX2.out.1.cut.mono ?_
                rintro e w9 ⟨rfl, rfl⟩
                go_wp2_with (at_builtin; refine stopAt ?_; intro q hq)
                refine (HX2.out.1.trim (RowT.lives _ _ _ _ _) HI.out).mono ?_
                rintro e w9 ⟨⟨z1, rfl⟩, hf9⟩
                have H10 := hid hf9
                clear hf9
                go_wp2_with (at_builtin; refine stopAt ?_; intro q hq)
                refine ⟨⟨i + 1, by omega, by go_num, hid ⟨k', H10.out, fun q h1 h2 h3 => ?_⟩⟩, by simp [intOf]; omega⟩
                have hJI := HJ.out.1
                have hgJ := Hgl.out
                by_cases hqn : q < nx
                · exact HX2.out.2.1 q (HJ.out.2.2.2.1 q h1 hqn)
                · have hnxi : i < nx := by
                    rcases Nat.lt_or_ge i nx with h4 | h4
                    · exact h4
                    · exfalso
                      rcases Nat.lt_or_ge I.length nx with h5 | h5
                      · omega
                      · exact HJ.out.2.2.2.2.1 (HA.out.2 nx (by have := HJ.out.2.2.2.2.2; omega) h4 h5)
                  have := HX2.out.2.2 (q - nx) (by omega)
                  rwa [show nx + (q - nx) = q by omega] at this
        · have q1 : decide ((i : Int) ≤ (n1 : Int)) = false := by simp; omega
          have hall := hA.sub.all HI.out (fun q h1 h2 => hP q h1 (by have := Hn.out; omega) h2)
          have hll : k.cut = ll := LastIs.unique ⟨hA.sub.le, hA.sub.mark, fun j hj h1 _ => hall.2.2 j hj h1⟩ HLL.out
          have hlle := HLL.out.le
          have HA := hid (And.intro hA hll)
          clear hA hP hall hll
          go_wp2_with (at_builtin; refine stopAt ?_; intro q hq)
          have hc1 := HA.out.1.cut
          rw [HA.out.2] at hc1
          refine hc1.mono ?_
          clear hc1
          rintro e w9 ⟨rfl, rfl⟩
          go_wp2_with (at_builtin; refine stopAt ?_; intro q hq)
          have hp := HA.out.1.fed.pairs HI.out
          rw [HA.out.2] at hp
          refine hp.mono ?_
          clear hp
          rintro e w6 ⟨u, rfl, hr6, hk6⟩
          obtain ⟨au, cu, rfl, -⟩ := hr6.form
          have H6 := hid (And.intro (HA.out.1.later (RowT.lives _ _ _ _ _) hk6) hr6)
          clear hr6 hk6
          go_wp2_with (at_builtin; refine stopAt ?_; intro q hq)
          have hrw := H6.out.1.fed.row
          rw [← Hn.out] at hrw
          refine (rpairs_good w6 _ ci n1 ll I HI.out Hn.out hrw (by rw [Hn.out]; exact hlle)).mono ?_
          clear hrw
          rintro e w7 ⟨u, rfl, hr7, hk7⟩
          obtain ⟨au2, cu2, rfl, -⟩ := hr7.form
          have H7 := hid (And.intro (H6.out.1.later (RowT.lives _ _ _ _ _) hk7) (And.intro (H6.out.2.keep hk7 (fun _ _ x => x)) hr7))
          clear hr7 hk7
          go_wp2_with (at_builtin; refine stopAt ?_; intro q hq)
          refine (same_prs w7 _ _ _ _ _ H7.out.2.1 H7.out.2.2).mono ?_
          rintro e w8 ⟨rfl, hk8⟩
          have H8 := hid (H7.out.1.fed.keep.next hk8 (fun _ _ x => x) (fun _ _ x => x))
          clear hk8
          go_wp2_with (at_builtin; refine stopAt ?_; intro q hq)
          refine (known_any w8).mono ?_
          rintro e w9 ⟨rfl, hk9⟩
          have HK := hid (H8.out.next hk9 (fun _ _ x => x) (fun _ _ x => x))
          clear hk9
          go_wp2_with (at_builtin; refine stopAt ?_; intro q hq)
          go_ret
          exact ⟨rfl, HK.out⟩
end Go.Proofs.Ytiilondhppipnaa
