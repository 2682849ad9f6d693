/- What a law is given: slices of integers, of bytes, and of the laws' own acts, told as lists. Conditions: none. -/
import Derived.Test.YtenijbngmdaakaaDiskK
import Derived.Deep.Slices
import Derived.ChangeShapes
namespace Go.Proofs.Ytenijbngmdaakaa
open Go.ChangeShapes Go.WideShapes Go.RowKit Go.Deep

/-- A slice that was given: its elements' cells, each told by an x. -/
def SliceOf {α : Type} (w : World) (size : Nat) (R : List Value → α → Prop) (v : Value) (l : List α) : Prop :=
  ∃ ao c, v = .slice ao l.length c ∧ l.length ≤ c ∧ c ≤ maxLen ∧ (0 < l.length → ∃ ad, ao = some ad ∧ ∀ i (hi : i < l.length), ∃ cs, cs.length = size ∧ R cs l[i] ∧ ∀ j u, cs[j]? = some u → w.cell? (ad.add (i * size + j)) = some u)

section
variable {H : Type} {enc : TypeId × Value → H} {P : Program} {w : World} {base : Nat} {held : Bool}

theorem rd_slice {α : Type} [Inhabited α] {t e : TypeId} {fuel size : Nat} {v : Value} {x : DataW H × List MemPlace} (ht : P.underlying t = some (.slice e)) (hs : P.cellsOf e = size) {R : List Value → α → Prop}
    (hR : ∀ n cs y, DataW.trod enc P w base (fun _ => true) held n e cs = some y → ∃ a, R cs a) (h : DataW.trod enc P w base (fun _ => true) held fuel t [v] = some x) :
    ∃ l : List α, SliceOf w size R v l := by
  subst hs
  rcases open_slice ht h with ⟨h0, -⟩ | ⟨a, len, cap, m, n, D, Pl, h0, hb, hl, hm, hmm, -, hx⟩
  · simp at h0
    exact ⟨[], none, 0, h0, Nat.le_refl _, Nat.zero_le _, fun h => by simp at h⟩
  · simp at h0 hmm
    obtain ⟨f, hf⟩ := choose_lt (α := α) (n := len) (p := fun i y => ∃ cs, cs.length = P.cellsOf e ∧ R cs y ∧ ∀ j u, cs[j]? = some u → w.cell? (a.add (i * P.cellsOf e + j)) = some u) (fun i hi => by
      obtain ⟨cs, h1, h2⟩ := hx i (by omega)
      obtain ⟨y, hy⟩ := hR _ _ _ h2
      obtain ⟨_, hlen, hc⟩ := World.cells?_some h1
      refine ⟨y, cs, hlen, hy, fun j u hu => ?_⟩
      have hj : j < P.cellsOf e := by rw [← hlen]; exact (List.getElem?_eq_some_iff.1 hu).1
      rw [← add_add, hc j hj]
      exact hu)
    refine ⟨(List.range len).map f, some a, cap, by simpa using h0, by simpa using hl, hm, fun _ => ⟨a, rfl, fun i hi => ?_⟩⟩
    simp at hi
    simpa using hf i hi

theorem rd_int {t : TypeId} {k : IntKind} {fuel : Nat} {cs : List Value} {x : DataW H × List MemPlace} (ht : P.underlying t = some (.int k)) (h : DataW.trod enc P w base (fun _ => true) held fuel t cs = some x) :
    ∃ n, cs = [.int k n] ∧ (Lit.int k n).wf = true :=
  let ⟨n, h1, _, h3⟩ := DataW.trod_int ht h
  ⟨n, h1, h3⟩

theorem rd_fields5 {t : TypeId} {f0 f1 f2 f3 f4 : Field} {fuel : Nat} {cs : List Value} {x : DataW H × List MemPlace} (ht : P.underlying t = some (.struct #[f0, f1, f2, f3, f4])) (h : DataW.trod enc P w base (fun _ => true) held fuel t cs = some x) :
    ∃ y0 y1 y2 y3 y4 n, cs.length = P.cellsOf t ∧ DataW.trod enc P w base (fun _ => true) held n f0.type ((cs.drop f0.offset).take (P.cellsOf f0.type)) = some y0 ∧
      DataW.trod enc P w base (fun _ => true) held n f1.type ((cs.drop f1.offset).take (P.cellsOf f1.type)) = some y1 ∧ DataW.trod enc P w base (fun _ => true) held n f2.type ((cs.drop f2.offset).take (P.cellsOf f2.type)) = some y2 ∧
      DataW.trod enc P w base (fun _ => true) held n f3.type ((cs.drop f3.offset).take (P.cellsOf f3.type)) = some y3 ∧ DataW.trod enc P w base (fun _ => true) held n f4.type ((cs.drop f4.offset).take (P.cellsOf f4.type)) = some y4 := by
  obtain ⟨xs, n, _, rfl, hl, hlen, hf⟩ := DataW.trod_struct ht h
  match xs, hlen with
  | [y0, y1, y2, y3, y4], _ => exact ⟨y0, y1, y2, y3, y4, n, hl, by simpa using hf 0 f0 rfl, by simpa using hf 1 f1 rfl, by simpa using hf 2 f2 rfl, by simpa using hf 3 f3 rfl, by simpa using hf 4 f4 rfl⟩
end

/-- An int; a byte: one cell. -/
def IntR (cs : List Value) (z : Int) : Prop := cs = [.int .i64 z] ∧ -9223372036854775808 ≤ z ∧ z ≤ 9223372036854775807
def ByteR (cs : List Value) (u : UInt8) : Prop := cs = [.int .u8 (u.toNat : Int)]

theorem wf_i64 {a : Int} (h : (Lit.int .i64 a).wf = true) : -9223372036854775808 ≤ a ∧ a ≤ 9223372036854775807 := by
  simpa [Lit.wf, IntKind.min, IntKind.max, IntKind.signed, IntKind.bits] using h
theorem wf_u8 {a : Int} (h : (Lit.int .u8 a).wf = true) : ∃ u : UInt8, a = (u.toNat : Int) := by
  have hx : 0 ≤ a ∧ a ≤ 255 := by simpa [Lit.wf, IntKind.min, IntKind.max, IntKind.signed, IntKind.bits] using h
  refine ⟨UInt8.ofNat a.toNat, ?_⟩
  rw [UInt8.toNat_ofNat']
  omega
theorem wf_u64 {a : Int} (h : (Lit.int .u64 a).wf = true) : 0 ≤ a ∧ a ≤ 18446744073709551615 := by
  simpa [Lit.wf, IntKind.min, IntKind.max, IntKind.signed, IntKind.bits] using h

abbrev Ints (w : World) (v : Value) (l : List Int) : Prop := SliceOf w 1 IntR v l
abbrev Octets (w : World) (v : Value) (l : List UInt8) : Prop := SliceOf w 1 ByteR v l

theorem Ints.cells {w : World} {v : Value} {l : List Int} (h : Ints w v l) :
    ∃ ao c, v = .slice ao l.length c ∧ l.length ≤ c ∧ c ≤ maxLen ∧ Cells w ao l.length 1 (intsV l) ∧ ∀ z ∈ l, -9223372036854775808 ≤ z ∧ z ≤ 9223372036854775807 := by
  obtain ⟨ao, c, rfl, h1, h2, h3⟩ := h
  refine ⟨ao, c, rfl, h1, h2, ⟨by simp [intsV_length], fun hp => ?_⟩, fun z hz => ?_⟩
  · obtain ⟨ad, rfl, h4⟩ := h3 (by omega)
    refine ⟨ad, rfl, fun j u hu => ?_⟩
    have hj : j < l.length := by have := (List.getElem?_eq_some_iff.1 hu).1; rwa [intsV_length] at this
    obtain ⟨cs, _, ⟨rfl, _⟩, hc⟩ := h4 j hj
    have := hc 0 _ rfl
    rw [Nat.mul_one, Nat.add_zero] at this
    rw [this]
    simpa [intsV, hj] using hu
  · obtain ⟨j, hj, rfl⟩ := List.getElem_of_mem hz
    obtain ⟨ad, rfl, h4⟩ := h3 (by omega)
    obtain ⟨cs, _, ⟨_, h5⟩, _⟩ := h4 j hj
    exact h5

theorem Octets.cells {w : World} {v : Value} {l : List UInt8} (h : Octets w v l) :
    ∃ ao c, v = .slice ao l.length c ∧ l.length ≤ c ∧ c ≤ maxLen ∧ Cells w ao l.length 1 (bytesV l) := by
  obtain ⟨ao, c, rfl, h1, h2, h3⟩ := h
  refine ⟨ao, c, rfl, h1, h2, by simp [bytesV_length], fun hp => ?_⟩
  obtain ⟨ad, rfl, h4⟩ := h3 (by omega)
  refine ⟨ad, rfl, fun j u hu => ?_⟩
  have hj : j < l.length := by have := (List.getElem?_eq_some_iff.1 hu).1; rwa [bytesV_length] at this
  obtain ⟨cs, _, rfl, hc⟩ := h4 j hj
  have := hc 0 _ rfl
  rw [Nat.mul_one, Nat.add_zero] at this
  rw [this]
  simpa [bytesV, hj] using hu

theorem rd_ints {H : Type} {enc : TypeId × Value → H} {w : World} {base : Nat} {held : Bool} {fuel : Nat} {v : Value} {x : DataW H × List MemPlace}
    (h : DataW.trod enc Try.prog w base (fun _ => true) held fuel 24 [v] = some x) : ∃ l, Ints w v l :=
  rd_slice Try.underlying24 (by kernel_rfl) (fun _ _ _ h => let ⟨n, h1, h2⟩ := rd_int Try.underlying3 h; ⟨n, h1, wf_i64 h2⟩) h
theorem rd_octets {H : Type} {enc : TypeId × Value → H} {w : World} {base : Nat} {held : Bool} {fuel : Nat} {v : Value} {x : DataW H × List MemPlace}
    (h : DataW.trod enc Try.prog w base (fun _ => true) held fuel 22 [v] = some x) : ∃ l, Octets w v l :=
  rd_slice Try.underlying22 (by kernel_rfl) (fun _ _ _ h => let ⟨n, h1, h2⟩ := rd_int Try.underlying5 h; let ⟨u, hu⟩ := wf_u8 h2; ⟨u, by rw [h1, hu]; rfl⟩) h

/-- An act of the laws. -/
structure Act3 where
  kind : Int
  at_ : Int
  fill : UInt8
  n : Int
  keep : List Int
deriving Inhabited

def ActR (w : World) (cs : List Value) (x : Act3) : Prop :=
  ∃ kv, cs = [.int .i64 x.kind, .int .i64 x.at_, .int .u8 (x.fill.toNat : Int), .int .i64 x.n, kv] ∧ Ints w kv x.keep ∧ (-9223372036854775808 ≤ x.kind ∧ x.kind ≤ 9223372036854775807) ∧
    (-9223372036854775808 ≤ x.at_ ∧ x.at_ ≤ 9223372036854775807) ∧ (-9223372036854775808 ≤ x.n ∧ x.n ≤ 9223372036854775807)

abbrev Acts (w : World) (v : Value) (l : List Act3) : Prop := SliceOf w 5 (ActR w) v l

theorem rd_act {H : Type} {enc : TypeId × Value → H} {w : World} {base : Nat} {held : Bool} {fuel : Nat} {cs : List Value} {x : DataW H × List MemPlace}
    (h : DataW.trod enc Try.prog w base (fun _ => true) held fuel 37 cs = some x) : ∃ y, ActR w cs y := by
  obtain ⟨y0, y1, y2, y3, y4, n, hl, h0, h1, h2, h3, h4⟩ := rd_fields5 Try.underlying37 h
  have c5 : Try.prog.cellsOf 37 = 5 := by kernel_rfl
  have ci : Try.prog.cellsOf 3 = 1 := by kernel_rfl
  have cb : Try.prog.cellsOf 5 = 1 := by kernel_rfl
  have cs1 : Try.prog.cellsOf 24 = 1 := by kernel_rfl
  rw [c5] at hl
  match cs, hl with
  | [c0, c1, c2, c3, c4], _ =>
    simp only [ci, cb, cs1, List.drop_zero, List.drop_succ_cons, List.take_succ_cons, List.take_zero] at h0 h1 h2 h3 h4
    obtain ⟨a0, e0, w0⟩ := rd_int Try.underlying3 h0
    obtain ⟨a1, e1, w1⟩ := rd_int Try.underlying3 h1
    obtain ⟨a2, e2, w2⟩ := rd_int Try.underlying5 h2
    obtain ⟨a3, e3, w3⟩ := rd_int Try.underlying3 h3
    obtain ⟨l, h5⟩ := rd_ints h4
    obtain ⟨u, rfl⟩ := wf_u8 w2
    simp only [List.cons.injEq, and_true] at e0 e1 e2 e3
    subst e0 e1 e2 e3
    exact ⟨⟨a0, a1, u, a3, l⟩, c4, rfl, h5, wf_i64 w0, wf_i64 w1, wf_i64 w3⟩

theorem rd_acts {H : Type} {enc : TypeId × Value → H} {w : World} {base : Nat} {held : Bool} {fuel : Nat} {v : Value} {x : DataW H × List MemPlace}
    (h : DataW.trod enc Try.prog w base (fun _ => true) held fuel 23 [v] = some x) : ∃ l, Acts w v l :=
  rd_slice Try.underlying23 (by kernel_rfl) (fun _ _ _ h => rd_act h) h

/-- One given element as the code reads it. -/
theorem Acts.form {w : World} {v : Value} {l : List Act3} (h : Acts w v l) : ∃ ao c, v = .slice ao l.length c ∧ l.length ≤ c ∧ c ≤ maxLen := by
  obtain ⟨ao, c, h1, h2, h3, _⟩ := h
  exact ⟨ao, c, h1, h2, h3⟩
theorem add_pos (a : Addr) (n : Nat) (h : 0 < n) : a.add n = { block := a.block, off := a.off + n } := by
  unfold Addr.add; rw [if_neg (by omega)]
theorem Acts.get {w w' : World} {ao : Option Addr} {m c : Nat} {l : List Act3} (h : Acts w (.slice ao m c) l) (hk : Keep (fun _ => False) w w') (i : Nat) (hi : i < l.length) :
    ∃ ad kv, ao = some ad ∧ w'.cell? (ad.add (i * 5)) = some (.int .i64 l[i].kind) ∧ w'.cell? { block := (ad.add (i * 5)).block, off := (ad.add (i * 5)).off + 1 } = some (.int .i64 l[i].at_) ∧ w'.cell? { block := (ad.add (i * 5)).block, off := (ad.add (i * 5)).off + 2 } = some (.int .u8 (l[i].fill.toNat : Int)) ∧
      w'.cell? { block := (ad.add (i * 5)).block, off := (ad.add (i * 5)).off + 3 } = some (.int .i64 l[i].n) ∧ w'.cell? { block := (ad.add (i * 5)).block, off := (ad.add (i * 5)).off + 4 } = some kv ∧ Ints w kv l[i].keep ∧ (-9223372036854775808 ≤ l[i].kind ∧ l[i].kind ≤ 9223372036854775807) ∧
    (-9223372036854775808 ≤ l[i].at_ ∧ l[i].at_ ≤ 9223372036854775807) ∧ (-9223372036854775808 ≤ l[i].n ∧ l[i].n ≤ 9223372036854775807) := by
  obtain ⟨ao', c', hv, _, _, h3⟩ := h
  cases hv
  obtain ⟨ad, rfl, h4⟩ := h3 (by omega)
  obtain ⟨cs, _, ⟨kv, rfl, h5⟩, hc⟩ := h4 i hi
  have old : ∀ (a : Addr) u, w.cell? a = some u → w'.cell? a = some u := fun a u hu => by
    rw [World.cell?_of_block (hk.block _ (World.block_lt_of_cell? w _ hu) id)]
    exact hu
  refine ⟨ad, kv, rfl, old _ _ ?_, old _ _ ?_, old _ _ ?_, old _ _ ?_, old _ _ ?_, h5⟩
  · exact hc 0 _ rfl
  all_goals rw [← add_pos _ _ (by decide), add_add]
  · exact hc 1 _ rfl
  · exact hc 2 _ rfl
  · exact hc 3 _ rfl
  · exact hc 4 _ rfl

/-- int(uint(a) % m). -/
theorem umod_int (a m : Int) (h0 : 0 < m) (h1 : m ≤ 9223372036854775807) : IntKind.i64.wrap ((IntKind.u64.wrap a).tmod m) = a % 18446744073709551616 % m := by
  have h2 : IntKind.u64.wrap a = a % 18446744073709551616 := by simp [IntKind.wrap, IntKind.signed, IntKind.bits]
  have h3 : 0 ≤ a % 18446744073709551616 := by omega
  rw [h2, Int.tmod_eq_emod_of_nonneg h3]
  have h4 := Int.emod_nonneg (a % 18446744073709551616) (show m ≠ 0 by omega)
  have h5 := Int.emod_lt_of_pos (a % 18446744073709551616) h0
  generalize a % 18446744073709551616 % m = x at h4 h5
  simp [IntKind.wrap, IntKind.signed, IntKind.bits]
  omega
end Go.Proofs.Ytenijbngmdaakaa
