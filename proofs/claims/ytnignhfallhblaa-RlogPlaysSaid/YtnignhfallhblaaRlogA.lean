/- What law 12 is given: slices of numbers, of bytes, of slices of bytes, and of its acts, told as lists. Conditions: none. -/
import Derived.Test.YtnignhfallhblaaRlogK
import Derived.Deep.Slices
import Derived.ChangeShapes
namespace Go.Proofs.Ytnignhfallhblaa
open Go.ChangeShapes Go.WideShapes Go.RowKit Go.Deep

/-- A slice that was given: its elements' cells, each told by an x. -/
def SliceOf {α : Type} (w : World) (size : Nat) (R : List Value → α → Prop) (v : Value) (l : List α) : Prop :=
  ∃ ao c, v = .slice ao l.length c ∧ l.length ≤ c ∧ c ≤ maxLen ∧ (0 < l.length → ∃ ad, ao = some ad ∧ ∀ i (hi : i < l.length), ∃ cs, cs.length = size ∧ R cs l[i] ∧ ∀ j u, cs[j]? = some u → w.cell? (ad.add (i * size + j)) = some u)

section
variable {H : Type} {enc : TypeId × Value → H} {P : Program} {w : World} {base : Nat} {held : Bool}

theorem rd_slice {α : Type} [Inhabited α] {t e : TypeId} {fuel size : Nat} {v : Value} {x : DataW H × List MemPlace} (ht : P.underlying t = some (.slice e)) (hs : P.cellsOf e = size) {R : List Value → α → Prop}
    (hR : ∀ n cs y, DataW.trod enc P w base (fun _ => true) held n e cs = some y → ∃ a, R cs a) (h : DataW.trod enc P w base (fun _ => true) held fuel t [v] = some x) :
    ∃ l : List α, SliceOf w size R v l := by
  subst hs
  rcases open_slice ht h with ⟨h0, -⟩ | ⟨a, len, cap, m, n, D, Pl, h0, hb, hl, hm, hmm, -, hx⟩
  · simp at h0
    exact ⟨[], none, 0, h0, Nat.le_refl _, Nat.zero_le _, fun h => by simp at h⟩
  · simp at h0 hmm
    obtain ⟨f, hf⟩ := choose_lt (α := α) (n := len) (p := fun i y => ∃ cs, cs.length = P.cellsOf e ∧ R cs y ∧ ∀ j u, cs[j]? = some u → w.cell? (a.add (i * P.cellsOf e + j)) = some u) (fun i hi => by
      obtain ⟨cs, h1, h2⟩ := hx i (by omega)
      obtain ⟨y, hy⟩ := hR _ _ _ h2
      obtain ⟨_, hlen, hc⟩ := World.cells?_some h1
      refine ⟨y, cs, hlen, hy, fun j u hu => ?_⟩
      have hj : j < P.cellsOf e := by rw [← hlen]; exact (List.getElem?_eq_some_iff.1 hu).1
      rw [← add_add, hc j hj]
      exact hu)
    refine ⟨(List.range len).map f, some a, cap, by simpa using h0, by simpa using hl, hm, fun _ => ⟨a, rfl, fun i hi => ?_⟩⟩
    simp at hi
    simpa using hf i hi

theorem rd_int {t : TypeId} {k : IntKind} {fuel : Nat} {cs : List Value} {x : DataW H × List MemPlace} (ht : P.underlying t = some (.int k)) (h : DataW.trod enc P w base (fun _ => true) held fuel t cs = some x) :
    ∃ n, cs = [.int k n] ∧ (Lit.int k n).wf = true :=
  let ⟨n, h1, _, h3⟩ := DataW.trod_int ht h
  ⟨n, h1, h3⟩

theorem rd_fields3 {t : TypeId} {f0 f1 f2 : Field} {fuel : Nat} {cs : List Value} {x : DataW H × List MemPlace} (ht : P.underlying t = some (.struct #[f0, f1, f2])) (h : DataW.trod enc P w base (fun _ => true) held fuel t cs = some x) :
    ∃ y0 y1 y2 n, cs.length = P.cellsOf t ∧ DataW.trod enc P w base (fun _ => true) held n f0.type ((cs.drop f0.offset).take (P.cellsOf f0.type)) = some y0 ∧
      DataW.trod enc P w base (fun _ => true) held n f1.type ((cs.drop f1.offset).take (P.cellsOf f1.type)) = some y1 ∧ DataW.trod enc P w base (fun _ => true) held n f2.type ((cs.drop f2.offset).take (P.cellsOf f2.type)) = some y2 := by
  obtain ⟨xs, n, _, rfl, hl, hlen, hf⟩ := DataW.trod_struct ht h
  match xs, hlen with
  | [y0, y1, y2], _ => exact ⟨y0, y1, y2, n, hl, by simpa using hf 0 f0 rfl, by simpa using hf 1 f1 rfl, by simpa using hf 2 f2 rfl⟩
end

/-- An int; a byte: one cell. -/
def IntR (cs : List Value) (z : Int) : Prop := cs = [.int .i64 z] ∧ -9223372036854775808 ≤ z ∧ z ≤ 9223372036854775807
def ByteR (cs : List Value) (u : UInt8) : Prop := cs = [.int .u8 (u.toNat : Int)]

theorem wf_i64 {a : Int} (h : (Lit.int .i64 a).wf = true) : -9223372036854775808 ≤ a ∧ a ≤ 9223372036854775807 := by
  simpa [Lit.wf, IntKind.min, IntKind.max, IntKind.signed, IntKind.bits] using h
theorem wf_u8 {a : Int} (h : (Lit.int .u8 a).wf = true) : ∃ u : UInt8, a = (u.toNat : Int) := by
  have hx : 0 ≤ a ∧ a ≤ 255 := by simpa [Lit.wf, IntKind.min, IntKind.max, IntKind.signed, IntKind.bits] using h
  refine ⟨UInt8.ofNat a.toNat, ?_⟩
  rw [UInt8.toNat_ofNat']
  omega
theorem wf_u64 {a : Int} (h : (Lit.int .u64 a).wf = true) : 0 ≤ a ∧ a ≤ 18446744073709551615 := by
  simpa [Lit.wf, IntKind.min, IntKind.max, IntKind.signed, IntKind.bits] using h

abbrev Octets (w : World) (v : Value) (l : List UInt8) : Prop := SliceOf w 1 ByteR v l

theorem Octets.cells {w : World} {v : Value} {l : List UInt8} (h : Octets w v l) :
    ∃ ao c, v = .slice ao l.length c ∧ l.length ≤ c ∧ c ≤ maxLen ∧ Cells w ao l.length 1 (bytesV l) := by
  obtain ⟨ao, c, rfl, h1, h2, h3⟩ := h
  refine ⟨ao, c, rfl, h1, h2, by simp [bytesV_length], fun hp => ?_⟩
  obtain ⟨ad, rfl, h4⟩ := h3 (by omega)
  refine ⟨ad, rfl, fun j u hu => ?_⟩
  have hj : j < l.length := by have := (List.getElem?_eq_some_iff.1 hu).1; rwa [bytesV_length] at this
  obtain ⟨cs, _, rfl, hc⟩ := h4 j hj
  have := hc 0 _ rfl
  rw [Nat.mul_one, Nat.add_zero] at this
  rw [this]
  simpa [bytesV, hj] using hu

theorem rd_octets {H : Type} {enc : TypeId × Value → H} {w : World} {base : Nat} {held : Bool} {fuel : Nat} {v : Value} {x : DataW H × List MemPlace}
    (h : DataW.trod enc Try.prog w base (fun _ => true) held fuel 24 [v] = some x) : ∃ l, Octets w v l :=
  rd_slice Try.underlying24 (by kernel_rfl) (fun _ _ _ h => let ⟨n, h1, h2⟩ := rd_int Try.underlying5 h; let ⟨u, hu⟩ := wf_u8 h2; ⟨u, by rw [h1, hu]; rfl⟩) h


theorem add_pos (a : Addr) (n : Nat) (h : 0 < n) : a.add n = { block := a.block, off := a.off + n } := by
  unfold Addr.add; rw [if_neg (by omega)]
theorem cells_old {w w' : World} (hk : Keep (fun _ => False) w w') {a : Addr} {u : Value} (hu : w.cell? a = some u) : w'.cell? a = some u := by
  rw [World.cell?_of_block (hk.block _ (World.block_lt_of_cell? w _ hu) id)]
  exact hu

/-- A number: one cell. -/
def NumR (cs : List Value) (n : Nat) : Prop := cs = [.int .u64 (n : Int)] ∧ n < 18446744073709551616
abbrev Nums (w : World) (v : Value) (l : List Nat) : Prop := SliceOf w 1 NumR v l
theorem rd_nums {H : Type} {enc : TypeId × Value → H} {w : World} {base : Nat} {held : Bool} {fuel : Nat} {v : Value} {x : DataW H × List MemPlace}
    (h : DataW.trod enc Try.prog w base (fun _ => true) held fuel 23 [v] = some x) : ∃ l, Nums w v l :=
  rd_slice Try.underlying23 (by kernel_rfl) (fun _ _ _ h => let ⟨n, h1, h2⟩ := rd_int Try.underlying26 h; ⟨n.toNat, by rw [h1]; have := wf_u64 h2; rw [Int.toNat_of_nonneg this.1], by have := wf_u64 h2; omega⟩) h
theorem Nums.get {w w' : World} {ao : Option Addr} {m c : Nat} {l : List Nat} (h : Nums w (.slice ao m c) l) (hk : Keep (fun _ => False) w w') (i : Nat) (hi : i < l.length) :
    ∃ ad, ao = some ad ∧ w'.cell? (ad.add i) = some (.int .u64 (l[i] : Nat)) ∧ l[i] < 18446744073709551616 := by
  obtain ⟨ao', c', hv, _, _, h3⟩ := h
  cases hv
  obtain ⟨ad, rfl, h4⟩ := h3 (by omega)
  obtain ⟨cs, _, ⟨rfl, h5⟩, hc⟩ := h4 i hi
  have := hc 0 _ rfl
  rw [Nat.mul_one, Nat.add_zero] at this
  exact ⟨ad, rfl, cells_old hk this, h5⟩

/-- Bytes: one cell. -/
def BytesR (w : World) (cs : List Value) (l : List UInt8) : Prop := ∃ v, cs = [v] ∧ Octets w v l
abbrev Shelf (w : World) (v : Value) (l : List (List UInt8)) : Prop := SliceOf w 1 (BytesR w) v l
theorem rd_one {α : Type} {R : Value → α → Prop} {H : Type} {enc : TypeId × Value → H} {P : Program} {w : World} {base : Nat} {held : Bool} {fuel : Nat} {t e : TypeId} {cs : List Value} {x : DataW H × List MemPlace} (ht : P.underlying t = some (.slice e))
    (hr : ∀ v, DataW.trod enc P w base (fun _ => true) held fuel t [v] = some x → ∃ a, R v a) (h : DataW.trod enc P w base (fun _ => true) held fuel t cs = some x) : ∃ a v, cs = [v] ∧ R v a := by
  rcases open_slice ht h with ⟨h0, -⟩ | ⟨a, len, cap, m, n, D, Pl, h0, -⟩ <;> subst h0
  · obtain ⟨a, ha⟩ := hr _ h; exact ⟨a, _, rfl, ha⟩
  · obtain ⟨a, ha⟩ := hr _ h; exact ⟨a, _, rfl, ha⟩
theorem rd_shelf {H : Type} {enc : TypeId × Value → H} {w : World} {base : Nat} {held : Bool} {fuel : Nat} {v : Value} {x : DataW H × List MemPlace}
    (h : DataW.trod enc Try.prog w base (fun _ => true) held fuel 22 [v] = some x) : ∃ l, Shelf w v l :=
  rd_slice Try.underlying22 (by kernel_rfl) (fun _ _ _ h => let ⟨a, v, h1, h2⟩ := rd_one Try.underlying24 (fun _ h => rd_octets h) h; ⟨a, v, h1, h2⟩) h
theorem SliceOf.form {α : Type} {w : World} {size : Nat} {R : List Value → α → Prop} {v : Value} {l : List α} (h : SliceOf w size R v l) : ∃ ao c, v = .slice ao l.length c ∧ l.length ≤ c ∧ c ≤ maxLen := by
  obtain ⟨ao, c, h1, h2, h3, _⟩ := h
  exact ⟨ao, c, h1, h2, h3⟩
theorem Shelf.get {w w' : World} {ao : Option Addr} {m c : Nat} {l : List (List UInt8)} (h : Shelf w (.slice ao m c) l) (hk : Keep (fun _ => False) w w') (i : Nat) (hi : i < l.length) :
    ∃ ad bo d, ao = some ad ∧ w'.cell? (ad.add i) = some (.slice bo l[i].length d) ∧ Cells w' bo l[i].length 1 (bytesV l[i]) ∧ l[i].length ≤ maxLen := by
  obtain ⟨ao', c', hv, _, _, h3⟩ := h
  cases hv
  obtain ⟨ad, rfl, h4⟩ := h3 (by omega)
  obtain ⟨cs, _, ⟨v, rfl, h5⟩, hc⟩ := h4 i hi
  obtain ⟨bo, d, rfl, h6, h7, h8⟩ := h5.cells
  have := hc 0 _ rfl
  rw [Nat.mul_one, Nat.add_zero] at this
  exact ⟨ad, bo, d, rfl, cells_old hk this, h8.keep hk fun _ _ x => x, by omega⟩

/-- An act of the laws. -/
structure ActL where
  kind : Int
  slot : Nat
  value : List UInt8
deriving Inhabited
def ActR (w : World) (cs : List Value) (x : ActL) : Prop :=
  ∃ kv, cs = [.int .i64 x.kind, .int .u64 (x.slot : Int), kv] ∧ Octets w kv x.value ∧ (-9223372036854775808 ≤ x.kind ∧ x.kind ≤ 9223372036854775807) ∧ x.slot < 18446744073709551616
abbrev Acts (w : World) (v : Value) (l : List ActL) : Prop := SliceOf w 3 (ActR w) v l
theorem rd_act {H : Type} {enc : TypeId × Value → H} {w : World} {base : Nat} {held : Bool} {fuel : Nat} {cs : List Value} {x : DataW H × List MemPlace}
    (h : DataW.trod enc Try.prog w base (fun _ => true) held fuel 47 cs = some x) : ∃ y, ActR w cs y := by
  obtain ⟨y0, y1, y2, n, hl, h0, h1, h2⟩ := rd_fields3 Try.underlying47 h
  have c3 : Try.prog.cellsOf 47 = 3 := by kernel_rfl
  have ci : Try.prog.cellsOf 3 = 1 := by kernel_rfl
  have cu : Try.prog.cellsOf 26 = 1 := by kernel_rfl
  have cb : Try.prog.cellsOf 24 = 1 := by kernel_rfl
  rw [c3] at hl
  match cs, hl with
  | [c0, c1, c2], _ =>
    simp only [ci, cu, cb, List.drop_zero, List.drop_succ_cons, List.take_succ_cons, List.take_zero] at h0 h1 h2
    obtain ⟨a0, e0, w0⟩ := rd_int Try.underlying3 h0
    obtain ⟨a1, e1, w1⟩ := rd_int Try.underlying26 h1
    obtain ⟨l, h5⟩ := rd_octets h2
    simp only [List.cons.injEq, and_true] at e0 e1
    subst e0 e1
    have := wf_u64 w1
    exact ⟨⟨a0, a1.toNat, l⟩, c2, by rw [Int.toNat_of_nonneg this.1], h5, wf_i64 w0, by show a1.toNat < _; omega⟩
theorem rd_acts {H : Type} {enc : TypeId × Value → H} {w : World} {base : Nat} {held : Bool} {fuel : Nat} {v : Value} {x : DataW H × List MemPlace}
    (h : DataW.trod enc Try.prog w base (fun _ => true) held fuel 44 [v] = some x) : ∃ l, Acts w v l :=
  rd_slice Try.underlying44 (by kernel_rfl) (fun _ _ _ h => rd_act h) h
theorem Acts.get {w w' : World} {ao : Option Addr} {m c : Nat} {l : List ActL} (h : Acts w (.slice ao m c) l) (hk : Keep (fun _ => False) w w') (i : Nat) (hi : i < l.length) :
    ∃ ad bo d, ao = some ad ∧ w'.cell? (ad.add (i * 3)) = some (.int .i64 l[i].kind) ∧ w'.cell? { block := (ad.add (i * 3)).block, off := (ad.add (i * 3)).off + 1 } = some (.int .u64 (l[i].slot : Nat)) ∧ w'.cell? { block := (ad.add (i * 3)).block, off := (ad.add (i * 3)).off + 2 } = some (.slice bo l[i].value.length d) ∧
      Cells w' bo l[i].value.length 1 (bytesV l[i].value) ∧ (-9223372036854775808 ≤ l[i].kind ∧ l[i].kind ≤ 9223372036854775807) ∧ l[i].slot < 18446744073709551616 ∧ l[i].value.length ≤ maxLen := by
  obtain ⟨ao', c', hv, _, _, h3⟩ := h
  cases hv
  obtain ⟨ad, rfl, h4⟩ := h3 (by omega)
  obtain ⟨cs, _, ⟨kv, rfl, h5, h9, h10⟩, hc⟩ := h4 i hi
  obtain ⟨bo, d, rfl, h6, h7, h8⟩ := h5.cells
  refine ⟨ad, bo, d, rfl, cells_old hk ?_, cells_old hk ?_, cells_old hk ?_, h8.keep hk fun _ _ x => x, h9, h10, by omega⟩
  · exact hc 0 _ rfl
  all_goals rw [← add_pos _ _ (by decide), add_add]
  · exact hc 1 _ rfl
  · exact hc 2 _ rfl
end Go.Proofs.Ytnignhfallhblaa
