/- Texts Arg0, WpB, WpC, WpD, WpE, WpF, WpG, WpH, WpI, WpJ, WpK, WpL, WpM in one. Conditions: as each law names them. -/
import Derived.Deep.Slices
import Derived.ChangeShapes
import Derived.Test.YteemekckiafnfaaBad
import Derived.Test.YteemekckiafnfaaBae
import Derived.Test.YteemekckiafnfaaBaf
import Derived.Test.YteemekckiafnfaaBah
import Derived.Test.YteemekckiafnfaaBao
import Derived.Test.YteemekckiafnfaaBap
/- What a law is given: slices of integers, of bytes, and of the laws' own acts, told as lists. Conditions: none. -/
namespace Go.Proofs.Yteemekckiafnfaa
open Go.ChangeShapes Go.WideShapes Go.RowKit Go.Deep

/-- A slice that was given: its elements' cells, each told by an x. -/
def SliceOf {α : Type} (w : World) (size : Nat) (R : List Value → α → Prop) (v : Value) (l : List α) : Prop :=
  ∃ ao c, v = .slice ao l.length c ∧ l.length ≤ c ∧ c ≤ maxLen ∧ (0 < l.length → ∃ ad, ao = some ad ∧ ∀ i (hi : i < l.length), ∃ cs, cs.length = size ∧ R cs l[i] ∧ ∀ j u, cs[j]? = some u → w.cell? (ad.add (i * size + j)) = some u)

section
variable {H : Type} {enc : TypeId × Value → H} {P : Program} {w : World} {base : Nat} {held : Bool}

theorem rd_sliceL {α : Type} [Inhabited α] {t e : TypeId} {fuel size : Nat} {v : Value} {x : DataW H × List MemPlace} (ht : P.underlying t = some (.slice e)) (hs : P.cellsOf e = size) {R : List Value → α → Prop}
    (hR : ∀ n cs y, cs.length = size → DataW.trod enc P w base (fun _ => true) held n e cs = some y → ∃ a, R cs a) (h : DataW.trod enc P w base (fun _ => true) held fuel t [v] = some x) :
    ∃ l : List α, SliceOf w size R v l := by
  subst hs
  rcases open_slice ht h with ⟨h0, -⟩ | ⟨a, len, cap, m, n, D, Pl, h0, hb, hl, hm, hmm, -, hx⟩
  · simp at h0
    exact ⟨[], none, 0, h0, Nat.le_refl _, Nat.zero_le _, fun h => by simp at h⟩
  · simp at h0 hmm
    obtain ⟨f, hf⟩ := choose_lt (α := α) (n := len) (p := fun i y => ∃ cs, cs.length = P.cellsOf e ∧ R cs y ∧ ∀ j u, cs[j]? = some u → w.cell? (a.add (i * P.cellsOf e + j)) = some u) (fun i hi => by
      obtain ⟨cs, h1, h2⟩ := hx i (by omega)
      obtain ⟨_, hlen, hc⟩ := World.cells?_some h1
      obtain ⟨y, hy⟩ := hR _ _ _ hlen h2
      refine ⟨y, cs, hlen, hy, fun j u hu => ?_⟩
      have hj : j < P.cellsOf e := by rw [← hlen]; exact (List.getElem?_eq_some_iff.1 hu).1
      rw [← add_add, hc j hj]
      exact hu)
    refine ⟨(List.range len).map f, some a, cap, by simpa using h0, by simpa using hl, hm, fun _ => ⟨a, rfl, fun i hi => ?_⟩⟩
    simp at hi
    simpa using hf i hi

theorem rd_slice {α : Type} [Inhabited α] {t e : TypeId} {fuel size : Nat} {v : Value} {x : DataW H × List MemPlace} (ht : P.underlying t = some (.slice e)) (hs : P.cellsOf e = size) {R : List Value → α → Prop}
    (hR : ∀ n cs y, DataW.trod enc P w base (fun _ => true) held n e cs = some y → ∃ a, R cs a) (h : DataW.trod enc P w base (fun _ => true) held fuel t [v] = some x) :
    ∃ l : List α, SliceOf w size R v l :=
  rd_sliceL ht hs (fun n cs y _ => hR n cs y) h

theorem rd_int {t : TypeId} {k : IntKind} {fuel : Nat} {cs : List Value} {x : DataW H × List MemPlace} (ht : P.underlying t = some (.int k)) (h : DataW.trod enc P w base (fun _ => true) held fuel t cs = some x) :
    ∃ n, cs = [.int k n] ∧ (Lit.int k n).wf = true :=
  let ⟨n, h1, _, h3⟩ := DataW.trod_int ht h
  ⟨n, h1, h3⟩

theorem rd_fields5 {t : TypeId} {f0 f1 f2 f3 f4 : Field} {fuel : Nat} {cs : List Value} {x : DataW H × List MemPlace} (ht : P.underlying t = some (.struct #[f0, f1, f2, f3, f4])) (h : DataW.trod enc P w base (fun _ => true) held fuel t cs = some x) :
    ∃ y0 y1 y2 y3 y4 n, cs.length = P.cellsOf t ∧ DataW.trod enc P w base (fun _ => true) held n f0.type ((cs.drop f0.offset).take (P.cellsOf f0.type)) = some y0 ∧
      DataW.trod enc P w base (fun _ => true) held n f1.type ((cs.drop f1.offset).take (P.cellsOf f1.type)) = some y1 ∧ DataW.trod enc P w base (fun _ => true) held n f2.type ((cs.drop f2.offset).take (P.cellsOf f2.type)) = some y2 ∧
      DataW.trod enc P w base (fun _ => true) held n f3.type ((cs.drop f3.offset).take (P.cellsOf f3.type)) = some y3 ∧ DataW.trod enc P w base (fun _ => true) held n f4.type ((cs.drop f4.offset).take (P.cellsOf f4.type)) = some y4 := by
  obtain ⟨xs, n, _, rfl, hl, hlen, hf⟩ := DataW.trod_struct ht h
  match xs, hlen with
  | [y0, y1, y2, y3, y4], _ => exact ⟨y0, y1, y2, y3, y4, n, hl, by simpa using hf 0 f0 rfl, by simpa using hf 1 f1 rfl, by simpa using hf 2 f2 rfl, by simpa using hf 3 f3 rfl, by simpa using hf 4 f4 rfl⟩
end

/-- An int; a byte: one cell. -/
def IntR (cs : List Value) (z : Int) : Prop := cs = [.int .i64 z] ∧ -9223372036854775808 ≤ z ∧ z ≤ 9223372036854775807
def ByteR (cs : List Value) (u : UInt8) : Prop := cs = [.int .u8 (u.toNat : Int)]

theorem wf_i64 {a : Int} (h : (Lit.int .i64 a).wf = true) : -9223372036854775808 ≤ a ∧ a ≤ 9223372036854775807 := by
  simpa [Lit.wf, IntKind.min, IntKind.max, IntKind.signed, IntKind.bits] using h
theorem wf_u8 {a : Int} (h : (Lit.int .u8 a).wf = true) : ∃ u : UInt8, a = (u.toNat : Int) := by
  have hx : 0 ≤ a ∧ a ≤ 255 := by simpa [Lit.wf, IntKind.min, IntKind.max, IntKind.signed, IntKind.bits] using h
  refine ⟨UInt8.ofNat a.toNat, ?_⟩
  rw [UInt8.toNat_ofNat']
  omega
theorem wf_u64 {a : Int} (h : (Lit.int .u64 a).wf = true) : 0 ≤ a ∧ a ≤ 18446744073709551615 := by
  simpa [Lit.wf, IntKind.min, IntKind.max, IntKind.signed, IntKind.bits] using h

abbrev Ints (w : World) (v : Value) (l : List Int) : Prop := SliceOf w 1 IntR v l
abbrev Octets (w : World) (v : Value) (l : List UInt8) : Prop := SliceOf w 1 ByteR v l

theorem Ints.cells {w : World} {v : Value} {l : List Int} (h : Ints w v l) :
    ∃ ao c, v = .slice ao l.length c ∧ l.length ≤ c ∧ c ≤ maxLen ∧ Cells w ao l.length 1 (intsV l) ∧ ∀ z ∈ l, -9223372036854775808 ≤ z ∧ z ≤ 9223372036854775807 := by
  obtain ⟨ao, c, rfl, h1, h2, h3⟩ := h
  refine ⟨ao, c, rfl, h1, h2, ⟨by simp [intsV_length], fun hp => ?_⟩, fun z hz => ?_⟩
  · obtain ⟨ad, rfl, h4⟩ := h3 (by omega)
    refine ⟨ad, rfl, fun j u hu => ?_⟩
    have hj : j < l.length := by have := (List.getElem?_eq_some_iff.1 hu).1; rwa [intsV_length] at this
    obtain ⟨cs, _, ⟨rfl, _⟩, hc⟩ := h4 j hj
    have := hc 0 _ rfl
    rw [Nat.mul_one, Nat.add_zero] at this
    rw [this]
    simpa [intsV, hj] using hu
  · obtain ⟨j, hj, rfl⟩ := List.getElem_of_mem hz
    obtain ⟨ad, rfl, h4⟩ := h3 (by omega)
    obtain ⟨cs, _, ⟨_, h5⟩, _⟩ := h4 j hj
    exact h5

theorem Octets.cells {w : World} {v : Value} {l : List UInt8} (h : Octets w v l) :
    ∃ ao c, v = .slice ao l.length c ∧ l.length ≤ c ∧ c ≤ maxLen ∧ Cells w ao l.length 1 (bytesV l) := by
  obtain ⟨ao, c, rfl, h1, h2, h3⟩ := h
  refine ⟨ao, c, rfl, h1, h2, by simp [bytesV_length], fun hp => ?_⟩
  obtain ⟨ad, rfl, h4⟩ := h3 (by omega)
  refine ⟨ad, rfl, fun j u hu => ?_⟩
  have hj : j < l.length := by have := (List.getElem?_eq_some_iff.1 hu).1; rwa [bytesV_length] at this
  obtain ⟨cs, _, rfl, hc⟩ := h4 j hj
  have := hc 0 _ rfl
  rw [Nat.mul_one, Nat.add_zero] at this
  rw [this]
  simpa [bytesV, hj] using hu

theorem rd_ints {H : Type} {enc : TypeId × Value → H} {w : World} {base : Nat} {held : Bool} {fuel : Nat} {v : Value} {x : DataW H × List MemPlace}
    (h : DataW.trod enc Try.prog w base (fun _ => true) held fuel 22 [v] = some x) : ∃ l, Ints w v l :=
  rd_slice Try.underlying22 (by kernel_rfl) (fun _ _ _ h => let ⟨n, h1, h2⟩ := rd_int Try.underlying3 h; ⟨n, h1, wf_i64 h2⟩) h
theorem rd_octets {H : Type} {enc : TypeId × Value → H} {w : World} {base : Nat} {held : Bool} {fuel : Nat} {v : Value} {x : DataW H × List MemPlace}
    (h : DataW.trod enc Try.prog w base (fun _ => true) held fuel 36 [v] = some x) : ∃ l, Octets w v l :=
  rd_slice Try.underlying36 (by kernel_rfl) (fun _ _ _ h => let ⟨n, h1, h2⟩ := rd_int Try.underlying5 h; let ⟨u, hu⟩ := wf_u8 h2; ⟨u, by rw [h1, hu]; rfl⟩) h

theorem add_pos (a : Addr) (n : Nat) (h : 0 < n) : a.add n = { block := a.block, off := a.off + n } := by
  unfold Addr.add; rw [if_neg (by omega)]
/-- int(uint(a) % m). -/
theorem umod_int (a m : Int) (h0 : 0 < m) (h1 : m ≤ 9223372036854775807) : IntKind.i64.wrap ((IntKind.u64.wrap a).tmod m) = a % 18446744073709551616 % m := by
  have h2 : IntKind.u64.wrap a = a % 18446744073709551616 := by simp [IntKind.wrap, IntKind.signed, IntKind.bits]
  have h3 : 0 ≤ a % 18446744073709551616 := by omega
  rw [h2, Int.tmod_eq_emod_of_nonneg h3]
  have h4 := Int.emod_nonneg (a % 18446744073709551616) (show m ≠ 0 by omega)
  have h5 := Int.emod_lt_of_pos (a % 18446744073709551616) h0
  generalize a % 18446744073709551616 % m = x at h4 h5
  simp [IntKind.wrap, IntKind.signed, IntKind.bits]
  omega
end Go.Proofs.Yteemekckiafnfaa
/- What the laws of the log are given: lists of bytes, acts. Conditions: none. -/
namespace Go.Proofs.Yteemekckiafnfaa
open Go.ChangeShapes Go.WideShapes Go.RowKit Go.Deep

def OctR (w : World) (cs : List Value) (l : List UInt8) : Prop := ∃ v, cs = [v] ∧ Octets w v l
abbrev Texts (w : World) (v : Value) (L : List (List UInt8)) : Prop := SliceOf w 1 (OctR w) v L

theorem Texts.lists {w : World} {v : Value} {L : List (List UInt8)} (h : Texts w v L) : ∃ ao c, v = .slice ao L.length c ∧ L.length ≤ c ∧ c ≤ maxLen ∧ Lists w ao L := by
  obtain ⟨ao, c, rfl, h1, h2, h3⟩ := h
  refine ⟨ao, c, rfl, h1, h2, fun j hj => ?_⟩
  obtain ⟨ad, rfl, h4⟩ := h3 (by omega)
  obtain ⟨cs, _, ⟨v, rfl, h5⟩, hc⟩ := h4 j hj
  obtain ⟨ao', c', rfl, g1, g2, g3⟩ := h5.cells
  refine ⟨ad, ao', c', rfl, ?_, g1, g3⟩
  have := hc 0 _ rfl
  rwa [Nat.mul_one, Nat.add_zero] at this

theorem rd_texts {H : Type} {enc : TypeId × Value → H} {w : World} {base : Nat} {held : Bool} {fuel : Nat} {v : Value} {x : DataW H × List MemPlace}
    (h : DataW.trod enc Try.prog w base (fun _ => true) held fuel 38 [v] = some x) : ∃ l, Texts w v l :=
  rd_sliceL Try.underlying38 (by kernel_rfl) (fun n cs y hl h => by
    match cs, hl with
    | [c], _ =>
      obtain ⟨l, hl⟩ := rd_octets h
      exact ⟨l, c, rfl, hl⟩) h

/-- An act of the laws of the log. -/
structure Act4 where
  kind : Int
  n : Int
  fill : UInt8
  list : List (List UInt8)
  keep : List Int
deriving Inhabited

def ActR4 (w : World) (cs : List Value) (x : Act4) : Prop :=
  ∃ lv kv, cs = [.int .i64 x.kind, .int .i64 x.n, .int .u8 (x.fill.toNat : Int), lv, kv] ∧ Texts w lv x.list ∧ Ints w kv x.keep ∧ (-9223372036854775808 ≤ x.kind ∧ x.kind ≤ 9223372036854775807) ∧
    (-9223372036854775808 ≤ x.n ∧ x.n ≤ 9223372036854775807)

abbrev Acts4 (w : World) (v : Value) (l : List Act4) : Prop := SliceOf w 5 (ActR4 w) v l

set_option maxRecDepth 20000 in
theorem rd_act4 {H : Type} {enc : TypeId × Value → H} {w : World} {base : Nat} {held : Bool} {fuel : Nat} {cs : List Value} {x : DataW H × List MemPlace}
    (h : DataW.trod enc Try.prog w base (fun _ => true) held fuel 50 cs = some x) : ∃ y, ActR4 w cs y := by
  obtain ⟨y0, y1, y2, y3, y4, n, hl, h0, h1, h2, h3, h4⟩ := rd_fields5 Try.underlying50 h
  have c5 : Try.prog.cellsOf 50 = 5 := by kernel_rfl
  have ci : Try.prog.cellsOf 3 = 1 := by kernel_rfl
  have cb : Try.prog.cellsOf 5 = 1 := by kernel_rfl
  have cs1 : Try.prog.cellsOf 22 = 1 := by kernel_rfl
  have cs2 : Try.prog.cellsOf 38 = 1 := by kernel_rfl
  rw [c5] at hl
  match cs, hl with
  | [c0, c1, c2, c3, c4], _ =>
    simp only [ci, cb, cs1, cs2, List.drop_zero, List.drop_succ_cons, List.take_succ_cons, List.take_zero] at h0 h1 h2 h3 h4
    obtain ⟨a0, e0, w0⟩ := rd_int Try.underlying3 h0
    obtain ⟨a1, e1, w1⟩ := rd_int Try.underlying3 h1
    obtain ⟨a2, e2, w2⟩ := rd_int Try.underlying5 h2
    obtain ⟨L, h5⟩ := rd_texts h3
    obtain ⟨l, h6⟩ := rd_ints h4
    obtain ⟨u, rfl⟩ := wf_u8 w2
    simp only [List.cons.injEq, and_true] at e0 e1 e2
    subst e0 e1 e2
    exact ⟨⟨a0, a1, u, L, l⟩, c3, c4, rfl, h5, h6, wf_i64 w0, wf_i64 w1⟩

theorem rd_acts4 {H : Type} {enc : TypeId × Value → H} {w : World} {base : Nat} {held : Bool} {fuel : Nat} {v : Value} {x : DataW H × List MemPlace}
    (h : DataW.trod enc Try.prog w base (fun _ => true) held fuel 48 [v] = some x) : ∃ l, Acts4 w v l :=
  rd_slice Try.underlying48 (by kernel_rfl) (fun _ _ _ h => rd_act4 h) h

theorem cell_old {w w' : World} (hk : Keep (fun _ => False) w w') (a : Addr) (u : Value) (hu : w.cell? a = some u) : w'.cell? a = some u := by
  rw [World.cell?_of_block (hk.block _ (World.block_lt_of_cell? w _ hu) id)]
  exact hu

theorem Acts4.form {w : World} {v : Value} {l : List Act4} (h : Acts4 w v l) : ∃ ao c, v = .slice ao l.length c ∧ l.length ≤ c ∧ c ≤ maxLen := by
  obtain ⟨ao, c, h1, h2, h3, _⟩ := h
  exact ⟨ao, c, h1, h2, h3⟩
/-- One given element as the code reads it. -/
theorem Acts4.get {w w' : World} {ao : Option Addr} {m c : Nat} {l : List Act4} (h : Acts4 w (.slice ao m c) l) (hk : Keep (fun _ => False) w w') (i : Nat) (hi : i < l.length) :
    ∃ ad lv kv, ao = some ad ∧ w'.cell? (ad.add (i * 5)) = some (.int .i64 l[i].kind) ∧ w'.cell? { block := (ad.add (i * 5)).block, off := (ad.add (i * 5)).off + 1 } = some (.int .i64 l[i].n) ∧ w'.cell? { block := (ad.add (i * 5)).block, off := (ad.add (i * 5)).off + 2 } = some (.int .u8 (l[i].fill.toNat : Int)) ∧
      w'.cell? { block := (ad.add (i * 5)).block, off := (ad.add (i * 5)).off + 3 } = some lv ∧ w'.cell? { block := (ad.add (i * 5)).block, off := (ad.add (i * 5)).off + 4 } = some kv ∧ Texts w lv l[i].list ∧ Ints w kv l[i].keep ∧ (-9223372036854775808 ≤ l[i].kind ∧ l[i].kind ≤ 9223372036854775807) ∧
    (-9223372036854775808 ≤ l[i].n ∧ l[i].n ≤ 9223372036854775807) := by
  obtain ⟨ao', c', hv, _, _, h3⟩ := h
  cases hv
  obtain ⟨ad, rfl, h4⟩ := h3 (by omega)
  obtain ⟨cs, _, ⟨lv, kv, rfl, h5⟩, hc⟩ := h4 i hi
  refine ⟨ad, lv, kv, rfl, cell_old hk _ _ ?_, cell_old hk _ _ ?_, cell_old hk _ _ ?_, cell_old hk _ _ ?_, cell_old hk _ _ ?_, h5⟩
  · exact hc 0 _ rfl
  all_goals rw [← add_pos _ _ (by decide), add_add]
  · exact hc 1 _ rfl
  · exact hc 2 _ rfl
  · exact hc 3 _ rfl
  · exact hc 4 _ rfl
end Go.Proofs.Yteemekckiafnfaa
/- The law's own body, heavy. Conditions: as the contracts name them. -/
namespace Go.Proofs.Yteemekckiafnfaa
open Go.RowKit
open DM BM WM

def bodyL (n : Nat) (f : UInt8) : List UInt8 := (List.range n).map fun i => f + UInt8.ofNat (i % 5)
theorem bodyL_length (n : Nat) (f : UInt8) : (bodyL n f).length = n := by simp [bodyL]
theorem bodyL_succ (n : Nat) (f : UInt8) : bodyL (n + 1) f = bodyL n f ++ [f + UInt8.ofNat (n % 5)] := by simp [bodyL, List.range_succ]

set_option maxRecDepth 20000 in
theorem body_any (w : World) (n : Int) (f : UInt8) (hb : -9223372036854775808 ≤ n ∧ n ≤ 9223372036854775807) :
    Calls Try.prog 13 #[.int .i64 n, .int .u8 (f.toNat : Int)] w (PutU w (bodyL (min n.toNat 1030) f)) := by
  obtain ⟨m, hm⟩ : ∃ m, m = min n.toNat 1030 := ⟨_, rfl⟩
  rw [← hm]
  obtain ⟨fn, hfn⟩ : ∃ fn, fn = f.toNat := ⟨_, rfl⟩
  rw [← hfn]
  have HM := hid (And.intro hm (And.intro hb (And.intro hfn (UInt8.toNat_lt f))))
  clear hm hfn hb
  go_enter Try.func13, Try.ntmps13
  go_wp2_with (at_builtin; refine stopAt ?_; intro q hq)
  go_loopw [5, 6] (fun ov iv wr => ∃ i : Nat, iv = .int .i64 (i : Nat) ∧ Hid (i ≤ m ∧ Fresh w ov (bodyL i f) wr)) (fun _ iv _ => m - (intOf iv).toNat)
  case atStart => exact ⟨0, rfl, hid ⟨Nat.zero_le _, by first | exact Fresh.nil w | exact (Fresh.nil w).later (Keep.refl _ _).drew⟩⟩
  case round =>
    obtain ⟨i, rfl, HR⟩ := hrel
    by_cases him : i < m
    · have him2 := hid him
      obtain ⟨r, hr⟩ : ∃ r, r = i % 5 := ⟨_, rfl⟩
      have q1 : (i : Int) < n := by have := HM.out.1; omega
      have q2 : (i : Int) < 1030 := by have := HM.out.1; omega
      have e1 : (i : Int) % 5 = (r : Int) := by omega
      have e4 := wu8 r (by omega)
      obtain ⟨x, hx⟩ : ∃ x, x = (fn + r) % 256 := ⟨_, rfl⟩
      have e5 : IntKind.u8.wrap ((fn : Int) + (r : Int)) = (x : Int) := by simp [IntKind.wrap, IntKind.signed, IntKind.bits]; omega
      have HX := hid (And.intro hr (And.intro hx (show x < 256 by omega)))
      clear hr hx him
      go_wp2_with (at_builtin; refine stopAt ?_; intro q hq)
      (refine hq.out ?_; clear hq q)
      obtain ⟨hil, hf⟩ := HR.out
      have hg := heap_alloc_new wr (.cells #[.int .u8 (x : Int)] 5)
      obtain ⟨w2, hw2⟩ : ∃ w2, w2 = wr.alloc (.cells #[.int .u8 (x : Int)] 5) := ⟨_, rfl⟩
      have k2 : Keep (fun _ => False) wr w2 := by rw [hw2]; exact (Keep.refl _ _).alloc _
      rw [← hw2] at hg ⊢
      clear hw2
      refine wpList_plain rfl (fun K hK => ?_)
      refine wp_append_fresh (r := [UInt8.ofNat x]) _ _ rfl rfl (hf.later k2) _ 1 1 rfl (Cells.one HX.out.2.2 hg) (by rw [bodyL_length]; have := HM.out.1; omega) ?_
      intro v3 w3 hf3 _
      refine hK _ _ ?_
      clear hK K
      have hs : bodyL i f ++ [UInt8.ofNat x] = bodyL (i + 1) f := by
        rw [bodyL_succ, HX.out.2.1, HM.out.2.2.1, HX.out.1]
        congr 2
        apply UInt8.toNat_inj.1
        simp
      rw [hs] at hf3
      have HF3 := hid (show i + 1 ≤ m ∧ Fresh w v3 (bodyL (i + 1) f) w3 from ⟨by have := him2.out; omega, hf3⟩)
      clear hf3 hf k2 hg hil hs
      go_wp2_with (at_builtin; refine stopAt ?_; intro q hq)
      refine ⟨⟨i + 1, rfl, HF3⟩, ?_⟩
      have := him2.out
      simp [intOf]
      omega
    · obtain rfl : i = m := by have := HR.out.1; omega
      by_cases hin : (i : Int) < n
      · have q2 : decide ((i : Int) < 1030) = false := decide_eq_false (by have := HM.out.1; omega)
        have q3 : decide (i < 1030) = false := decide_eq_false (by have := HM.out.1; omega)
        go_wp2_with (at_builtin; refine stopAt ?_; intro q hq)
        go_ret
        exact ⟨_, rfl, HR.out.2⟩
      · have q2 : decide ((i : Int) < n) = false := decide_eq_false hin
        go_wp2_with (at_builtin; refine stopAt ?_; intro q hq)
        go_ret
        exact ⟨_, rfl, HR.out.2⟩

theorem min_any (w : World) (i c : Nat) (z : Int) (hz : z = (c : Int)) : (Builtin.min_ #[3, 3] 3 #[.int .i64 (i : Int), .int .i64 z]).run Try.prog w = .ok (.int .i64 ((min i c : Nat) : Int)) w := by
  subst hz
  rcases Nat.lt_or_ge c i with q | q
  · rw [Nat.min_eq_right (by omega)]
    simp [Builtin.min_, Builtin.min2]
    omega
  · rw [Nat.min_eq_left q]
    simp [Builtin.min_, Builtin.min2]
    omega

def hv : List (List UInt8) → Nat → Nat
  | [], n => n
  | x :: t, n => if n ≤ 4000 then hv t (n + (min x.length 4000 + 1)) else n

theorem hv_ge (L : List (List UInt8)) : ∀ n, n ≤ hv L n := by
  induction L with
  | nil => exact fun n => Nat.le_refl _
  | cons x t ih =>
    intro n
    unfold hv
    split
    · have := ih (n + (min x.length 4000 + 1)); omega
    · exact Nat.le_refl _
theorem hv_light (L : List (List UInt8)) : ∀ n, hv L n ≤ 4000 → n + (L.map (fun x => x.length + 1)).sum ≤ 4000 := by
  induction L with
  | nil => intro n h; simpa [hv] using h
  | cons x t ih =>
    intro n h
    unfold hv at h
    split at h
    · have h1 := ih _ h
      have h2 := hv_ge t (n + (min x.length 4000 + 1))
      simp only [List.map_cons, List.sum_cons]
      omega
    · omega

set_option maxRecDepth 20000 in
theorem heavy_any (w : World) (ao : Option Addr) (c : Nat) (L : List (List UInt8)) (h : Lists w ao L) :
    Calls Try.prog 16 #[.slice ao L.length c] w fun e w' => e = .returned (.bool (decide (4000 < hv L 0))) ∧ w' = w := by
  obtain ⟨n, hnl⟩ : ∃ n, n = L.length := ⟨_, rfl⟩
  have H := hid h
  have HN := hid hnl
  rw [← hnl]
  clear h hnl
  go_enter Try.func16, Try.ntmps16
  go_wp2_with (at_builtin; refine stopAt ?_; intro q hq)
  have H0 := hid (show hv (L.drop 0) 0 = hv L 0 by simp)
  go_loopw [3, 4] (fun nv iv wr => ∃ i t : Nat, iv = .int .i64 (i : Nat) ∧ nv = .int .i64 (t : Nat) ∧ wr = w ∧ Hid (i ≤ n ∧ i ≤ t ∧ t ≤ 8001 ∧ hv (L.drop i) t = hv L 0)) (fun _ iv _ => n - (intOf iv).toNat)
  case atStart => exact ⟨0, 0, rfl, rfl, rfl, hid ⟨Nat.zero_le _, Nat.le_refl _, by omega, H0.out⟩⟩
  case round =>
    clear H0
    obtain ⟨i, t, rfl, rfl, rfl, HR⟩ := hrel
    by_cases hin : i < n
    · have hil : i < L.length := by have := HN.out; omega
      have hd : L.drop i = L[i] :: L.drop (i + 1) := List.drop_eq_getElem_cons hil
      by_cases ht : t ≤ 4000
      · obtain ⟨ad, ao', c', rfl, hc, hc2, -⟩ := H.out i hil
        obtain ⟨x, hx⟩ : ∃ x, x = L[i] := ⟨_, rfl⟩
        rw [← hx] at hc hc2 hd
        obtain ⟨m, hm⟩ : ∃ m, m = x.length := ⟨_, rfl⟩
        rw [← hm] at hc
        obtain ⟨k, hk⟩ : ∃ k, k = min m 4000 := ⟨_, rfl⟩
        have hmin := min_any wr m 4000 4000 rfl
        rw [← hk] at hmin
        have q1 : (i : Int) < (n : Int) := by omega
        have q2 : (t : Int) ≤ 4000 := by omega
        have HZ := hid (show i + 1 ≤ n ∧ i + 1 ≤ t + (k + 1) ∧ t + (k + 1) ≤ 8001 ∧ hv (L.drop (i + 1)) (t + (k + 1)) = hv L 0 by
          have h1 := HR.out.2.2.2
          rw [hd, hv, if_pos ht, ← hm, ← hk] at h1
          refine ⟨by omega, by have := HR.out.2.1; omega, by omega, h1⟩)
        have hk4 : k ≤ 4000 := by omega
        have hi9 : i ≤ 8001 := by have := HR.out; omega
        clear hx hm hd hk
        go_wp2_with (at_builtin; refine stopAt ?_; intro q hq)
        go_roundw
        case rel => exact ⟨i + 1, t + (k + 1), by go_num, by go_num, trivial, HZ⟩
        case measure => simp [intOf]; omega
      · have q1 : (i : Int) < (n : Int) := by omega
        have q2 : decide ((t : Int) ≤ 4000) = false := decide_eq_false (by omega)
        have q3 : decide (t ≤ 4000) = false := decide_eq_false (by omega)
        have q4 : (4000 : Int) < (t : Int) := by omega
        have HZ := hid (show 4000 < hv L 0 by
          rw [← HR.out.2.2.2, hd, hv, if_neg ht]; omega)
        clear hd ht
        go_wp2_with (at_builtin; refine stopAt ?_; intro q hq)
        go_ret
        simp [HZ.out]
    · obtain rfl : i = n := by have := HR.out.1; omega
      have HZ := hid (show hv L 0 = t by
        rw [← HR.out.2.2.2, List.drop_eq_nil_of_le (by have := HN.out; omega)]; rfl)
      have q1 : decide ((i : Int) < (i : Int)) = false := decide_eq_false (by omega)
      by_cases ht : 4000 < t
      · have q4 : (4000 : Int) < (t : Int) := by omega
        go_wp2_with (at_builtin; refine stopAt ?_; intro q hq)
        go_ret
        rw [HZ.out]; simp [ht]
      · have q4 : decide ((4000 : Int) < (t : Int)) = false := decide_eq_false (by omega)
        have q5 : decide (4000 < t) = false := decide_eq_false (by omega)
        go_wp2_with (at_builtin; refine stopAt ?_; intro q hq)
        go_ret
        rw [HZ.out]; simp [ht]
end Go.Proofs.Yteemekckiafnfaa
/- The document's SameLists. Conditions: as the contracts name them. -/
namespace Go.Proofs.Yteemekckiafnfaa
open Go.RowKit
open DM BM WM

set_option maxRecDepth 20000 in
theorem samelists_any (w : World) (ao bo : Option Addr) (c d : Nat) (L M : List (List UInt8)) (h1 : Lists w ao L) (h2 : Lists w bo M) (hn : L.length ≤ 1000000000) :
    Calls Try.prog 20 #[.slice ao L.length c, .slice bo M.length d] w fun e w' => e = .returned (.bool (decide (L = M))) ∧ Keep (fun _ => False) w w' := by
  obtain ⟨n, hnl⟩ : ∃ n, n = L.length := ⟨_, rfl⟩
  obtain ⟨m, hml⟩ : ∃ m, m = M.length := ⟨_, rfl⟩
  have H := hid (And.intro h1 h2)
  have HN := hid (And.intro hnl hml)
  rw [← hnl, ← hml]
  rw [← hnl] at hn
  clear h1 h2 hnl hml
  go_enter Try.func20, Try.ntmps20
  by_cases hnm : n = m
  · subst hnm
    go_wp2_with (at_builtin; refine stopAt ?_; intro q hq)
    have k0 : ∀ wz, (wz = w ∨ wz = w.drew) → Keep (fun _ => False) w wz := fun wz hz => by rcases hz with rfl | rfl; exact Keep.refl _ _; exact (Keep.refl _ _).drew
    go_loopw [5] (fun iv wr => ∃ i : Nat, iv = .int .i64 (i : Nat) ∧ Hid (i ≤ n ∧ Keep (fun _ => False) w wr ∧ L.take i = M.take i)) (fun iv _ => n - (intOf iv).toNat)
    case atStart => exact ⟨0, rfl, hid ⟨Nat.zero_le _, k0 _ (by first | exact .inl rfl | exact .inr rfl), rfl⟩⟩
    case round =>
      clear k0
      obtain ⟨i, rfl, HR⟩ := hrel
      by_cases hin : i < n
      · have hil : i < L.length := by have := HN.out; omega
        have hiM : i < M.length := by have := HN.out; omega
        obtain ⟨ad, ao', c', rfl, hc, -, hcs⟩ := (H.out.1.keep HR.out.2.1) i hil
        obtain ⟨bd, bo', d', rfl, hd, -, hds⟩ := (H.out.2.keep HR.out.2.1) i hiM
        obtain ⟨x, hx⟩ : ∃ x, x = L[i] := ⟨_, rfl⟩
        obtain ⟨y, hy⟩ : ∃ y, y = M[i] := ⟨_, rfl⟩
        rw [← hx] at hc hcs
        rw [← hy] at hd hds
        obtain ⟨xl, hxl⟩ : ∃ xl, xl = x.length := ⟨_, rfl⟩
        obtain ⟨yl, hyl⟩ : ∃ yl, yl = y.length := ⟨_, rfl⟩
        rw [← hxl] at hc hcs
        rw [← hyl] at hd hds
        have hs1 := fun s : Later wr => run_str (P := Try.prog) Try.underlying36 Try.underlying5 Try.underlying9 (c := c') (hcs.keep s.keep fun _ _ z => z)
        have hs2 := fun s : Later wr => run_str (P := Try.prog) Try.underlying36 Try.underlying5 Try.underlying9 (c := d') (hds.keep s.keep fun _ _ z => z)
        have j0 := fun s : Later wr => s.cell hc
        have j1 := fun s : Later wr => s.cell hd
        have q1 : (i : Int) < (n : Int) := by omega
        have he : ((str x).toList == (str y).toList) = decide (x = y) := by
          rw [str_toList, str_toList, Bool.eq_iff_iff]
          simp
        have he2 : ((str x).toList != (str y).toList) = !decide (x = y) := by rw [bne, he]
        have HX := hid (And.intro hx hy)
        clear hx hy hxl hyl
        go_wp2_with (at_builtin; refine stopAt ?_; intro q hq)
        (refine wp_region_later (by kernel_rfl) (by kernel_rfl) ?_; (repeat (go_big_quiet_step ((fail)))); refine wpQuiet_nil ?_; rintro _ ⟨sq, rfl⟩)
        have hsk := sq.keep
        by_cases hxy : x = y
        · have q5 : decide (x = y) = true := decide_eq_true hxy
          have HZ := hid (show i + 1 ≤ n ∧ Keep (fun _ => False) w sq.val ∧ L.take (i + 1) = M.take (i + 1) from ⟨by omega, HR.out.2.1.next hsk (fun _ _ z => z) (fun _ _ z => z), by
            rw [List.take_succ_eq_append_getElem hil, List.take_succ_eq_append_getElem hiM, HR.out.2.2, ← HX.out.1, ← HX.out.2, hxy]⟩)
          rw [q5]
          clear hxy hsk q5 he he2
          go_wp2_with (at_builtin; refine stopAt ?_; intro q hq)
          refine ⟨⟨i + 1, by rfl, HZ⟩, ?_⟩
          simp [intOf]
          omega
        · have q5 : decide (x = y) = false := decide_eq_false hxy
          have HZ := hid (show decide (L = M) = false ∧ Keep (fun _ => False) w sq.val from ⟨decide_eq_false fun e => hxy (by rw [HX.out.1, HX.out.2]; simp only [e]), HR.out.2.1.next hsk (fun _ _ z => z) (fun _ _ z => z)⟩)
          rw [q5]
          clear hxy hsk q5 he he2
          go_wp2_with (at_builtin; refine stopAt ?_; intro q hq)
          go_ret
          exact ⟨by rw [HZ.out.1]; try rfl, HZ.out.2⟩
      · obtain rfl : i = n := by have := HR.out.1; omega
        have hh := hid (show decide (L = M) = true from decide_eq_true (by
          have h3 := HR.out.2.2
          rwa [List.take_of_length_le (by have := HN.out.1; omega), List.take_of_length_le (by have := HN.out.2; omega)] at h3))
        have q2 : decide ((i : Int) < (i : Int)) = false := decide_eq_false (by omega)
        go_wp2_with (at_builtin; refine stopAt ?_; intro q hq)
        go_ret
        exact ⟨by rw [hh.out]; try rfl, HR.out.2.1⟩
  · have q1 : ((n : Int) == (m : Int)) = false := by simp; omega
    have q2 : decide (n = m) = false := decide_eq_false hnm
    have q3 : ((n : Int) != (m : Int)) = true := by simp; omega
    have hne := hid (show decide (L = M) = false from decide_eq_false fun e => by subst e; exact hnm (HN.out.1.trans HN.out.2.symm))
    go_wp2_with (at_builtin; refine stopAt ?_; intro q hq)
    go_ret
    exact ⟨by rw [hne.out]; try rfl, by first | exact Keep.refl _ _ | exact (Keep.refl _ _).drew⟩
end Go.Proofs.Yteemekckiafnfaa
/- Two logs that stand side by side, each step of one of them. Conditions: as the contracts name them. -/
namespace Go.Proofs.Yteemekckiafnfaa
open Go.RowKit
open DM BM WM

/-- The pair at p, whose logs stand at b and c on the disks at d and m: the call made all of it. -/
structure Both (W w : World) (p d m b c : Nat) (Pw Pd Qw Qd : Nat → Prop) (D : Dk) (G : Lg) (E : Dk) (J : Lg) : Prop where
  head : w.heap[p]? = some (.cells #[.pointer (some ⟨d, 0, none⟩), .pointer (some ⟨b, 0, none⟩), .pointer (some ⟨m, 0, none⟩), .pointer (some ⟨c, 0, none⟩)] 32 (0, 0))
  one : LogAt w b d Pw Pd D G
  two : RLogAt w c m Qw Qd E J
  apart : ∀ k, (Pw k ∨ Pd k) → ¬ (Qw k ∨ Qd k)
  selfn : ¬ (Pw p ∨ Pd p) ∧ ¬ (Qw p ∨ Qd p)
  lt : ∀ k, (Pw k ∨ Pd k) ∨ (Qw k ∨ Qd k) → k < w.heap.size
  new : ∀ k, (Pw k ∨ Pd k) ∨ (Qw k ∨ Qd k) ∨ k = p → W.heap.size ≤ k
  keep : Keep (fun _ => False) W w

theorem LogAt.ltw {w : World} {b d : Nat} {F Fd : Nat → Prop} {D : Dk} {G : Lg} (h : LogAt w b d F Fd D G) : ∀ k, (F k ∨ Fd k) → k < w.heap.size := by
  obtain ⟨_, _, _, _, h⟩ := h
  exact fun k x => x.elim (h.wal.lt k) (h.disk.lt k)
theorem RLogAt.ltw {w : World} {b d : Nat} {F Fd : Nat → Prop} {D : Dk} {G : Lg} (h : RLogAt w b d F Fd D G) : ∀ k, (F k ∨ Fd k) → k < w.heap.size := by
  obtain ⟨_, _, h⟩ := h
  exact fun k x => x.elim (h.wal.lt k) (h.disk.lt k)
theorem LogAt.diskAt {w : World} {b d : Nat} {F Fd : Nat → Prop} {D : Dk} {G : Lg} (h : LogAt w b d F Fd D G) : DiskAt w d Fd D := by
  obtain ⟨_, _, _, _, h⟩ := h; exact h.disk
theorem RLogAt.diskAt {w : World} {b d : Nat} {F Fd : Nat → Prop} {D : Dk} {G : Lg} (h : RLogAt w b d F Fd D G) : RefAt w d Fd D := by
  obtain ⟨_, _, h⟩ := h; exact h.disk

theorem PairNew.both {W w : World} {p : Nat} {D : Dk} {G : Lg} (h : PairNew W w p D (some G)) : ∃ d m b c Pw Pd Qw Qd, Both W w p d m b c Pw Pd Qw Qd D G D G := by
  obtain ⟨d, m, Pw, Pd, Qw, Qd, wv, rv, hI, hn, hk⟩ := h
  obtain ⟨b, c, rfl, rfl, h1, h2⟩ := hI.logs
  exact ⟨d, m, b, c, Pw, Pd, Qw, Qd, hI.head, h1, h2, hI.apart, hI.selfn, fun k x => x.elim (h1.ltw k) (h2.ltw k), hn, hk⟩
theorem Both.pair {W w : World} {p d m b c : Nat} {Pw Pd Qw Qd : Nat → Prop} {D : Dk} {G : Lg} (h : Both W w p d m b c Pw Pd Qw Qd D G D G) : PairNew W w p D (some G) :=
  ⟨d, m, Pw, Pd, Qw, Qd, _, _, ⟨h.head, h.one.diskAt, h.two.diskAt, ⟨b, c, rfl, rfl, h.one, h.two⟩, h.apart, h.selfn, fun k x => x.elim (fun y => h.lt k (.inl (.inl y))) (fun y => h.lt k (.inr (.inl y)))⟩, h.new, h.keep⟩

theorem Both.step {W w w' : World} {p d m b c : Nat} {Pw Pd Qw Qd K : Nat → Prop} {D E : Dk} {G J : Lg} (h : Both W w p d m b c Pw Pd Qw Qd D G E J) (hk : Keep K w w') (hK : ∀ k, K k → ¬ (Pw k ∨ Pd k) ∧ ¬ (Qw k ∨ Qd k) ∧ k ≠ p ∧ W.heap.size ≤ k) :
    Both W w' p d m b c Pw Pd Qw Qd D G E J :=
  ⟨hk.get h.head (fun x => (hK p x).2.2.1 rfl), h.one.keep hk (fun k x y => (hK k y).1 (.inl x)) (fun k x y => (hK k y).1 (.inr x)), h.two.keep hk (fun k x y => (hK k y).2.1 (.inl x)) (fun k x y => (hK k y).2.1 (.inr x)), h.apart, h.selfn,
   fun k x => Nat.lt_of_lt_of_le (h.lt k x) hk.size, h.new, h.keep.next hk (fun _ _ x => x) (fun k hk' x => by have := (hK k x).2.2.2; omega)⟩
theorem Both.later {W w w' : World} {p d m b c : Nat} {Pw Pd Qw Qd : Nat → Prop} {D E : Dk} {G J : Lg} (h : Both W w p d m b c Pw Pd Qw Qd D G E J) (hk : Keep (fun _ => False) w w') : Both W w' p d m b c Pw Pd Qw Qd D G E J :=
  h.step hk (fun _ x => x.elim)

theorem Both.toW {W w w' : World} {p d m b c : Nat} {Pw Pd Qw Qd : Nat → Prop} {D E D' : Dk} {G J G' : Lg} (h : Both W w p d m b c Pw Pd Qw Qd D G E J) (ht : LogTo b d Pw Pd w D' G' w') :
    ∃ Pw' Pd', Both W w' p d m b c Pw' Pd' Qw Qd D' G' E J ∧ ∀ k, Pw' k ∨ Pd' k → (Pw k ∨ Pd k) ∨ w.heap.size ≤ k := by
  obtain ⟨Pw', Pd', h1, h2, h3, h4⟩ := ht
  have hs : ∀ k, Pw' k ∨ Pd' k → (Pw k ∨ Pd k) ∨ w.heap.size ≤ k := fun k x => x.elim (fun y => (h3 k y).imp .inl id) (fun y => (h4 k y).imp .inr id)
  have hp := heap_lt h.head
  have s0 := h.keep.size
  refine ⟨Pw', Pd', ⟨h2.get h.head h.selfn.1, h1, h.two.keep h2 (fun k x y => h.apart k y (.inl x)) (fun k x y => h.apart k y (.inr x)), fun k x y => ?_, ⟨fun x => ?_, h.selfn.2⟩, fun k x => ?_, fun k x => ?_, h.keep.next h2 (fun _ _ x => x) (fun k hk x => by have := h.new k (.inl x); omega)⟩, hs⟩
  · rcases hs k x with z | z
    · exact h.apart k z y
    · have := h.lt k (.inr y); omega
  · rcases hs p x with z | z
    · exact h.selfn.1 z
    · omega
  · rcases x with x | x
    · exact h1.ltw k x
    · exact Nat.lt_of_lt_of_le (h.lt k (.inr x)) h2.size
  · rcases x with x | x
    · rcases hs k x with z | z
      · exact h.new k (.inl z)
      · omega
    · exact h.new k (.inr x)
theorem Both.toR {W w w' : World} {p d m b c : Nat} {Pw Pd Qw Qd : Nat → Prop} {D E E' : Dk} {G J J' : Lg} (h : Both W w p d m b c Pw Pd Qw Qd D G E J) (ht : RLogTo c m Qw Qd w E' J' w') :
    ∃ Qw' Qd', Both W w' p d m b c Pw Pd Qw' Qd' D G E' J' ∧ ∀ k, Qw' k ∨ Qd' k → (Qw k ∨ Qd k) ∨ w.heap.size ≤ k := by
  obtain ⟨Qw', Qd', h1, h2, h3, h4⟩ := ht
  have hs : ∀ k, Qw' k ∨ Qd' k → (Qw k ∨ Qd k) ∨ w.heap.size ≤ k := fun k x => x.elim (fun y => (h3 k y).imp .inl id) (fun y => (h4 k y).imp .inr id)
  have hp := heap_lt h.head
  have s0 := h.keep.size
  refine ⟨Qw', Qd', ⟨h2.get h.head h.selfn.2, h.one.keep h2 (fun k x y => h.apart k (.inl x) y) (fun k x y => h.apart k (.inr x) y), h1, fun k x y => ?_, ⟨h.selfn.1, fun x => ?_⟩, fun k x => ?_, fun k x => ?_, h.keep.next h2 (fun _ _ x => x) (fun k hk x => by have := h.new k (.inr (.inl x)); omega)⟩, hs⟩
  · rcases hs k y with z | z
    · exact h.apart k x z
    · have := h.lt k (.inl x); omega
  · rcases hs p x with z | z
    · exact h.selfn.2 z
    · omega
  · rcases x with x | x
    · exact Nat.lt_of_lt_of_le (h.lt k (.inl x)) h2.size
    · exact h1.ltw k x
  · rcases x with x | x | x
    · exact h.new k (.inl x)
    · rcases hs k x with z | z
      · exact h.new k (.inr (.inl z))
      · omega
    · exact h.new k (.inr (.inr x))
end Go.Proofs.Yteemekckiafnfaa
/- The pair's play: the power goes. Conditions: as the contracts name them. -/
namespace Go.Proofs.Yteemekckiafnfaa
open Go.RowKit
open DM BM WM

theorem Cells.lt {w : World} {x : Addr} {n size : Nat} {xs : List Value} (h : Cells w (some x) n size xs) (hp : 0 < n * size) : x.block < w.heap.size := by
  obtain ⟨ad, had, hc⟩ := h.2 hp
  cases had
  have hl : 0 < xs.length := by rw [h.1]; exact hp
  have := World.block_lt_of_cell? w _ (hc 0 _ (List.getElem?_eq_getElem hl))
  rwa [show (x.add 0) = x by simp [Addr.add]] at this

theorem cells5 {w : World} {b : Nat} {T : TypeId} {a0 a1 a2 a3 a4 : Value} (H : w.heap[b]? = some (.cells #[a0, a1, a2, a3, a4] T (0, 0))) :
    w.cell? ⟨b, 0, none⟩ = some a0 ∧ w.cell? ⟨b, 1, none⟩ = some a1 ∧ w.cell? ⟨b, 2, none⟩ = some a2 ∧ w.cell? ⟨b, 3, none⟩ = some a3 ∧ w.cell? ⟨b, 4, none⟩ = some a4 := by
  refine ⟨?_, ?_, ?_, ?_, ?_⟩ <;> simp [World.cell?, H]

abbrev actV (x : Act4) (lv kv : Value) : Value := .agg #[.int .i64 x.kind, .int .i64 x.n, .int .u8 (x.fill.toNat : Int), lv, kv]

set_option maxRecDepth 20000 in
set_option maxHeartbeats 1000000 in
theorem play_crash (W w : World) (p : Nat) (D : Dk) (g : Option Lg) (n : Int) (fv : Int) (lv kv : Value) (keep : List Int) (h : PairNew W w p D g) (hkv : Ints W kv keep) (hfew : D.waits.length ≤ 700000) :
    Calls Try.prog 24 #[.pointer (some ⟨p, 0, none⟩), .agg #[.int .i64 4, .int .i64 n, .int .u8 fv, lv, kv]] w fun e w' => e = .returned (.bool true) ∧ PairNew W w' p (openW (DM.crash D keep)).2.2 (openW (DM.crash D keep)).2.1 := by
  obtain ⟨aok, ck, rfl, hkc, hkm, hck, hwk⟩ := hkv.cells
  have hk1 : Keep (fun _ => False) w (w.alloc (.cells #[.int .i64 4, .int .i64 n, .int .u8 fv, lv, .slice aok keep.length ck] 50)) := (Keep.refl _ _).alloc _
  have hg1 := heap_alloc_new w (.cells #[.int .i64 4, .int .i64 n, .int .u8 fv, lv, .slice aok keep.length ck] 50)
  obtain ⟨d, m, Pw, Pd, Qw, Qd, wv, rv, hI0, hnew, hkW0⟩ := h
  have hkW := hkW0.next hk1 (fun _ _ x => x) (fun _ _ x => x)
  have hI := hI0.keep hk1 (fun _ _ x => x)
  have hfar : ∀ k, Pd k ∨ Qd k → k < w.heap.size := fun k x => x.elim (hI0.disk.lt k) (hI0.ref.lt k)
  have hpw := heap_lt hI0.head
  have Hx := hid (And.intro hg1 (And.intro hI (And.intro hkW (And.intro hnew (And.intro hfar hpw)))))
  have HK := hid (And.intro hck (And.intro hwk (And.intro hkm hfew)))
  clear hg1 hk1 hkv hck hwk hkm hfew hI0 hkW0 hkW hI hnew hfar hpw
  go_enter Try.func24, Try.ntmps24
  go_wp2_with (at_builtin; refine stopAt ?_; intro q hq)
  obtain ⟨hg1, hI, hkW, hnew, hfar, hpw⟩ := Hx.out
  obtain ⟨w1, hw1⟩ : ∃ w1, w1 = w.alloc (.cells #[.int .i64 4, .int .i64 n, .int .u8 fv, lv, .slice aok keep.length ck] 50) := ⟨_, rfl⟩
  rw [← hw1] at hg1 hI hkW ⊢
  clear hw1 Hx
  obtain ⟨h0, h1, h2, h3, hf, hb⟩ := cells4 hI.head
  obtain ⟨i0, i1, i2, i3, i4⟩ := cells5 hg1
  have HI := hid (And.intro hI (And.intro hnew (And.intro hkW (And.intro hg1 (And.intro hfar hpw)))))
  clear hI hnew hkW hg1 hfar hpw
  go_wp2_with (at_builtin; refine stopAt ?_; intro q hq)
  have j0 := fun s : Later w1 => s.cell h0
  have j4 := fun s : Later w1 => s.cell i4
  (refine wp_region_tail 6 (by kernel_rfl) (by kernel_rfl) ?_; simp only [List.take_succ_cons, List.take_zero, List.drop_succ_cons, List.drop_zero]; (repeat (go_big_quiet_step ((fail)))); refine wpQuiet_nil ?_; rintro _ ⟨sq, rfl⟩)
  have hkeep := sq.keep
  obtain ⟨w2, hw2⟩ : ∃ w2, w2 = sq.val := ⟨_, rfl⟩
  rw [← hw2] at hkeep ⊢
  clear hw2 sq j0 j4 h0 h1 h2 h3 hf i0 i1 i2 i3 i4
  obtain ⟨hI, hnew, hkW, hg1, hfar, hpw⟩ := HI.out
  have hck := HK.out.1
  have hpt : 0 < keep.length → ∀ x, aok = some x → x.block < W.heap.size := fun hp x hx => by subst hx; exact hck.lt (by omega)
  have hcr := crash_any w2 d Pd D aok keep.length ck keep (hI.disk.keep hkeep fun _ _ x => x) (hck.keep (hkW.next hkeep (fun _ _ x => x) (fun _ _ x => x)) fun _ _ x => x) (fun hp x hx hF => by have := hpt hp x hx; have := hnew _ (.inl (.inr hF)); omega) (by have := HK.out.2.2.1; unfold maxLen at this; omega) HK.out.2.1 (by have := HK.out.2.2.2; omega)
  have hrf := hI.ref.keep hkeep fun _ _ x => x
  have HK2 := hid hkeep
  clear hI hnew hkW hg1 hck hpt hfar hpw hkeep hrf
  go_wp2_with (at_builtin; refine stopAt ?_; intro q hq)
  refine hcr.mono ?_
  rintro e w3 ⟨rfl, ht3⟩
  obtain ⟨hI, hnew, hkW, hg1, hfar, hpw⟩ := HI.out
  obtain ⟨Pd1, a1, a2, a3⟩ := ht3
  have hh3 := a2.get (HK2.out.get hI.head id) (fun x => hI.selfn.1 (.inr x))
  have hg3 := a2.get (HK2.out.get hg1 id) (fun x => by have := hfar _ (.inl x); omega)
  obtain ⟨h0, h1, h2, h3, hf, hb3⟩ := cells4 hh3
  obtain ⟨i0, i1, i2, i3, i4⟩ := cells5 hg3
  have HA := hid (And.intro a1 (And.intro a2 (And.intro a3 (And.intro hh3 hg3))))
  clear a1 a2 a3 hI hnew hkW hg1 hfar hpw hh3 hg3
  go_wp2_with (at_builtin; refine stopAt ?_; intro q hq)
  have j2 := fun s : Later w3 => s.cell h2
  have j4 := fun s : Later w3 => s.cell i4
  (refine wp_region_tail 6 (by kernel_rfl) (by kernel_rfl) ?_; simp only [List.take_succ_cons, List.take_zero, List.drop_succ_cons, List.drop_zero]; (repeat (go_big_quiet_step ((fail)))); refine wpQuiet_nil ?_; rintro _ ⟨sq, rfl⟩)
  have hkeep := sq.keep
  obtain ⟨w4, hw4⟩ : ∃ w4, w4 = sq.val := ⟨_, rfl⟩
  rw [← hw4] at hkeep ⊢
  clear hw4 sq j2 j4 h0 h1 h2 h3 hf i0 i1 i2 i3 i4
  obtain ⟨hI, hnew, hkW, hg1, hfar, hpw⟩ := HI.out
  obtain ⟨a1, a2, a3, hh3, hg3⟩ := HA.out
  have hck := HK.out.1
  have hpt : 0 < keep.length → ∀ x, aok = some x → x.block < W.heap.size := fun hp x hx => by subst hx; exact Cells.lt hck (by omega)
  have s1 := HK2.out.size
  have hQP : ∀ k, Qd k → ¬ Pd1 k := fun k x y => (a3 k y).elim (fun z => hI.apart k (.inr z) (.inr x)) fun z => by have := hI.ref.lt k x; omega
  have hkW4 := ((hkW.next HK2.out (H := fun _ => False) (fun _ _ x => x) (fun _ _ x => x)).next a2 (H := fun _ => False) (fun _ _ x => x) (fun k hk x => by have := hnew k (.inl (.inr x)); omega)).next hkeep (H := fun _ => False) (fun _ _ x => x) (fun _ _ x => x)
  have hrf : RefAt w4 m Qd D := ((hI.ref.keep HK2.out fun _ _ x => x).keep a2 (fun k x y => hI.apart k (.inr y) (.inr x))).keep hkeep fun _ _ x => x
  have hcr := ref_crash w4 m Qd D aok keep.length ck keep hrf (hck.keep hkW4 fun _ _ x => x) (fun hp x hx hF => by have := hpt hp x hx; have := hnew _ (.inr (.inl (.inr hF))); omega) (by have := HK.out.2.2.1; unfold maxLen at this; omega) HK.out.2.1 (by have := HK.out.2.2.2; omega)
  have HB := hid (And.intro hQP (And.intro hkW4 (And.intro hkeep hrf)))
  clear hI hnew hkW hg1 hck hpt hfar hpw hkeep hrf a1 a2 a3 hh3 hg3 hQP hkW4
  go_wp2_with (at_builtin; refine stopAt ?_; intro q hq)
  refine hcr.mono ?_
  rintro e w5 ⟨rfl, ht5⟩
  obtain ⟨hI, hnew, hkW, hg1, hfar, hpw⟩ := HI.out
  obtain ⟨a1, a2, a3, hh3, hg3⟩ := HA.out
  obtain ⟨hQP, hkW4, hk4, hrf⟩ := HB.out
  obtain ⟨Qd1, c1, c2, c3⟩ := ht5
  have hh5 := c2.get (hk4.get hh3 id) (fun x => hI.selfn.2 (.inr x))
  have s1 := HK2.out.size
  have s4 := hk4.size
  have s3 := a2.size
  have hold : PairOld W w5 p (DM.crash D keep) := by
    refine ⟨d, m, fun _ => False, Pd1, fun _ => False, Qd1, wv, rv, ⟨hh5, (a1.keep hk4 fun _ _ x => x).keep c2 (fun k x y => hQP k y x), c1, fun k x y => ?_, ⟨fun x => ?_, fun x => ?_⟩⟩, fun k x => ?_, hkW4.next c2 (fun _ _ x => x) (fun k hk x => by have := hnew k (.inr (.inl (.inr x))); omega)⟩
    · rcases x with x | x
      · exact x
      · rcases y with y | y
        · exact y
        · rcases c3 k y with z | z
          · exact hQP k z x
          · have := a1.lt k x; omega
    · rcases x with x | x
      · exact x
      · rcases a3 p x with z | z
        · exact hI.selfn.1 (.inr z)
        · have := heap_lt hI.head; omega
    · rcases x with x | x
      · exact x
      · rcases c3 p x with z | z
        · exact hI.selfn.2 (.inr z)
        · have := heap_lt hh3; omega
    · have s0 := hkW.size
      have s5 := hkW4.size
      rcases x with (x | x) | (x | x) | x
      · exact x.elim
      · rcases a3 k x with z | z
        · exact hnew k (.inl (.inr z))
        · omega
      · exact x.elim
      · rcases c3 k x with z | z
        · exact hnew k (.inr (.inl (.inr z)))
        · omega
      · exact hnew k (.inr (.inr x))
  have hop := popen_any W w5 p _ hold (by simp [DM.crash])
  obtain ⟨h0, h1, h2, h3, hf, hb5⟩ := cells4 hh5
  clear hI hnew hkW hg1 hfar hpw a1 a2 a3 hh3 hg3 hQP hkW4 hk4 hrf c1 c2 c3 hh5 hold s1 s4 s3
  go_wp2_with (at_builtin; refine stopAt ?_; intro q hq)
  refine hop.mono ?_
  rintro e w6 ⟨rfl, hN⟩
  have HN := hid hN
  clear hN
  go_wp2_with (at_builtin; refine stopAt ?_; intro q hq)
  go_ret
  exact ⟨by trivial, HN.out⟩
end Go.Proofs.Yteemekckiafnfaa
/- The pair's play: where no log is there. Conditions: as the contracts name them. -/
namespace Go.Proofs.Yteemekckiafnfaa
open Go.RowKit
open DM BM WM

set_option maxRecDepth 20000 in
set_option maxHeartbeats 1000000 in
theorem play_none (W w : World) (p : Nat) (D : Dk) (z n : Int) (fv : Int) (lv kv : Value) (h : PairNew W w p D none) (hz : z ≠ 4 ∧ z ≠ 5) :
    Calls Try.prog 24 #[.pointer (some ⟨p, 0, none⟩), .agg #[.int .i64 z, .int .i64 n, .int .u8 fv, lv, kv]] w fun e w' => e = .returned (.bool true) ∧ PairNew W w' p D none := by
  have hk1 : Keep (fun _ => False) w (w.alloc (.cells #[.int .i64 z, .int .i64 n, .int .u8 fv, lv, kv] 50)) := (Keep.refl _ _).alloc _
  have hg1 := heap_alloc_new w (.cells #[.int .i64 z, .int .i64 n, .int .u8 fv, lv, kv] 50)
  have P1 := h.later hk1
  have HP := hid P1
  obtain ⟨d, m, Pw, Pd, Qw, Qd, wv, rv, hI, -, -⟩ := P1
  obtain ⟨rfl, rfl⟩ := hI.logs
  obtain ⟨h0, h1, h2, h3, hf, hb⟩ := cells4 hI.head
  obtain ⟨i0, i1, i2, i3, i4⟩ := cells5 hg1
  clear hI hg1 hk1 h
  have q1 : decide (z = 4) = false := decide_eq_false hz.1
  have q2 : decide (z = 5) = false := decide_eq_false hz.2
  have q3 : (z == 4) = false := by simp [hz.1]
  have q4 : (z == 5) = false := by simp [hz.2]
  clear hz
  go_enter Try.func24, Try.ntmps24
  go_wp2_with (at_builtin; refine stopAt ?_; intro q hq)
  go_ret
  exact ⟨by trivial, HP.out⟩
end Go.Proofs.Yteemekckiafnfaa
/- The pair's play: acts of no effect on both. Conditions: as the contracts name them. -/
namespace Go.Proofs.Yteemekckiafnfaa
open Go.RowKit
open DM BM WM

set_option maxRecDepth 20000 in
set_option maxHeartbeats 1000000 in
theorem play_idle (W w : World) (p : Nat) (D : Dk) (G : Lg) (z n : Int) (fv : Int) (lv kv : Value) (h : PairNew W w p D (some G)) (hz : ¬ (0 ≤ z ∧ z ≤ 5)) :
    Calls Try.prog 24 #[.pointer (some ⟨p, 0, none⟩), .agg #[.int .i64 z, .int .i64 n, .int .u8 fv, lv, kv]] w fun e w' => e = .returned (.bool true) ∧ PairNew W w' p D (some G) := by
  have hk1 : Keep (fun _ => False) w (w.alloc (.cells #[.int .i64 z, .int .i64 n, .int .u8 fv, lv, kv] 50)) := (Keep.refl _ _).alloc _
  have hg1 := heap_alloc_new w (.cells #[.int .i64 z, .int .i64 n, .int .u8 fv, lv, kv] 50)
  have P1 := h.later hk1
  have HP := hid P1
  obtain ⟨d, m, Pw, Pd, Qw, Qd, wv, rv, hI, -, -⟩ := P1
  obtain ⟨b, c, rfl, rfl, -, -⟩ := hI.logs
  obtain ⟨h0, h1, h2, h3, hf, hb⟩ := cells4 hI.head
  obtain ⟨i0, i1, i2, i3, i4⟩ := cells5 hg1
  clear hI hg1 hk1 h
  have q0 : decide (z = 0) = false := decide_eq_false (by omega)
  have q1 : decide (z = 1) = false := decide_eq_false (by omega)
  have q2 : decide (z = 2) = false := decide_eq_false (by omega)
  have q3 : decide (z = 3) = false := decide_eq_false (by omega)
  have q4 : decide (z = 4) = false := decide_eq_false (by omega)
  have q5 : decide (z = 5) = false := decide_eq_false (by omega)
  have r0 : (z == 0) = false := by simp; omega
  have r1 : (z == 1) = false := by simp; omega
  have r2 : (z == 2) = false := by simp; omega
  have r3 : (z == 3) = false := by simp; omega
  have r4 : (z == 4) = false := by simp; omega
  have r5 : (z == 5) = false := by simp; omega
  clear hz
  go_enter Try.func24, Try.ntmps24
  go_wp2_with (at_builtin; refine stopAt ?_; intro q hq)
  go_ret
  exact ⟨by trivial, HP.out⟩
end Go.Proofs.Yteemekckiafnfaa
/- The pair's play: Sync. Conditions: as the contracts name them. -/
namespace Go.Proofs.Yteemekckiafnfaa
open Go.RowKit
open DM BM WM

set_option maxRecDepth 20000 in
set_option maxHeartbeats 1000000 in
theorem play_sync (W w : World) (p : Nat) (D : Dk) (G : Lg) (n : Int) (fv : Int) (lv kv : Value) (h : PairNew W w p D (some G)) (hfew : D.waits.length ≤ 700000) :
    Calls Try.prog 24 #[.pointer (some ⟨p, 0, none⟩), .agg #[.int .i64 2, .int .i64 n, .int .u8 fv, lv, kv]] w fun e w' => e = .returned (.bool true) ∧ PairNew W w' p (WM.syncW D G).2.1 (some (WM.syncW D G).2.2) := by
  have hk1 : Keep (fun _ => False) w (w.alloc (.cells #[.int .i64 2, .int .i64 n, .int .u8 fv, lv, kv] 50)) := (Keep.refl _ _).alloc _
  have hg1 := heap_alloc_new w (.cells #[.int .i64 2, .int .i64 n, .int .u8 fv, lv, kv] 50)
  obtain ⟨d, m, b, c, Pw, Pd, Qw, Qd, hB0⟩ := h.both
  have hB := hB0.later hk1
  obtain ⟨w1, hw1⟩ : ∃ w1, w1 = w.alloc (.cells #[.int .i64 2, .int .i64 n, .int .u8 fv, lv, kv] 50) := ⟨_, rfl⟩
  have hws := wsync_any w1 b d Pw Pd D G (by rw [hw1]; exact hB.one) (by omega)
  obtain ⟨h0, h1, h2, h3, hf, hb⟩ := cells4 hB.head
  obtain ⟨i0, i1, i2, i3, i4⟩ := cells5 hg1
  obtain ⟨R, hR⟩ : ∃ R, R = WM.syncW D G := ⟨_, rfl⟩
  rw [← hR] at hws ⊢
  rw [hw1] at hws
  have HX := hid (And.intro hB (And.intro hR hfew))
  clear hB hB0 hg1 hk1 h hR hfew hw1 w1
  go_enter Try.func24, Try.ntmps24
  go_wp2_with (at_builtin; refine stopAt ?_; intro q hq)
  refine hws.mono ?_
  rintro e w2 ⟨rfl, ht⟩
  obtain ⟨hB, hR, hfew⟩ := HX.out
  obtain ⟨Pw1, Pd1, hB2, -⟩ := hB.toW ht
  have hrs := rwsync_any w2 c m Qw Qd D G hB2.two (by omega)
  rw [← hR] at hrs
  clear h0 h1 h2 h3 hf i0 i1 i2 i3 i4
  obtain ⟨h0, h1, h2, h3, hf, hb2⟩ := cells4 hB2.head
  have HY := hid hB2
  clear hB hR hfew ht hB2
  go_wp2_with (at_builtin; refine stopAt ?_; intro q hq)
  refine hrs.mono ?_
  rintro e w3 ⟨rfl, ht⟩
  obtain ⟨Qw1, Qd1, hB3, -⟩ := HY.out.toR ht
  have HZ := hid hB3.pair
  clear ht hB3
  go_wp2_with (at_builtin; refine stopAt ?_; intro q hq)
  go_ret
  exact ⟨by simp, HZ.out⟩
end Go.Proofs.Yteemekckiafnfaa
/- The pair's play: Reset. Conditions: as the contracts name them. -/
namespace Go.Proofs.Yteemekckiafnfaa
open Go.RowKit
open DM BM WM

set_option maxRecDepth 20000 in
set_option maxHeartbeats 1000000 in
theorem play_reset (W w : World) (p : Nat) (D : Dk) (G : Lg) (n : Int) (fv : Int) (kv : Value) (L : List (List UInt8)) (ao : Option Addr) (cl : Nat) (hL : Lists W ao L) (hn : L.length ≤ 1000000000) (h : PairNew W w p D (some G)) (hfew : D.waits.length ≤ 700000) :
    Calls Try.prog 24 #[.pointer (some ⟨p, 0, none⟩), .agg #[.int .i64 3, .int .i64 n, .int .u8 fv, .slice ao L.length cl, kv]] w fun e w' => e = .returned (.bool true) ∧ PairNew W w' p (WM.reset D G L).2.1 (some (WM.reset D G L).2.2) := by
  have hk1 : Keep (fun _ => False) w (w.alloc (.cells #[.int .i64 3, .int .i64 n, .int .u8 fv, .slice ao L.length cl, kv] 50)) := (Keep.refl _ _).alloc _
  have hg1 := heap_alloc_new w (.cells #[.int .i64 3, .int .i64 n, .int .u8 fv, .slice ao L.length cl, kv] 50)
  obtain ⟨d, m, b, c, Pw, Pd, Qw, Qd, hB0⟩ := h.both
  have hB := hB0.later hk1
  obtain ⟨h0, h1, h2, h3, hf, hb⟩ := cells4 hB.head
  obtain ⟨i0, i1, i2, i3, i4⟩ := cells5 hg1
  obtain ⟨R, hR⟩ : ∃ R, R = WM.reset D G L := ⟨_, rfl⟩
  rw [← hR]
  have hfar : ¬ (Pw w.heap.size ∨ Pd w.heap.size) := fun x => by have := hB0.lt _ (.inl x); omega
  have HX := hid (And.intro hB (And.intro hR (And.intro hfew (And.intro hL (And.intro hn (And.intro hg1 hfar))))))
  clear hB hB0 hg1 hk1 h hR hfew hL hn hfar
  go_enter Try.func24, Try.ntmps24
  go_wp2_with (at_builtin; refine stopAt ?_; intro q hq)
  obtain ⟨w1, hw1⟩ : ∃ w1, w1 = w.alloc (.cells #[.int .i64 3, .int .i64 n, .int .u8 fv, .slice ao L.length cl, kv] 50) := ⟨_, rfl⟩
  rw [← hw1] at h0 h1 h2 h3 hf i0 i1 i2 i3 i4 HX ⊢
  have j0 := fun s : Later w1 => s.cell h1
  have j4 := fun s : Later w1 => s.cell i3
  (refine wp_region_tail 6 (by kernel_rfl) (by kernel_rfl) ?_; simp only [List.take_succ_cons, List.take_zero, List.drop_succ_cons, List.drop_zero]; (repeat (go_big_quiet_step ((fail)))); refine wpQuiet_nil ?_; rintro _ ⟨sq, rfl⟩)
  have hkeep := sq.keep
  obtain ⟨w2, hw2⟩ : ∃ w2, w2 = sq.val := ⟨_, rfl⟩
  rw [← hw2] at hkeep ⊢
  clear hw2 sq j0 j4 h0 h1 h2 h3 hf i0 i1 i2 i3 i4
  obtain ⟨hB, hR, hfew, hL, hn, hg1, hfar⟩ := HX.out
  have hB2 := hB.later hkeep
  have hws := wreset_any w2 b d Pw Pd D G hB2.one ao cl L (hL.keep hB2.keep) hn (by omega)
  rw [← hR] at hws
  have HY := hid (And.intro hB2 hkeep)
  clear hB hR hfew hL hn hg1 hfar hB2 hkeep
  go_wp2_with (at_builtin; refine stopAt ?_; intro q hq)
  refine hws.mono ?_
  rintro e w3 ⟨rfl, ht⟩
  obtain ⟨hB, hR, hfew, hL, hn, hg1, hfar⟩ := HX.out
  obtain ⟨Pw1, Pd1, hB3, -⟩ := HY.out.1.toW ht
  obtain ⟨-, -, -, hk3, -⟩ := ht
  have hg3 := hk3.get (HY.out.2.get hg1 id) hfar
  obtain ⟨h0, h1, h2, h3, hf, hb3⟩ := cells4 hB3.head
  obtain ⟨i0, i1, i2, i3, i4⟩ := cells5 hg3
  have HZ := hid hB3
  clear hB hR hfew hL hn hg1 hfar hB3 hk3 hg3
  go_wp2_with (at_builtin; refine stopAt ?_; intro q hq)
  have j0 := fun s : Later w3 => s.cell h3
  have j4 := fun s : Later w3 => s.cell i3
  (refine wp_region_tail 6 (by kernel_rfl) (by kernel_rfl) ?_; simp only [List.take_succ_cons, List.take_zero, List.drop_succ_cons, List.drop_zero]; (repeat (go_big_quiet_step ((fail)))); refine wpQuiet_nil ?_; rintro _ ⟨sq, rfl⟩)
  have hkeep := sq.keep
  obtain ⟨w4, hw4⟩ : ∃ w4, w4 = sq.val := ⟨_, rfl⟩
  rw [← hw4] at hkeep ⊢
  clear hw4 sq j0 j4 h0 h1 h2 h3 hf i0 i1 i2 i3 i4
  obtain ⟨hB, hR, hfew, hL, hn, hg1, hfar⟩ := HX.out
  have hB4 := HZ.out.later hkeep
  have hrs := rwreset_any w4 c m Qw Qd D G hB4.two ao cl L (hL.keep hB4.keep) (fun w' hk => hL.keep (hB4.keep.next hk (fun _ _ x => x) (fun k hk' x => by have := hB4.new k (.inr (.inl x)); omega))) hn (by omega)
  rw [← hR] at hrs
  have HV := hid hB4
  clear hB hR hfew hL hn hg1 hfar hB4 hkeep
  go_wp2_with (at_builtin; refine stopAt ?_; intro q hq)
  refine hrs.mono ?_
  rintro e w5 ⟨rfl, ht⟩
  obtain ⟨Qw1, Qd1, hB5, -⟩ := HV.out.toR ht
  have HU := hid hB5.pair
  clear ht hB5
  go_wp2_with (at_builtin; refine stopAt ?_; intro q hq)
  go_ret
  exact ⟨by simp, HU.out⟩
end Go.Proofs.Yteemekckiafnfaa
/- The pair's play: Append. Conditions: as the contracts name them. -/
namespace Go.Proofs.Yteemekckiafnfaa
open Go.RowKit
open DM BM WM

set_option maxRecDepth 20000 in
set_option maxHeartbeats 1000000 in
theorem play_append (W w : World) (p : Nat) (D : Dk) (G : Lg) (z n : Int) (f : UInt8) (lv kv : Value) (hz : z = 0 ∨ z = 1) (h : PairNew W w p D (some G)) (hb : -9223372036854775808 ≤ n ∧ n ≤ 9223372036854775807) (hfew : D.waits.length ≤ 700000) :
    Calls Try.prog 24 #[.pointer (some ⟨p, 0, none⟩), .agg #[.int .i64 z, .int .i64 n, .int .u8 (f.toNat : Int), lv, kv]] w fun e w' => e = .returned (.bool true) ∧ PairNew W w' p (WM.append D G (bodyL (min n.toNat 1030) f)).2.1 (some (WM.append D G (bodyL (min n.toNat 1030) f)).2.2) := by
  have hk1 : Keep (fun _ => False) w (w.alloc (.cells #[.int .i64 z, .int .i64 n, .int .u8 (f.toNat : Int), lv, kv] 50)) := (Keep.refl _ _).alloc _
  have hg1 := heap_alloc_new w (.cells #[.int .i64 z, .int .i64 n, .int .u8 (f.toNat : Int), lv, kv] 50)
  obtain ⟨d, m, b, c, Pw, Pd, Qw, Qd, hB0⟩ := h.both
  have hB := hB0.later hk1
  obtain ⟨h0, h1, h2, h3, hf, hb1⟩ := cells4 hB.head
  obtain ⟨i0, i1, i2, i3, i4⟩ := cells5 hg1
  obtain ⟨bs, hbs⟩ : ∃ bs, bs = bodyL (min n.toNat 1030) f := ⟨_, rfl⟩
  have hbl : bs.length ≤ 1030 := by rw [hbs, bodyL_length]; omega
  have hbody := fun w => body_any w n f hb
  rw [← hbs] at hbody ⊢
  obtain ⟨R, hR⟩ : ∃ R, R = WM.append D G bs := ⟨_, rfl⟩
  rw [← hR]
  have HX := hid (And.intro hB (And.intro hR (And.intro hfew (And.intro hbl hg1))))
  clear hB hB0 hg1 hk1 h hR hfew hbl hbs hb
  go_enter Try.func24, Try.ntmps24
  rcases hz with rfl | rfl
  all_goals (
    go_wp2_with (at_builtin; refine stopAt ?_; intro q hq)
    refine (hbody _).mono ?_
    rintro e w2 ⟨v, rfl, hF⟩
    obtain ⟨hB, hR, hfew, hbl, hg1⟩ := HX.out
    have hB2 := hB.later hF.keep
    have hg2 := hF.keep.get hg1 id
    have hrow := hF.row
    have hown := hF.own
    obtain ⟨ao, cb, rfl, -⟩ := hrow.form
    have hsrc : Cells w2 ao bs.length 1 (bytesV bs) := Cells.of_row hrow
    have hap : ∀ x, 0 < bs.length → ao = some x → ¬ ((Pw x.block ∨ Pd x.block) ∨ (Qw x.block ∨ Qd x.block)) := fun x hp hx hP => by
      subst hx
      have := hown x.block rfl
      have := hB.lt _ hP
      omega
    clear h0 h1 h2 h3 hf i0 i1 i2 i3 i4
    obtain ⟨h0, h1, h2, h3, hf, hb3⟩ := cells4 hB2.head
    obtain ⟨i0, i1, i2, i3, i4⟩ := cells5 hg2
    have hws := wappend_any w2 b d Pw Pd D G hB2.one ao bs.length cb bs hsrc (fun x hp hx => ⟨fun y => hap x hp hx (.inl (.inl y)), fun y => hap x hp hx (.inl (.inr y))⟩) (by omega) (by omega)
    rw [← hR] at hws
    have HP := hid (And.intro hB2 (And.intro hg2 (And.intro hrow hown)))
    clear hB hB2 hg2 hrow hown hsrc hap hF hR hfew hbl hg1
    go_wp2_with (at_builtin; refine stopAt ?_; intro q hq)
    refine hws.mono ?_
    rintro e w3 ⟨rfl, ht⟩
    obtain ⟨hB, hR, hfew, hbl, hg1⟩ := HX.out
    obtain ⟨hB2, hg2, hrow, hown⟩ := HP.out
    obtain ⟨Pw1, Pd1, hB3, hs1⟩ := hB2.toW ht
    obtain ⟨-, -, -, hk3, -⟩ := ht
    have hold : ∀ k, (Value.slice ao bs.length cb).ownBlock = some k → ¬ ((Pw k ∨ Pd k) ∨ (Qw k ∨ Qd k)) := fun k e x => by
      have := hown k e
      have := hB.lt k x
      omega
    have hrow3 := hrow.keep hk3 (fun k e x => hold k e (.inl x))
    have hrs := rappend_any' w3 c m Qw Qd D G hB3.two ao bs.length cb bs (Cells.of_row hrow3) (fun x hp hx => by subst hx; exact ⟨fun y => hold x.block rfl (.inr (.inl y)), fun y => hold x.block rfl (.inr (.inr y))⟩) (by omega) (by omega)
    rw [← hR] at hrs
    clear h0 h1 h2 h3 hf i0 i1 i2 i3 i4
    obtain ⟨h0, h1, h2, h3, hf, hb4⟩ := cells4 hB3.head
    have HY := hid (And.intro hB3 (And.intro hs1 (And.intro hrow3 (And.intro hold hk3.size))))
    clear hB hB2 hg2 hrow hown hR hfew hbl hg1 hB3 hs1 hk3 hold hrow3
    go_wp2_with (at_builtin; refine stopAt ?_; intro q hq)
    refine hrs.mono ?_
    rintro e w4 ⟨rfl, ht⟩
    obtain ⟨hB3, hs1, hrow3, hold, hz3⟩ := HY.out
    obtain ⟨Qw1, Qd1, hB4, hs2⟩ := hB3.toR ht
    obtain ⟨-, -, -, hk4, -⟩ := ht
    have hrow4 := hrow3.keep hk4 (fun k e x => hold k e (.inr x))
    have hsp := spoil_any w4 _ bs hrow4
    have HZ := hid (And.intro hB4 hs2)
    clear h0 h1 h2 h3 hf hB3 hs1 hrow3 hold hz3 hB4 hs2 hk4 hrow4
    go_wp2_with (at_builtin; refine stopAt ?_; intro q hq)
    refine hsp.mono ?_
    rintro e w5 ⟨rfl, hk5⟩
    obtain ⟨hB, hR, hfew, hbl, hg1⟩ := HX.out
    obtain ⟨hB2, hg2, hrow, hown⟩ := HP.out
    obtain ⟨hB3, hs1, hrow3, hold, hz3⟩ := HY.out
    obtain ⟨hB4, hs2⟩ := HZ.out
    have hB5 := hB4.step hk5 (fun k e => by
      have l1 := hrow.lt e
      have l2 := hown k e
      have l3 := heap_lt hB.head
      have l4 := hB.keep.size
      have hn := hold k e
      refine ⟨fun x => (hs1 k x).elim (fun y => hn (.inl y)) (fun y => by omega), fun x => (hs2 k x).elim (fun y => hn (.inr y)) (fun y => by omega), by omega, by omega⟩)
    have HU := hid hB5.pair
    clear hB hR hfew hbl hg1 hB2 hg2 hrow hown hB3 hs1 hrow3 hold hz3 hB4 hs2 hk5 hB5
    go_wp2_with (at_builtin; refine stopAt ?_; intro q hq)
    go_ret
    exact ⟨by simp, HU.out⟩)
end Go.Proofs.Yteemekckiafnfaa
/- The pair's play: Arm, and all acts in one. Conditions: as the contracts name them. -/
namespace Go.Proofs.Yteemekckiafnfaa
open Go.RowKit
open DM BM WM

/-- Both disks are armed. -/
theorem PairIs.arm {w w1 w2 w3 w4 : World} {p d m : Nat} {Pw Pd Qw Qd Pd1 Qd1 : Nat → Prop} {D : Dk} {wv rv : Value} {g : Option Lg} {n : Int} (h : PairIs w p d m Pw Pd Qw Qd D wv rv g)
    (a1 : DiskAt w1 d Pd1 (DM.arm D n)) (a2 : Keep Pd w w1) (a3 : ∀ k, Pd1 k → Pd k ∨ w.heap.size ≤ k) (k2 : Keep (fun _ => False) w1 w2)
    (c1 : RefAt w3 m Qd1 (DM.arm D n)) (c2 : Keep Qd w2 w3) (c3 : ∀ k, Qd1 k → Qd k ∨ w2.heap.size ≤ k) (k4 : Keep (fun _ => False) w3 w4) :
    PairIs w4 p d m Pw Pd1 Qw Qd1 (DM.arm D n) wv rv g := by
  have s1 := a2.size
  have s2 := k2.size
  have s3 := c2.size
  have s4 := k4.size
  have lP := h.disk.lt
  have lQ := h.ref.lt
  have lp := heap_lt h.head
  have hall : Keep (fun k => Pd k ∨ Qd k) w w4 := ((((a2.mono fun _ _ x => .inl x).next k2 (fun _ _ x => x) (fun _ _ x => x.elim)).next c2 (fun _ _ x => x) (fun _ _ x => .inr x))).next k4 (fun _ _ x => x) (fun _ _ x => x.elim)
  have b2 : ∀ k, Qd k → ¬ Pd1 k := fun k x y => (a3 k y).elim (fun z => h.apart k (.inr z) (.inr x)) fun z => by have := lQ k x; omega
  refine ⟨hall.get h.head (fun x => x.elim (fun y => h.selfn.1 (.inr y)) (fun y => h.selfn.2 (.inr y))), ((a1.keep k2 fun _ _ x => x).keep c2 (fun k x y => b2 k y x)).keep k4 (fun _ _ x => x), c1.keep k4 (fun _ _ x => x), ?_, fun k x y => ?_, ⟨fun x => ?_, fun x => ?_⟩, fun k x => by have := h.lt k x; omega⟩
  · have hl := h.logs
    cases g with
    | none => exact hl
    | some G =>
      obtain ⟨b, c, e1, e2, ⟨ga, ca, vl, vs, l1⟩, ⟨vl2, vs2, l2⟩⟩ := hl
      refine ⟨b, c, e1, e2, ⟨ga, ca, vl, vs, ⟨l1.wal.keep hall (fun k x y => y.elim (fun z => l1.apart k x z) (fun z => h.apart k (.inl x) (.inr z))), ((a1.keep k2 fun _ _ x => x).keep c2 (fun k x y => b2 k y x)).keep k4 (fun _ _ x => x), fun k x y => ?_⟩⟩,
        ⟨vl2, vs2, ⟨l2.wal.keep hall (fun k x y => y.elim (fun z => h.apart k (.inr z) (.inl x)) (fun z => l2.apart k x z)), c1.keep k4 (fun _ _ x => x), fun k x y => ?_⟩⟩⟩
      · rcases a3 k y with z | z
        · exact l1.apart k x z
        · have := l1.wal.lt k x; omega
      · rcases c3 k y with z | z
        · exact l2.apart k x z
        · have := l2.wal.lt k x; omega
  · rcases x with x | x
    · rcases y with y | y
      · exact h.apart k (.inl x) (.inl y)
      · rcases c3 k y with z | z
        · exact h.apart k (.inl x) (.inr z)
        · have := h.lt k (.inl x); omega
    · rcases y with y | y
      · rcases a3 k x with z | z
        · exact h.apart k (.inr z) (.inl y)
        · have := h.lt k (.inr y); omega
      · rcases c3 k y with z | z
        · exact b2 k z x
        · have := a1.lt k x; omega
  · rcases x with x | x
    · exact h.selfn.1 (.inl x)
    · rcases a3 p x with z | z
      · exact h.selfn.1 (.inr z)
      · omega
  · rcases x with x | x
    · exact h.selfn.2 (.inl x)
    · rcases c3 p x with z | z
      · exact h.selfn.2 (.inr z)
      · omega

set_option maxRecDepth 20000 in
set_option maxHeartbeats 1000000 in
theorem play_arm (W w : World) (p : Nat) (D : Dk) (g : Option Lg) (n : Int) (fv : Int) (lv kv : Value) (h : PairNew W w p D g) (hn : n < 9223372036854775808) :
    Calls Try.prog 24 #[.pointer (some ⟨p, 0, none⟩), .agg #[.int .i64 5, .int .i64 n, .int .u8 fv, lv, kv]] w fun e w' => e = .returned (.bool true) ∧ PairNew W w' p (DM.arm D n) g := by
  have hk1 : Keep (fun _ => False) w (w.alloc (.cells #[.int .i64 5, .int .i64 n, .int .u8 fv, lv, kv] 50)) := (Keep.refl _ _).alloc _
  have hg1 := heap_alloc_new w (.cells #[.int .i64 5, .int .i64 n, .int .u8 fv, lv, kv] 50)
  obtain ⟨d, m, Pw, Pd, Qw, Qd, wv, rv, hI0, hnew, hkW0⟩ := h
  have hI := hI0.keep hk1 (fun _ _ x => x)
  have hkW := hkW0.next hk1 (fun _ _ x => x) (fun _ _ x => x)
  have hfar : ∀ k, Pd k ∨ Qd k → k < w.heap.size := fun k x => x.elim (hI0.disk.lt k) (hI0.ref.lt k)
  obtain ⟨h0, h1, h2, h3, hf, hb⟩ := cells4 hI.head
  obtain ⟨i0, i1, i2, i3, i4⟩ := cells5 hg1
  have HX := hid (And.intro hI (And.intro hnew (And.intro hkW (And.intro hg1 hfar))))
  clear hI0 hI hnew hkW0 hkW hg1 hk1 hfar
  go_enter Try.func24, Try.ntmps24
  go_wp2_with (at_builtin; refine stopAt ?_; intro q hq)
  obtain ⟨w1, hw1⟩ : ∃ w1, w1 = w.alloc (.cells #[.int .i64 5, .int .i64 n, .int .u8 fv, lv, kv] 50) := ⟨_, rfl⟩
  rw [← hw1] at h0 h1 h2 h3 hf i0 i1 i2 i3 i4 HX ⊢
  have j0 := fun s : Later w1 => s.cell h0
  have j4 := fun s : Later w1 => s.cell i1
  (refine wp_region_tail 6 (by kernel_rfl) (by kernel_rfl) ?_; simp only [List.take_succ_cons, List.take_zero, List.drop_succ_cons, List.drop_zero]; (repeat (go_big_quiet_step ((fail)))); refine wpQuiet_nil ?_; rintro _ ⟨sq, rfl⟩)
  have hkeep := sq.keep
  obtain ⟨w2, hw2⟩ : ∃ w2, w2 = sq.val := ⟨_, rfl⟩
  rw [← hw2] at hkeep ⊢
  clear hw2 sq j0 j4 h0 h1 h2 h3 hf i0 i1 i2 i3 i4
  obtain ⟨hI, hnew, hkW, hg1, hfar⟩ := HX.out
  have har := arm_any w2 d Pd D n hn (hI.disk.keep hkeep fun _ _ x => x)
  have HK := hid hkeep
  clear hI hnew hkW hg1 hfar hkeep
  go_wp2_with (at_builtin; refine stopAt ?_; intro q hq)
  refine har.mono ?_
  rintro e w3 ⟨rfl, Pd1, a1, a2, a3⟩
  obtain ⟨hI, hnew, hkW, hg1, hfar⟩ := HX.out
  have hI2 := hI.keep HK.out (fun _ _ x => x)
  have hh3 := a2.get hI2.head (fun x => hI.selfn.1 (.inr x))
  have hg3 := a2.get (HK.out.get hg1 id) (fun x => by have := hfar _ (.inl x); omega)
  obtain ⟨h0, h1, h2, h3, hf, hb3⟩ := cells4 hh3
  obtain ⟨i0, i1, i2, i3, i4⟩ := cells5 hg3
  have HA := hid (And.intro a1 (And.intro a2 (And.intro a3 hI2)))
  clear hI hnew hkW hg1 hfar a1 a2 a3 hI2 hh3 hg3
  go_wp2_with (at_builtin; refine stopAt ?_; intro q hq)
  have j2 := fun s : Later w3 => s.cell h2
  have j4 := fun s : Later w3 => s.cell i1
  (refine wp_region_tail 6 (by kernel_rfl) (by kernel_rfl) ?_; simp only [List.take_succ_cons, List.take_zero, List.drop_succ_cons, List.drop_zero]; (repeat (go_big_quiet_step ((fail)))); refine wpQuiet_nil ?_; rintro _ ⟨sq, rfl⟩)
  have hkeep := sq.keep
  obtain ⟨w4, hw4⟩ : ∃ w4, w4 = sq.val := ⟨_, rfl⟩
  rw [← hw4] at hkeep ⊢
  clear hw4 sq j2 j4 h0 h1 h2 h3 hf i0 i1 i2 i3 i4
  obtain ⟨a1, a2, a3, hI2⟩ := HA.out
  have hra := ref_arm w4 m Qd D n hn ((hI2.ref.keep a2 (fun k x y => hI2.apart k (.inr y) (.inr x))).keep hkeep fun _ _ x => x)
  have HB := hid hkeep
  clear a1 a2 a3 hI2 hkeep
  go_wp2_with (at_builtin; refine stopAt ?_; intro q hq)
  refine hra.mono ?_
  rintro e w5 ⟨rfl, Qd1, c1, c2, c3⟩
  have HZ := hid (show PairNew W w5 p (DM.arm D n) g from by
    obtain ⟨hI, hnew, hkW, hg1, hfar⟩ := HX.out
    obtain ⟨a1, a2, a3, hI2⟩ := HA.out
    have hI5 := hI2.arm a1 a2 a3 HB.out c1 c2 c3 (Keep.refl (fun _ => False) w5)
    have s0 := hkW.size
    have s1 := HK.out.size
    have s2 := a2.size
    have s3 := HB.out.size
    have hk5 : Keep (fun k => Pd k ∨ Qd k) w2 w5 := (((a2.mono fun _ _ x => .inl x).next HB.out (fun _ _ x => x) (fun _ _ x => x.elim)).next c2 (fun _ _ x => x) (fun _ _ x => .inr x))
    refine ⟨d, m, Pw, Pd1, Qw, Qd1, wv, rv, hI5, fun k x => ?_, (hkW.next HK.out (H := fun _ => False) (fun _ _ x => x) (fun _ _ x => x)).next hk5 (fun _ _ x => x) (fun k hk x => by have := hnew k (x.elim (fun y => .inl (.inr y)) (fun y => .inr (.inl (.inr y)))); omega)⟩
    rcases x with (x | x) | (x | x) | x
    · exact hnew k (.inl (.inl x))
    · rcases a3 k x with z | z
      · exact hnew k (.inl (.inr z))
      · omega
    · exact hnew k (.inr (.inl (.inl x)))
    · rcases c3 k x with z | z
      · exact hnew k (.inr (.inl (.inr z)))
      · omega
    · exact hnew k (.inr (.inr x)))
  clear c1 c2 c3
  go_wp2_with (at_builtin; refine stopAt ?_; intro q hq)
  go_ret
  exact ⟨by trivial, HZ.out⟩

/-- One act, as the chapter says. -/
def step (D : Dk) (g : Option Lg) (x : Act4) : Dk × Option Lg :=
  if x.kind = 4 then ((openW (DM.crash D x.keep)).2.2, (openW (DM.crash D x.keep)).2.1)
  else if x.kind = 5 then (DM.arm D x.n, g)
  else match g with
  | none => (D, none)
  | some G =>
    if x.kind = 0 ∨ x.kind = 1 then ((WM.append D G (bodyL (min x.n.toNat 1030) x.fill)).2.1, some (WM.append D G (bodyL (min x.n.toNat 1030) x.fill)).2.2)
    else if x.kind = 2 then ((WM.syncW D G).2.1, some (WM.syncW D G).2.2)
    else if x.kind = 3 then ((WM.reset D G x.list).2.1, some (WM.reset D G x.list).2.2)
    else (D, some G)

set_option maxRecDepth 20000 in
theorem play_any (W w : World) (p : Nat) (D : Dk) (g : Option Lg) (x : Act4) (lv kv : Value) (h : PairNew W w p D g) (hl : Texts W lv x.list) (hk : Ints W kv x.keep)
    (hn : -9223372036854775808 ≤ x.n ∧ x.n ≤ 9223372036854775807) (hlen : x.list.length ≤ 1000000000) (hfew : D.waits.length ≤ 700000) :
    Calls Try.prog 24 #[.pointer (some ⟨p, 0, none⟩), actV x lv kv] w fun e w' => e = .returned (.bool true) ∧ PairNew W w' p (step D g x).1 (step D g x).2 := by
  obtain ⟨z, n, f, L, keep⟩ := x
  simp only [actV] at *
  unfold step
  simp only
  by_cases h4 : z = 4
  · subst h4
    rw [if_pos rfl]
    exact play_crash W w p D g n f.toNat lv kv keep h hk hfew
  rw [if_neg h4]
  by_cases h5 : z = 5
  · subst h5
    rw [if_pos rfl]
    exact play_arm W w p D g n f.toNat lv kv h (by omega)
  rw [if_neg h5]
  cases g with
  | none => exact play_none W w p D z n f.toNat lv kv h ⟨h4, h5⟩
  | some G =>
    by_cases h01 : z = 0 ∨ z = 1
    · simp only [if_pos h01]
      exact play_append W w p D G z n f lv kv h01 h hn hfew
    simp only [if_neg h01]
    by_cases h2 : z = 2
    · subst h2
      rw [if_pos rfl]
      exact play_sync W w p D G n f.toNat lv kv h hfew
    simp only [if_neg h2]
    by_cases h3 : z = 3
    · subst h3
      rw [if_pos rfl]
      obtain ⟨ao, cl, rfl, -, -, hL⟩ := hl.lists
      exact play_reset W w p D G n f.toNat kv L ao cl hL hlen h hfew
    simp only [if_neg h3]
    exact play_idle W w p D G z n f.toNat lv kv h (by omega)
end Go.Proofs.Yteemekckiafnfaa
/- The pair's alike. Conditions: as the contracts name them. -/
namespace Go.Proofs.Yteemekckiafnfaa
open Go.RowKit
open DM BM WM

theorem gone_mark (D : Dk) (G : Lg) : gone D (WM.mark D G) = gone D G := by
  unfold gone WM.mark gone
  cases G.dead <;> cases D.down <;> rfl
theorem mark_mark (D : Dk) (G : Lg) : WM.mark D (WM.mark D G) = WM.mark D G := by
  unfold WM.mark
  have := gone_mark D G
  unfold WM.mark at this
  rw [this]

set_option maxRecDepth 20000 in
theorem alike_none (W w : World) (p : Nat) (D : Dk) (h : PairNew W w p D none) :
    Calls Try.prog 25 #[.pointer (some ⟨p, 0, none⟩)] w fun e w' => e = .returned (.bool true) ∧ PairNew W w' p D none := by
  have HP := hid h
  obtain ⟨d, m, Pw, Pd, Qw, Qd, wv, rv, hI, -, -⟩ := h
  obtain ⟨rfl, rfl⟩ := hI.logs
  obtain ⟨h0, h1, h2, h3, hf, hb⟩ := cells4 hI.head
  clear hI
  go_enter Try.func25, Try.ntmps25
  go_wp2_with (at_builtin; refine stopAt ?_; intro q hq)
  go_ret
  exact ⟨by trivial, HP.out⟩

set_option maxRecDepth 20000 in
set_option maxHeartbeats 1000000 in
theorem alike_gone (W w : World) (p : Nat) (D : Dk) (G : Lg) (h : PairNew W w p D (some G)) (hg : gone D G = true) :
    Calls Try.prog 25 #[.pointer (some ⟨p, 0, none⟩)] w fun e w' => e = .returned (.bool true) ∧ PairNew W w' p D (some (WM.mark D G)) := by
  obtain ⟨d, m, b, c, Pw, Pd, Qw, Qd, hB⟩ := h.both
  have hgo := gone_any w c m Qw Qd D G hB.two
  rw [hg] at hgo
  obtain ⟨h0, h1, h2, h3, hf, hb1⟩ := cells4 hB.head
  have HX := hid (And.intro hB hg)
  clear hB h hg
  go_enter Try.func25, Try.ntmps25
  go_wp2_with (at_builtin; refine stopAt ?_; intro q hq)
  refine hgo.mono ?_
  rintro e w2 ⟨rfl, ht⟩
  obtain ⟨Qw1, Qd1, hB2, -⟩ := HX.out.1.toR ht
  clear h0 h1 h2 h3 hf ht
  obtain ⟨h0, h1, h2, h3, hf, hb2⟩ := cells4 hB2.head
  have hre := records_gone w2 b d Pw Pd D G hB2.one HX.out.2
  have HY := hid hB2
  clear hB2
  go_wp2_with (at_builtin; refine stopAt ?_; intro q hq)
  refine hre.mono ?_
  rintro e w3 ⟨rfl, ht⟩
  obtain ⟨Pw3, Pd3, hB3, -⟩ := HY.out.toW ht
  have hg3 : gone D (WM.mark D G) = true := by rw [gone_mark]; exact HX.out.2
  clear h0 h1 h2 h3 hf ht
  obtain ⟨h0, h1, h2, h3, hf, hb3⟩ := cells4 hB3.head
  have hsa := safe_gone w3 b d Pw3 Pd3 D (WM.mark D G) hB3.one hg3
  rw [mark_mark] at hsa
  have HZ := hid (And.intro hB3 hg3)
  clear hB3 hg3
  go_wp2_with (at_builtin; refine stopAt ?_; intro q hq)
  refine hsa.mono ?_
  rintro e w4 ⟨rfl, ht⟩
  obtain ⟨Pw4, Pd4, hB4, -⟩ := HZ.out.1.toW ht
  clear h0 h1 h2 h3 hf ht
  obtain ⟨h0, h1, h2, h3, hf, hb4⟩ := cells4 hB4.head
  have hro := room_gone w4 b d Pw4 Pd4 D (WM.mark D G) hB4.one HZ.out.2
  rw [mark_mark] at hro
  have HV := hid hB4
  clear hB4
  go_wp2_with (at_builtin; refine stopAt ?_; intro q hq)
  refine hro.mono ?_
  rintro e w5 ⟨rfl, ht⟩
  obtain ⟨Pw5, Pd5, hB5, -⟩ := HV.out.toW ht
  have HU := hid hB5.pair
  clear hB5 ht
  go_wp2_with (at_builtin; refine stopAt ?_; intro q hq)
  go_ret
  exact ⟨by simp, HU.out⟩

/-- The document's log: its records, as they are read. -/
theorem RLogAt.cells {w : World} {c m : Nat} {Qw Qd : Nat → Prop} {D : Dk} {G : Lg} (h : RLogAt w c m Qw Qd D G) :
    ∃ ao n cl, w.heap[c]? = some (.cells (rwCells m G.ep (.slice ao G.l.length cl) G.safe G.dead) 62 (0, 0)) ∧ n = G.l.length ∧ Lists w ao G.l := by
  obtain ⟨vl, vs, hL⟩ := h
  obtain ⟨ao, cl, rfl, -⟩ := hL.wal.recs.row.form
  exact ⟨ao, _, cl, hL.wal.head, rfl, hL.wal.recs.lists⟩
theorem Made.stab {w0 w w' : World} {v : Value} {L : List (List UInt8)} (h : Made w0 v L w) (hk : Same w w') : Made w0 v L w' := by
  obtain ⟨vs, hr⟩ := h
  exact ⟨vs, hr.keep hk fun _ _ _ x => x⟩
theorem Made.form {w0 w : World} {v : Value} {L : List (List UInt8)} (h : Made w0 v L w) : ∃ ao cl, v = .slice ao L.length cl ∧ Lists w ao L := by
  obtain ⟨vs, hr⟩ := h
  obtain ⟨ao, cl, rfl, -⟩ := hr.row.form
  exact ⟨ao, cl, rfl, hr.lists⟩

set_option maxRecDepth 20000 in
set_option maxHeartbeats 1000000 in
theorem alike_up (W w : World) (p : Nat) (D : Dk) (G : Lg) (h : PairNew W w p D (some G)) (hg : gone D G = false) :
    Calls Try.prog 25 #[.pointer (some ⟨p, 0, none⟩)] w fun e w' => e = .returned (.bool true) ∧ PairNew W w' p D (some G) := by
  obtain ⟨d, m, b, c, Pw, Pd, Qw, Qd, hB⟩ := h.both
  have hgo := gone_any w c m Qw Qd D G hB.two
  rw [hg, mark_up hg] at hgo
  obtain ⟨h0, h1, h2, h3, hf, hb1⟩ := cells4 hB.head
  have HX := hid (And.intro hB hg)
  clear hB h hg
  go_enter Try.func25, Try.ntmps25
  go_wp2_with (at_builtin; refine stopAt ?_; intro q hq)
  refine hgo.mono ?_
  rintro e w2 ⟨rfl, ht⟩
  obtain ⟨Qw1, Qd1, hB2, -⟩ := HX.out.1.toR ht
  clear h0 h1 h2 h3 hf ht
  obtain ⟨h0, h1, h2, h3, hf, hb2⟩ := cells4 hB2.head
  obtain ⟨ao, n, cl, hc, hn, hL⟩ := hB2.two.cells
  obtain ⟨r0, r1, r2, r3, r4, -, -⟩ := cells5w hc
  have HY := hid (And.intro hB2 (And.intro hL HX.out.2))
  clear hB2 hc hL
  go_wp2_with (at_builtin; refine stopAt ?_; intro q hq)
  have j1 := fun s : Later w2 => s.cell h1
  have j3 := fun s : Later w2 => s.cell h3
  have q2 := fun s : Later w2 => s.cell r2
  have q3 := fun s : Later w2 => s.cell r3
  clear h0 h1 h2 h3 hf r0 r1 r2 r3 r4
  refine wp_region_pool [(4, fun v w' => ∃ w1, Made w1 v G.l w'), (12, fun v _ => v = .bool true), (18, fun v _ => v = .int .i64 (G.safe : Nat)), (33, fun v _ => v = .int .i64 (room D G : Nat)), (38, fun v _ => v = .int .i64 (room D G : Nat))] (by kernel_rfl) (by kernel_rfl) ?_ ?_
  · intro q hq v w1 w3 hk hx
    simp only [List.mem_cons, List.not_mem_nil, or_false] at hq
    rcases hq with rfl | rfl | rfl | rfl | rfl
    · obtain ⟨wz, hz⟩ := hx; exact ⟨wz, hz.stab hk⟩
    all_goals exact hx
  repeat (apply wpT_pure (by rfl); (intro K s; go_simp; exact id))
  refine wpT_made (by rfl) (by kernel_rfl) (fun s hs => ?_) (fun v hv K hK => ?_)
  · go_simp
    obtain ⟨hB2, hL, hg⟩ := HY.out
    refine (records_up s.val b d Pw Pd D G (hB2.one.keep s.keep (fun _ _ x => x) (fun _ _ x => x)) hg).mono ?_
    rintro e w' ⟨v, rfl, hm, hk⟩
    exact ⟨v, rfl, hk, s.val, hm⟩
  obtain ⟨s1, -, w1, hm⟩ := hv
  obtain ⟨ao2, cl2, rfl, -⟩ := hm.form
  go_simp
  refine hK _ ?_
  clear hK K hm s1
  repeat (apply wpT_pure (by rfl); (intro K s; go_simp; exact id))
  refine wpT_made (by rfl) (by kernel_rfl) (fun s hs => ?_) (fun v hv K hK => ?_)
  · go_simp
    obtain ⟨w1, hm⟩ := hs (4, fun w' => ∃ w1, Made w1 (.slice ao2 G.l.length cl2) G.l w') (by simp) (by kernel_rfl)
    obtain ⟨hB2, hL, hg⟩ := HY.out
    obtain ⟨ao3, cl3, he, hm2⟩ := hm.form
    cases he
    refine (samelists_any s.val ao2 ao cl2 cl G.l G.l hm2 (hL.keep s.keep) (by have := hB2.one.ok.count; omega)).mono ?_
    rintro e w' ⟨rfl, hk⟩
    exact ⟨by simp, hk⟩
  obtain ⟨s1, -, rfl⟩ := hv
  go_simp
  refine hK _ ?_
  clear hK K s1
  repeat (apply wpT_pure (by rfl); (intro K s; go_simp; exact id))
  refine wpT_made (by rfl) (by kernel_rfl) (fun s hs => ?_) (fun v hv K hK => ?_)
  · go_simp
    obtain ⟨hB2, hL, hg⟩ := HY.out
    refine (safe_up s.val b d Pw Pd D G (hB2.one.keep s.keep (fun _ _ x => x) (fun _ _ x => x)) hg).mono ?_
    rintro e w' ⟨rfl, rfl⟩
    exact ⟨rfl, Keep.refl _ _⟩
  obtain ⟨s1, -, rfl⟩ := hv
  go_simp
  refine hK _ ?_
  clear hK K s1
  repeat (apply wpT_pure (by rfl); (intro K s; go_simp; exact id))
  refine wpT_made (by rfl) (by kernel_rfl) (fun s hs => ?_) (fun v hv K hK => ?_)
  · go_simp
    obtain ⟨hB2, hL, hg⟩ := HY.out
    refine (room_up s.val b d Pw Pd D G (hB2.one.keep s.keep (fun _ _ x => x) (fun _ _ x => x)) hg).mono ?_
    rintro e w' ⟨rfl, rfl⟩
    exact ⟨rfl, (Keep.refl _ _).drew⟩
  obtain ⟨s1, -, rfl⟩ := hv
  go_simp
  refine hK _ ?_
  clear hK K s1
  repeat (apply wpT_pure (by rfl); (intro K s; go_simp; exact id))
  refine wpT_made (by rfl) (by kernel_rfl) (fun s hs => ?_) (fun v hv K hK => ?_)
  · go_simp
    obtain ⟨hB2, hL, hg⟩ := HY.out
    refine (rroom_any s.val c m Qw1 Qd1 D G (hB2.two.keep s.keep (fun _ _ x => x) (fun _ _ x => x))).mono ?_
    rintro e w' ⟨rfl, hk⟩
    exact ⟨rfl, hk⟩
  obtain ⟨s1, -, rfl⟩ := hv
  go_simp
  refine hK _ ?_
  clear hK K s1
  repeat (apply wpT_pure (by rfl); (intro K s; go_simp; exact id))
  refine wpT_nil fun s _ => ?_
  have HU := hid ((HY.out.1.later s.keep).pair)
  clear j1 j3 q2 q3
  go_wp2_with (at_builtin; refine stopAt ?_; intro q hq)
  go_ret
  exact ⟨by trivial, HU.out⟩

set_option maxRecDepth 20000 in
/-- Both tell the same. -/
theorem alike_any (W w : World) (p : Nat) (D : Dk) (g : Option Lg) (h : PairNew W w p D g) :
    Calls Try.prog 25 #[.pointer (some ⟨p, 0, none⟩)] w fun e w' => e = .returned (.bool true) ∧ PairNew W w' p D (g.map (WM.mark D)) := by
  cases g with
  | none => exact alike_none W w p D h
  | some G =>
    cases hg : gone D G with
    | true => exact alike_gone W w p D G h hg
    | false =>
      have := alike_up W w p D G h hg
      rw [show (some G).map (WM.mark D) = some G by rw [Option.map_some, mark_up hg]]
      exact this
end Go.Proofs.Yteemekckiafnfaa
