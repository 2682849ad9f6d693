/- What span's laws are given: four ints in an array; a shape. Conditions: none. -/
import Derived.Test.YtmbfglblkpipcaaSpanH
import Derived.OpenShut
import Derived.ChangeShapes
namespace Go.Proofs.Ytmbfglblkpipcaa
open Go.ChangeShapes Go.WideShapes Go.RowKit

theorem wf_i64 {a : Int} (h : (Lit.int .i64 a).wf = true) : -9223372036854775808 ≤ a ∧ a ≤ 9223372036854775807 := by
  simpa [Lit.wf, IntKind.min, IntKind.max, IntKind.signed, IntKind.bits] using h
theorem wf_u64 {a : Int} (h : (Lit.int .u64 a).wf = true) : 0 ≤ a ∧ a ≤ 18446744073709551615 := by
  simpa [Lit.wf, IntKind.min, IntKind.max, IntKind.signed, IntKind.bits] using h

section
variable {H : Type} {enc : TypeId × Value → H} {P : Program} {w : World} {base : Nat} {held : Bool}

theorem rd_int {t : TypeId} {k : IntKind} {fuel : Nat} {cs : List Value} {x : DataW H × List MemPlace} (ht : P.underlying t = some (.int k)) (h : DataW.trod enc P w base (fun _ => true) held fuel t cs = some x) :
    ∃ n, cs = [.int k n] ∧ (Lit.int k n).wf = true :=
  let ⟨n, h1, _, h3⟩ := DataW.trod_int ht h
  ⟨n, h1, h3⟩

theorem okWide_array {t e : TypeId} {n : Nat} {r : Reach} {b0 : Nat} {v : Value} (ht : P.underlying t = some (.array n e)) (h : Value.okWide P w r b0 t v) : ∃ cs, v = .agg cs ∧ cs.size = P.cellsOf t := by
  simp only [Value.okWide, ht] at h
  obtain ⟨cs, h1, h2, _⟩ := h
  exact ⟨cs, h1, h2⟩
end

/-- Four ints. -/
theorem open_ints4 {H : Type} {enc : TypeId × Value → H} {w : World} {base : Nat} {held : Bool} {r : Reach} {b0 : Nat} {v : Value} {d : DataW H} {p : List MemPlace} (hval : Value.okWide Try.prog w r b0 22 v)
    (h : DataW.Trod enc Try.prog w base (fun _ => true) held 22 v d p) :
    ∃ a b c e, v = .agg #[.int .i64 a, .int .i64 b, .int .i64 c, .int .i64 e] ∧ (-9223372036854775808 ≤ a ∧ a ≤ 9223372036854775807) ∧ (-9223372036854775808 ≤ b ∧ b ≤ 9223372036854775807) ∧ (-9223372036854775808 ≤ c ∧ c ≤ 9223372036854775807) ∧ (-9223372036854775808 ≤ e ∧ e ≤ 9223372036854775807) := by
  obtain ⟨cs, rfl, hn⟩ := okWide_array Try.underlying22 hval
  have c4 : Try.prog.cellsOf 22 = 4 := by kernel_rfl
  have ci : Try.prog.cellsOf 3 = 1 := by kernel_rfl
  obtain ⟨fu, hf⟩ := h
  obtain ⟨xs, m, _, _, hl, hx, hg⟩ := DataW.trod_array Try.underlying22 hf
  obtain ⟨l⟩ := cs
  rw [c4] at hn
  match l, hn with
  | [c0, c1, c2, c3], _ =>
    match xs, hx with
    | [y0, y1, y2, y3], _ =>
      have g0 := hg 0 (by decide)
      have g1 := hg 1 (by decide)
      have g2 := hg 2 (by decide)
      have g3 := hg 3 (by decide)
      simp [ci, Value.cells] at g0 g1 g2 g3
      obtain ⟨a0, e0, w0⟩ := rd_int Try.underlying3 g0
      obtain ⟨a1, e1, w1⟩ := rd_int Try.underlying3 g1
      obtain ⟨a2, e2, w2⟩ := rd_int Try.underlying3 g2
      obtain ⟨a3, e3, w3⟩ := rd_int Try.underlying3 g3
      simp only [List.cons.injEq, and_true] at e0 e1 e2 e3
      subst e0 e1 e2 e3
      exact ⟨a0, a1, a2, a3, rfl, wf_i64 w0, wf_i64 w1, wf_i64 w2, wf_i64 w3⟩

/-- A shape. -/
theorem open_shape {H : Type} {enc : TypeId × Value → H} {w : World} {base : Nat} {held : Bool} {r : Reach} {b0 : Nat} {v : Value} {d : DataW H} {p : List MemPlace} (hval : Value.okWide Try.prog w r b0 25 v)
    (h : DataW.Trod enc Try.prog w base (fun _ => true) held 25 v d p) :
    ∃ a b c e, v = .agg #[.int .u64 a, .int .i64 b, .int .i64 c, .int .i64 e] ∧ (0 ≤ a ∧ a ≤ 18446744073709551615) ∧ (-9223372036854775808 ≤ b ∧ b ≤ 9223372036854775807) ∧ (-9223372036854775808 ≤ c ∧ c ≤ 9223372036854775807) ∧ (-9223372036854775808 ≤ e ∧ e ≤ 9223372036854775807) := by
  obtain ⟨cs, rfl, hn⟩ := okWide_struct Try.underlying25 hval
  have c4 : Try.prog.cellsOf 25 = 4 := by kernel_rfl
  have ci : Try.prog.cellsOf 3 = 1 := by kernel_rfl
  have cu : Try.prog.cellsOf 23 = 1 := by kernel_rfl
  obtain ⟨fu, hf⟩ := h
  obtain ⟨xs, m, _, _, hl, hx, hg⟩ := DataW.trod_struct Try.underlying25 hf
  obtain ⟨l⟩ := cs
  rw [c4] at hn
  match l, hn with
  | [c0, c1, c2, c3], _ =>
    match xs, hx with
    | [y0, y1, y2, y3], _ =>
      have g0 := hg 0 _ rfl
      have g1 := hg 1 _ rfl
      have g2 := hg 2 _ rfl
      have g3 := hg 3 _ rfl
      simp [ci, cu, Value.cells] at g0 g1 g2 g3
      obtain ⟨a0, e0, w0⟩ := rd_int Try.underlying23 g0
      obtain ⟨a1, e1, w1⟩ := rd_int Try.underlying3 g1
      obtain ⟨a2, e2, w2⟩ := rd_int Try.underlying3 g2
      obtain ⟨a3, e3, w3⟩ := rd_int Try.underlying3 g3
      simp only [List.cons.injEq, and_true] at e0 e1 e2 e3
      subst e0 e1 e2 e3
      exact ⟨a0, a1, a2, a3, rfl, wf_u64 w0, wf_i64 w1, wf_i64 w2, wf_i64 w3⟩
end Go.Proofs.Ytmbfglblkpipcaa
