/- seawalllaw12: a contract for rest. Conditions: as the contract names them. -/
import Derived.Test.YtnignhfallhblaaRlogE
namespace Go.Proofs.Ytnignhfallhblaa
open Go.RowKit
open RM

def RM.rest : Nat → Lg → List Ent × Lg
  | 0, g => ([], g)
  | k + 1, g => match RM.apply g with
    | (none, _) => ([], g)
    | (some e, h) => (e :: (RM.rest k h).1, (RM.rest k h).2)
theorem RM.rest_none {g : Lg} {k : Nat} (h : (RM.apply g).1 = none) : RM.rest k g = ([], g) := by
  cases k with
  | zero => rfl
  | succ k =>
    unfold RM.rest
    cases hq : RM.apply g with
    | mk o h2 => rw [hq] at h; simp only at h; subst h; rfl
theorem RM.rest_some {g : Lg} {k : Nat} {e : Ent} (h : (RM.apply g).1 = some e) : RM.rest (k + 1) g = (e :: (RM.rest k (RM.apply g).2).1, (RM.rest k (RM.apply g).2).2) := by
  conv => lhs; unfold RM.rest
  cases hq : RM.apply g with
  | mk o h2 => rw [hq] at h; simp only at h; subst h; rfl
theorem RM.apply_none {g : Lg} (h : (RM.apply g).1 = none) : (RM.apply g).2 = g := by
  unfold RM.apply at *
  split at h
  · cases h
  · rfl

structure RestRel (w : World) (b : Nat) (F : Nat → Prop) (k : Nat) (v : Value) (n : Nat) (all : List Ent × Lg) (wr : World) : Prop where
  ex : ∃ es us g, EntsIs wr v es us (fun k => w.heap.size ≤ k) ∧ LogAt wr b F g ∧ es ++ (RM.rest k g).1 = all.1 ∧ (RM.rest k g).2 = all.2 ∧ n = es.length
  keep : Keep F w wr
def Rests (w : World) (b : Nat) (F : Nat → Prop) (all : List Ent × Lg) (e : Ending) (w' : World) : Prop :=
  ∃ v us, e = .returned v ∧ EntsIs w' v all.1 us (fun k => w.heap.size ≤ k) ∧ LogAt w' b F all.2 ∧ Keep F w w'

set_option maxRecDepth 20000 in
set_option maxHeartbeats 1000000 in
theorem rest_any (w : World) (b : Nat) (F : Nat → Prop) (g : Lg) (hL : LogAt w b F g) :
    Calls Try.prog 14 #[.pointer (some ⟨b, 0, none⟩)] w fun e w' => Rests w b F (RM.rest 300 g) e w' := by
  obtain ⟨all, hall⟩ : ∃ z, z = RM.rest 300 g := ⟨_, rfl⟩
  rw [← hall]
  have HL := hid (And.intro hL hall)
  have Hlt := hid (show ∀ k, F k → k < w.heap.size by obtain ⟨_, _, hI⟩ := hL; exact hI.lt)
  clear hL hall
  go_enter Try.func14, Try.ntmps14
  go_wp2_with (at_builtin; refine stopAt ?_; intro q hq)
  go_loopw [3, 4] (fun ov iv wr => ∃ i n : Nat, i ≤ 300 ∧ n ≤ i ∧ iv = .int .i64 i ∧ Hid (RestRel w b F (300 - i) ov n all wr)) (fun _ iv _ => 300 - (intOf iv).toNat)
  case atStart => exact ⟨0, 0, by omega, Nat.le_refl _, rfl, hid ⟨⟨[], [], g, EntsIs.nil _ _, HL.out.1, by rw [HL.out.2]; rfl, by rw [HL.out.2], rfl⟩, Keep.refl _ _⟩⟩
  case round =>
    obtain ⟨i, n, hi, hni, rfl, HR⟩ := hrel
    obtain ⟨es, us, g, hE, hL, hs1, hs2, hn⟩ := HR.out.ex
    subst hn
    obtain ⟨ao2, c2, rfl, -⟩ := hE.row.form
    by_cases hlt : i < 300
    · have h4 : (i : Int) < 300 := by omega
      have HX := hid (And.intro hE (And.intro hs1 hs2))
      have HLL := hid hL
      clear hE hL hs1 hs2
      go_wp2_with (at_builtin; refine stopAt ?_; intro q hq)
      refine (apply_any wr b F g HLL.out).mono ?_
      rintro e w2 ⟨hap, hL2, hk2⟩
      cases hq : (RM.apply g).1 with
      | none =>
        rw [hq] at hap
        change e = _ at hap
        subst hap
        have HY := hid (And.intro hL2 (And.intro hk2 hq))
        clear hL2 hk2 hq
        go_wp2_with (at_builtin; refine stopAt ?_; intro q hq)
        go_ret
        obtain ⟨h1, h3, h4⟩ := HX.out
        obtain ⟨hL2, hk2, hq⟩ := HY.out
        have kA : Keep (fun _ => False) w2 (w2.alloc (.cells #[.int .u64 0, .slice none 0 0] 32)) := (Keep.refl _ _).alloc _
        rw [RM.rest_none hq] at h3 h4
        rw [RM.apply_none hq] at hL2
        refine ⟨_, us, by rfl, ?_, h4 ▸ hL2.keep kA (fun _ _ x => x), (HR.out.keep.next hk2 (fun _ _ x => x) (fun _ _ x => x)).next kA (fun _ _ x => x) (fun _ _ x => x.elim)⟩
        rw [← h3, List.append_nil]
        exact (h1.keep hk2 fun k e x => by have := Hlt.out k x; omega).keep kA (fun _ _ x => x)
      | some x =>
        rw [hq] at hap
        obtain ⟨ao, c, rfl, hr, hf⟩ := hap
        obtain ⟨xs, hxs⟩ : ∃ z, z = x.1 := ⟨_, rfl⟩
        obtain ⟨xn, hxn⟩ : ∃ z, z = x.2.length := ⟨_, rfl⟩
        have HY := hid (And.intro hL2 (And.intro hk2 (And.intro hq (And.intro hr hf))))
        have Hxx := hid (And.intro hxs hxn)
        rw [← hxs, ← hxn]
        clear hL2 hk2 hq hr hf hxs hxn
        go_wp2_with (at_builtin; refine stopAt ?_; intro q hq)
        (refine hq.out ?_; clear hq q)
        obtain ⟨hL2, hk2, hq, hr4, hf4⟩ := HY.out
        obtain ⟨hE, hs1, hs2⟩ := HX.out
        have kB : Keep (fun _ => False) w2 (w2.alloc (.cells #[.int .u64 (xs : Nat), .slice ao xn c] 32)) := (Keep.refl _ _).alloc _
        have zB : (w2.alloc (.cells #[.int .u64 (xs : Nat), .slice ao xn c] 32)).heap.size = w2.heap.size + 1 := by simp
        obtain ⟨wB, hwB⟩ : ∃ wB, wB = w2.alloc (.cells #[.int .u64 (xs : Nat), .slice ao xn c] 32) := ⟨_, rfl⟩
        rw [← hwB] at kB zB ⊢
        have hG := heap_alloc_new wB (.cells #[.int .u64 (xs : Nat), .slice ao xn c] 32)
        have kG : Keep (fun _ => False) wB (wB.alloc (.cells #[.int .u64 (xs : Nat), .slice ao xn c] 32)) := (Keep.refl _ _).alloc _
        obtain ⟨w5, hw5⟩ : ∃ w5, w5 = wB.alloc (.cells #[.int .u64 (xs : Nat), .slice ao xn c] 32) := ⟨_, rfl⟩
        rw [← hw5, zB] at hG
        rw [← hw5] at kG ⊢
        have hnF : ∀ k, k < wr.heap.size → w.heap.size ≤ k → ¬ F k := fun k _ e x => by have := Hlt.out k x; omega
        have hev : Cells w5 (some ⟨w2.heap.size + 1, 0, none⟩) 1 2 (entV (xs, .slice ao xn c)) := ⟨rfl, fun _ => ⟨_, rfl, fun j u hu => by rw [addr_add, Nat.zero_add, cell_of_row _ _ _ _ _ _ hG]; simpa [entV] using hu⟩⟩
        have hE2 := hE.keep hk2 fun k e x => by have := Hlt.out k x; omega
        have hr5 := (hE2.row.keep kB fun _ _ x => x).keep kG fun _ _ x => x
        refine wpList_plain rfl (fun K hK => ?_)
        refine wp_append (v := .slice ao2 es.length c2) ty_ents (.tmp 19) (.tmp 21) rfl rfl hr5 (some ⟨w2.heap.size + 1, 0, none⟩) 1 1 (entV (xs, .slice ao xn c)) rfl hev (one_ents (us := [(xs, .slice ao xn c)]) (fun e he => by rw [List.mem_singleton] at he; subst he; exact ⟨_, _, _, rfl⟩)) (by unfold maxLen; omega) (by omega) ?_
        intro v6 w6 hr6 hk6 hv6
        refine hK _ _ ?_
        clear hK K
        have k25 := kB.next kG (fun _ _ x => x : ∀ i, i < w2.heap.size → False → False) (fun _ _ x => x)
        have hS : EntsIs w6 v6 (es ++ [x]) (us ++ [(x.1, .slice ao x.2.length c)]) (fun k => w.heap.size ≤ k) := by
          obtain ⟨h1, h2⟩ := Hxx.out
          rw [h1, h2] at hr6
          refine (EntsIs.snoc hE hk2 hnF x hr4 hf4 k25 hk6 hr6 fun k e => ?_).mono fun k _ y => y.elim id fun z => Nat.le_trans HR.out.keep.size z
          rcases hv6 with ⟨y, z⟩ | ⟨k', y, z⟩
          · exact absurd z (by omega)
          · rw [e] at y
            cases y
            exact z.imp id fun q => Nat.le_of_eq q.symm
        have k26 : Keep F w w6 := ((HR.out.keep.next hk2 (fun _ _ x => x) (fun _ _ x => x)).next k25 (fun _ _ x => x) (fun _ _ x => x.elim)).next hk6 (fun _ _ x => x) (fun k hk y => by have := hE.own k y; omega)
        have HRS := hid (show RestRel w b F (300 - (i + 1)) v6 (es.length + 1) all w6 from ⟨⟨es ++ [x], _, (RM.apply g).2, hS, (hL2.keep k25 fun _ _ x => x).keep hk6 fun k e y => by have := hE.own k y; have := Hlt.out k e; omega, by
          rw [show 300 - i = (300 - (i + 1)) + 1 by omega, RM.rest_some hq] at hs1
          rw [← hs1, List.append_assoc]
          rfl, by
          rw [show 300 - i = (300 - (i + 1)) + 1 by omega, RM.rest_some hq] at hs2
          exact hs2, by simp⟩, k26⟩)
        obtain ⟨ao6, c6, rfl, -⟩ := hr6.form
        clear hS hr6 hk6 hv6 hr5 hev hG kG hw5 kB zB hwB hL2 hk2 hq hr4 hf4 hE hs1 hs2 hE2 hnF k25 k26
        go_wp2_with (at_builtin; refine stopAt ?_; intro q hq)
        exact ⟨⟨i + 1, es.length + 1, by omega, by omega, by go_num, HRS⟩, by simp [intOf]; omega⟩
    · have t2 : decide ((i : Int) < 300) = false := by simp; omega
      obtain rfl : i = 300 := by omega
      have HX := hid (And.intro hE (And.intro hL (And.intro hs1 hs2)))
      clear hE hL hs1 hs2
      go_wp2_with (at_builtin; refine stopAt ?_; intro q hq)
      go_ret
      obtain ⟨h1, h2, h3, h4⟩ := HX.out
      refine ⟨_, us, by rfl, ?_, h4 ▸ h2, HR.out.keep⟩
      rw [← h3, show RM.rest (300 - 300) g = ([], g) from rfl, List.append_nil]
      exact h1
end Go.Proofs.Ytnignhfallhblaa
