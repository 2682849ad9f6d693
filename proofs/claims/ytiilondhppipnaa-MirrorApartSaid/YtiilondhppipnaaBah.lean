/- Texts MirA, MirB, MirC, MirD, MirE, MirF, MirG, MirH, MirI, MirJ, MirK, MirL, MirN, MirP, MirQ, MirS, MirT, MirU, MirV in one. Conditions: as each law names them. -/
import Derived.WalkKit
import Derived.WalkLawsBesides
import Derived.WalkSpells
import Derived.BigQuiet
import Derived.Carry
import Derived.Test.YtiilondhppipnaaBaa
import Derived.Test.YtiilondhppipnaaBab
import Derived.Test.YtiilondhppipnaaBac
import Derived.Test.YtiilondhppipnaaBad
import Derived.Test.YtiilondhppipnaaBae
import Derived.Test.YtiilondhppipnaaBaf
/- Mirror: maps keyed by strings and by numbers; sorted: a map's keys, rising. Conditions: as each law names them. -/
namespace Go.Proofs.Ytiilondhppipnaa
open Go.RowKit
open Go.Maps
open MI

theorem key_str : KeyK 9 (fun s : Str => Lit.string s) (fun s => Value.string (str s)) (fun s => s.length ≤ maxLen) where
  keyed := string_keyed Try.underlying9
  inj := fun x y h => by cases h; rfl
  lit := fun _ => trivial
  key := fun x h => by
    have := WideMaps.keyOf_string_mk (P := Try.prog) Try.underlying9 (s := str x) (by rw [str_size]; exact h)
    simpa [str] using this
theorem key_str_inv (v : Value) (x : Str) (h : keyOf Try.prog 9 v = some (Lit.string x)) : v = .string (str x) := by
  cases v <;> simp [keyOf, mapKey, Try.underlying9] at h
  rename_i s
  obtain ⟨_, h⟩ := h
  rw [← h]
  rfl
theorem key_u64 : KeyK 26 (fun n : Nat => Lit.int .u64 n) (fun n => Value.int .u64 (n : Int)) (fun n => n < 18446744073709551616) where
  keyed := int_keyed Try.underlying26
  inj := fun x y h => by simp at h; omega
  lit := fun _ => trivial
  key := fun x h => keyOf_int_mk Try.underlying26 (by simp [Lit.wf, IntKind.min, IntKind.max, IntKind.signed, IntKind.bits]; omega)

/-- A pairs' map's element. -/
def textV (s : Str) : Value := .agg #[.string (str s)]
def PairsAt (w : World) (b : Nat) (m : List (Str × Str)) : Prop := MapAt w b 9 (fun s : Str => Lit.string s) textV m

theorem ty_strs : SliceTy Try.prog 80 9 (.string { data := #[] }) 1 16 := ⟨by kernel_rfl, by kernel_rfl, rfl, by decide⟩
theorem strsV_oneCell (l : List (List UInt8)) : ∀ u ∈ strsV l, u.oneCell' = true := by
  intro u hu
  obtain ⟨z, _, rfl⟩ := List.mem_map.1 hu
  rfl

structure SortedRel (w1 : World) (b r : Nat) (m : List (Str × Str)) (done : List Str) (v : Value) (wr : World) : Prop where
  rg : RangeAt wr b r 9 (fun s : Str => Lit.string s) textV m done
  keep : Keep (fun i => i = r) w1 wr
  row : Row wr 9 1 v done.length (strsV done)
  own : ∀ i, v.ownBlock = some i → w1.heap.size ≤ i

theorem done_len : ∀ {done : List Str} {m : List (Str × Str)}, AL.Ok m → done.Nodup → (∀ x ∈ done, (AL.get m x).isSome = true) → done.length ≤ m.length
  | [], _, _, _, _ => Nat.zero_le _
  | x :: done, m, hm, hn, h => by
    have hn' := List.nodup_cons.1 hn
    have h1 := done_len (m := AL.del m x) (hm.del x) hn'.2 (fun y hy => by
      rw [AL.get_del_other m (x := x) (y := y) (fun e => hn'.1 (by rw [← e]; exact hy))]
      exact h y (List.mem_cons_of_mem _ hy))
    have h2 := AL.del_length hm x
    rw [if_pos (h x (by simp))] at h2
    rw [List.length_cons]
    omega

set_option maxRecDepth 20000 in
theorem sorted_any (w : World) (b : Nat) (m : List (Str × Str)) (h : PairsAt w b m) (hm : m.length ≤ 1000000) :
    Calls Try.prog 37 #[.map (some b)] w fun e w' => ∃ v ks, e = .returned v ∧ Row w' 9 1 v ks.length (strsV ks) ∧ (ks.Pairwise fun a b => a < b) ∧ (∀ x, x ∈ ks ↔ (AL.get m x).isSome = true) ∧ Keep (fun _ => False) w w' ∧ (∀ i, v.ownBlock = some i → w.heap.size ≤ i) := by
  obtain ⟨w1, hrange, hR1, hk1⟩ := MapAt.range h key_str.keyed (t := 74) Try.underlying74
  obtain ⟨r, hr⟩ : ∃ r, r = w.heap.size := ⟨_, rfl⟩
  rw [← hr] at hrange hR1
  have HR1 := hid (And.intro hR1 (And.intro hk1 hr))
  clear hR1 hk1 hr
  go_enter Try.func37, Try.ntmps37
  go_wp2_with (at_builtin; refine stopAt ?_; intro q hq)
  go_loopw [3] (fun v wr => ∃ done, Hid (SortedRel w1 b r m done v wr)) (fun _ wr => wr.rangeLeft b r)
  case atStart => exact ⟨[], hid ⟨HR1.out.1, Keep.refl _ _, Row.nil _ _ _, fun i e => by simp [Value.ownBlock] at e⟩⟩
  case round =>
    obtain ⟨done, HS⟩ := hrel
    obtain ⟨ao, cap, hv, hcap, hmax, -⟩ := HS.out.row.form
    subst hv
    have hdl : done.length ≤ m.length := done_len HS.out.rg.1 HS.out.rg.2.1 HS.out.rg.2.2.1
    obtain ⟨n, hn⟩ : ∃ n, n = done.length := ⟨_, rfl⟩
    rw [← hn] at hcap hdl HS ⊢
    have HN := hid hn
    clear hn
    rcases HS.out.rg.next key_str key_str_inv 0 with ⟨hall, hnext⟩ | ⟨x, u, w2, hx, hu, hnext, hR2, hk2, hlt, hen⟩
    · have Hall := hid hall
      clear hall
      go_wp2_with (at_builtin; refine stopAt ?_; intro q hq)
      refine (sort_strs wr (.slice ao n cap) done (by have := HS.out.row; rw [← HN.out] at this ⊢; exact this) (by rw [← HN.out]; omega)).mono ?_
      rintro e w5 ⟨rfl, hr5, hk5⟩
      have HR5 := hid (And.intro hr5 hk5)
      clear hr5 hk5
      go_wp2_with (at_builtin; refine stopAt ?_; intro q hq)
      go_ret
      obtain ⟨hr5, hk5⟩ := HR5.out
      have hown := HS.out.own
      have hperm := List.mergeSort_perm done fun x y => decide (x ≤ y)
      have hle : (done.mergeSort fun x y => decide (x ≤ y)).Pairwise fun x y => decide (x ≤ y) = true := List.pairwise_mergeSort (fun a b c h1 h2 => by simp at *; exact List.le_trans h1 h2) (fun a b => by simp; exact List.le_total a b) done
      have hlen : (done.mergeSort fun x y => decide (x ≤ y)).length = n := by rw [List.length_mergeSort, HN.out]
      refine ⟨.slice ao n cap, done.mergeSort fun x y => decide (x ≤ y), rfl, by rw [hlen]; rw [← HN.out] at hr5; exact hr5, ?_, fun x => ?_, ?_, fun i e => Nat.le_trans HR1.out.2.1.size (hown i e)⟩
      · refine (hle.and (hperm.nodup_iff.2 HS.out.rg.2.1)).imp fun {x y} h => ?_
        rcases str_tri x y with h1 | h1 | h1
        · exact h1
        · exact absurd h1 h.2
        · have := h.1
          simp at this
          exact absurd h1 (List.not_lt.2 this)
      · rw [hperm.mem_iff]
        exact Hall.out x
      · exact (HR1.out.2.1.next HS.out.keep (fun _ _ x => x) (fun j hj x => by have := HR1.out.2.2; omega)).next hk5 (fun _ _ x => x) (fun j hj x => by have := hown j x; have := HR1.out.2.1.size; omega)
    · have HX := hid (And.intro hx (And.intro hu (And.intro hR2 (And.intro hk2 hlt))))
      clear hx hu hR2 hk2 hlt
      go_wp2_with (at_builtin; refine stopAt ?_; intro q hq)
      (refine hq.out ?_; clear hq q)
      have hn7 := heap_alloc_new w2 (.cells #[.string (str x)] 9)
      have hk7 : Keep (fun _ => False) w2 (w2.alloc (.cells #[.string (str x)] 9)) := (Keep.refl _ _).alloc _
      obtain ⟨w7, hw7⟩ : ∃ w7, w7 = w2.alloc (.cells #[.string (str x)] 9) := ⟨_, rfl⟩
      rw [← hw7] at hn7 hk7 ⊢
      clear hw7
      obtain ⟨hx, hu, hR2, hk2, hlt⟩ := HX.out
      have hrr : r < w1.heap.size := HR1.out.1.lt
      have hown := HS.out.own
      have hrow2 := HS.out.row.keep hk2 (fun i e x => by have := hown i e; omega)
      refine wpList_plain rfl (fun K hK => ?_)
      refine wp_append ty_strs (.tmp 11) (.tmp 13) rfl rfl (hrow2.keep hk7 (fun _ _ x => x)) (some ⟨w2.heap.size, 0, none⟩) 1 1 [.string (str x)] (by rfl)
        ⟨rfl, fun _ => ⟨_, rfl, fun t u hu => by rw [addr_add, Nat.zero_add, cell_of_row _ _ _ _ _ _ hn7]; simpa using hu⟩⟩ (strsV_oneCell [x]) (by rw [← HN.out]; unfold maxLen; omega) (by rw [← HN.out]; omega) ?_
      intro v8 w8 hr8 hk8 hv8
      refine hK _ _ ?_
      clear hK K
      have hsz := HS.out.keep.size
      have hsz2 := hk2.size
      have hsz7 := hk7.size
      have hb := HR1.out.1.mapAt.lt
      have hR8 : RangeAt w8 b r 9 (fun s : Str => Lit.string s) textV m (done ++ [x]) := (hR2.keep hk7 (fun x => x) (fun x => x)).keep hk8 (fun x => by have := hown _ x; omega) (fun x => by have := hown _ x; omega)
      have HS8 := hid (SortedRel.mk (w1 := w1) (b := b) (r := r) (m := m) (done := done ++ [x]) (v := v8) (wr := w8) hR8
        (((HS.out.keep.next hk2 (fun _ _ x => x) (fun _ _ x => x)).next hk7 (fun _ _ x => x) (fun _ _ x => x.elim)).next hk8 (fun _ _ x => x) (fun j hj x => absurd (hown j x) (by omega)))
        (by simpa [strsV, encStr, str] using hr8)
        (fun i e => by
          rcases hv8 with ⟨_, h0⟩ | ⟨b', h1, h2⟩
          · omega
          · rw [e] at h1
            cases h1
            rcases h2 with h2 | h2
            · exact hown _ h2
            · omega))
      have hms : w8.rangeLeft b r < wr.rangeLeft b r := by
        have : w8.rangeLeft b r = w2.rangeLeft b r := by
          have h1 : w8.heap[b]? = w2.heap[b]? := (hk8.block b (by omega) (fun x => by have := hown _ x; omega)).trans (hk7.block b (by omega) id)
          have h2 : w8.heap[r]? = w2.heap[r]? := (hk8.block r (by omega) (fun x => by have := hown _ x; omega)).trans (hk7.block r (by omega) id)
          simp only [World.rangeLeft, h1, h2]
        rw [this]
        exact hlt
      have HM := hid hms
      clear hr8 hk8 hv8 hn7 hk7 hR8 hms hx hu hR2 hk2 hlt hrr hown hrow2 hsz hsz2 hsz7 hb HX
      go_wp2_with (at_builtin; refine stopAt ?_; intro q hq)
      go_roundw
      case rel => exact ⟨_, HS8⟩
      case measure => exact HM.out
end Go.Proofs.Ytiilondhppipnaa
/- Mirror: may it be a change, an item: store.Right and the document's. Conditions: as each contract names them. -/
namespace Go.Proofs.Ytiilondhppipnaa
open Go.RowKit
open MI

/-- A change's cells; an item's. -/
def chV (c : Ch) : List Value := [.string (str c.key), .string (str c.value), .bool c.gone]
def itV (i : It) : List Value := [.int .u64 (i.seq : Int), .bool i.mark, .string (str i.ch.key), .string (str i.ch.value), .bool i.ch.gone]

set_option maxRecDepth 20000 in
theorem right_one (w : World) (g cap : Nat) (c : Ch) (h0 : w.cell? ⟨g, 0, none⟩ = some (.string (str c.key))) (h1 : w.cell? ⟨g, 1, none⟩ = some (.string (str c.value))) (h2 : w.cell? ⟨g, 2, none⟩ = some (.bool c.gone)) :
    Calls Try.prog 40 #[.slice (some ⟨g, 0, none⟩) 1 cap] w fun e w' => e = .returned (.int .i64 (if rightC c then 0 else 2)) ∧ Keep (fun _ => False) w w' := by
  obtain ⟨key, value, gone⟩ := c
  simp only at h0 h1 h2
  obtain ⟨E, hE⟩ : ∃ E : Int, E = if rightC ⟨key, value, gone⟩ then 0 else 2 := ⟨_, rfl⟩
  rw [← hE]
  have HE := hid hE
  clear hE
  go_enter Try.func40, Try.ntmps40
  go_wp2_with (at_builtin; refine stopAt ?_; intro q hq)
  refine wp_loop_rounds 2 ?_
  rw [rounds_succ]
  go_wp2_with (at_builtin; refine stopAt ?_; intro q hq)
  all_goals try rw [rounds_succ]
  all_goals try go_wp2_with (at_builtin; refine stopAt ?_; intro q hq)
  all_goals go_ret
  all_goals refine ⟨?_, (Keep.refl _ _).alloc _⟩
  all_goals
    clear h0 h1 h2
    rw [HE.out]
    clear HE
    simp only [str_toList, str_size] at *
    simp_all [rightC]
  all_goals
    have hp : 1 ≤ key.length := by rcases key with _ | ⟨x, l⟩ <;> simp_all
    by_cases hv : value = []
    · simp_all <;> omega
    · simp_all <;> omega
set_option maxRecDepth 20000 in
theorem rright_one (w : World) (g cap : Nat) (c : Ch) (h0 : w.cell? ⟨g, 0, none⟩ = some (.string (str c.key))) (h1 : w.cell? ⟨g, 1, none⟩ = some (.string (str c.value))) (h2 : w.cell? ⟨g, 2, none⟩ = some (.bool c.gone)) :
    Calls Try.prog 39 #[.slice (some ⟨g, 0, none⟩) 1 cap] w fun e w' => e = .returned (.int .i64 (if rightC c then 0 else 2)) ∧ Keep (fun _ => False) w w' := by
  obtain ⟨key, value, gone⟩ := c
  simp only at h0 h1 h2
  obtain ⟨E, hE⟩ : ∃ E : Int, E = if rightC ⟨key, value, gone⟩ then 0 else 2 := ⟨_, rfl⟩
  rw [← hE]
  have HE := hid hE
  clear hE
  go_enter Try.func39, Try.ntmps39
  go_wp2_with (at_builtin; refine stopAt ?_; intro q hq)
  refine wp_loop_rounds 2 ?_
  rw [rounds_succ]
  go_wp2_with (at_builtin; refine stopAt ?_; intro q hq)
  all_goals try rw [rounds_succ]
  all_goals try go_wp2_with (at_builtin; refine stopAt ?_; intro q hq)
  all_goals go_ret
  all_goals refine ⟨?_, (Keep.refl _ _).alloc _⟩
  all_goals
    clear h0 h1 h2
    rw [HE.out]
    clear HE
    simp only [str_size] at *
    simp_all [rightC]
  all_goals rcases key with _ | ⟨x, l⟩ <;> rcases value with _ | ⟨y, m⟩ <;> simp_all <;> omega

/-- An item's value. -/
def itVal (i : It) : Value := .agg #[.int .u64 (i.seq : Int), .bool i.mark, .string (str i.ch.key), .string (str i.ch.value), .bool i.ch.gone]

set_option maxRecDepth 20000 in
theorem iright_any (w : World) (i : It) :
    Calls Try.prog 34 #[itVal i] w fun e w' => e = .returned (.bool (rightI i)) ∧ Keep (fun _ => False) w w' := by
  obtain ⟨seq, mark, key, value, gone⟩ := i
  unfold itVal
  simp only
  obtain ⟨E, hE⟩ : ∃ E, E = rightI ⟨seq, mark, key, value, gone⟩ := ⟨_, rfl⟩
  rw [← hE]
  have HE := hid hE
  clear hE
  cases mark with
  | true =>
    go_enter Try.func34, Try.ntmps34
    go_wp2_with (at_builtin; refine stopAt ?_; intro q hq)
    all_goals go_ret
    all_goals refine ⟨?_, (Keep.refl _ _).alloc _⟩
    all_goals
      rw [HE.out]
      clear HE
      simp only [str_toList] at *
      simp_all [rightI, Ch.zero]
  | false =>
    rcases Nat.eq_zero_or_pos seq with h0 | h0
    · subst h0
      go_enter Try.func34, Try.ntmps34
      go_wp2_with (at_builtin; refine stopAt ?_; intro q hq)
      go_ret
      refine ⟨?_, (Keep.refl _ _).alloc _⟩
      rw [HE.out]
      simp [rightI]
    · have h1 : (0 : Int) < (seq : Int) := by omega
      go_enter Try.func34, Try.ntmps34
      go_wp2_with (at_builtin; refine stopAt ?_; intro q hq)
      obtain ⟨wa, hwa⟩ : ∃ wa, wa = w.alloc (.cells #[.int .u64 (seq : Int), .bool false, .string (str key), .string (str value), .bool gone] 33) := ⟨_, rfl⟩
      have hka : Keep (fun _ => False) w wa := by rw [hwa]; exact (Keep.refl _ _).alloc _
      have hsa : wa.heap.size = w.heap.size + 1 := by rw [hwa]; exact Array.size_push _
      rw [← hwa]
      clear hwa
      have hnb := heap_alloc_new wa (.cells #[.string (str key), .string (str value), .bool gone] 31)
      have hkb : Keep (fun _ => False) w (wa.alloc (.cells #[.string (str key), .string (str value), .bool gone] 31)) := hka.alloc _
      rw [hsa] at hnb
      obtain ⟨wb, hwb⟩ : ∃ wb, wb = wa.alloc (.cells #[.string (str key), .string (str value), .bool gone] 31) := ⟨_, rfl⟩
      rw [← hwb] at hnb hkb ⊢
      clear hwb hka hsa
      have hres := right_one wb (w.heap.size + 1) 1 ⟨key, value, gone⟩ (cell_of_row _ _ 0 _ _ _ hnb) (cell_of_row _ _ 1 _ _ _ hnb) (cell_of_row _ _ 2 _ _ _ hnb)
      have HEE := HE.out
      simp only [rightI] at HEE
      clear hnb
      cases hr : rightC ⟨key, value, gone⟩ with
      | true =>
        rw [hr] at hres HEE
        simp only [if_true, h0, decide_true] at hres HEE
        refine hres.mono ?_
        rintro e w5 ⟨rfl, hk5⟩
        have HK := hid (hkb.next hk5 (fun _ _ x => x) (fun _ _ x => x))
        have HE2 := hid HEE
        clear hres hr hk5 HEE hkb
        go_wp2_with (at_builtin; refine stopAt ?_; intro q hq)
        go_ret
        exact ⟨by rw [HE2.out]; simp, HK.out⟩
      | false =>
        rw [hr] at hres HEE
        simp only [h0, decide_true] at hres HEE
        refine hres.mono ?_
        rintro e w5 ⟨rfl, hk5⟩
        have HK := hid (hkb.next hk5 (fun _ _ x => x) (fun _ _ x => x))
        have HE2 := hid HEE
        clear hres hr hk5 HEE hkb
        go_wp2_with (at_builtin; refine stopAt ?_; intro q hq)
        go_ret
        exact ⟨by rw [HE2.out]; simp, HK.out⟩
end Go.Proofs.Ytiilondhppipnaa
/- Mirror: the document's Right of an item. Conditions: as the contract names them. -/
namespace Go.Proofs.Ytiilondhppipnaa
open Go.RowKit
open MI

theorem cells5i {w : World} {b : Nat} {T : TypeId} {a0 a1 a2 a3 a4 : Value} (H : w.heap[b]? = some (.cells #[a0, a1, a2, a3, a4] T (0, 0))) :
    w.cell? ⟨b, 0, none⟩ = some a0 ∧ w.cell? ⟨b, 1, none⟩ = some a1 ∧ w.cell? ⟨b, 2, none⟩ = some a2 ∧ w.cell? ⟨b, 3, none⟩ = some a3 ∧ w.cell? ⟨b, 4, none⟩ = some a4 ∧ (∀ o, w.frozen? ⟨b, o, none⟩ = false) ∧ b < w.heap.size := by
  refine ⟨?_, ?_, ?_, ?_, ?_, ?_, heap_lt H⟩ <;> simp [World.cell?, World.frozen?, H]

set_option maxRecDepth 20000 in
theorem rrightI_any (w : World) (i : It) :
    Calls Try.prog 23 #[itVal i] w fun e w' => e = .returned (.bool (rightI i)) ∧ Keep (fun _ => False) w w' := by
  obtain ⟨seq, mark, key, value, gone⟩ := i
  unfold itVal
  simp only
  obtain ⟨E, hE⟩ : ∃ E, E = rightI ⟨seq, mark, key, value, gone⟩ := ⟨_, rfl⟩
  rw [← hE]
  have HE := hid hE
  clear hE
  go_enter Try.func23, Try.ntmps23
  go_wp2_with (at_builtin; refine stopAt ?_; intro q hq)
  have hna := heap_alloc_new w (.cells #[.int .u64 (seq : Int), .bool mark, .string (str key), .string (str value), .bool gone] 33)
  obtain ⟨wa, hwa⟩ : ∃ wa, wa = w.alloc (.cells #[.int .u64 (seq : Int), .bool mark, .string (str key), .string (str value), .bool gone] 33) := ⟨_, rfl⟩
  have hka : Keep (fun _ => False) w wa := by rw [hwa]; exact (Keep.refl _ _).alloc _
  have hsa : wa.heap.size = w.heap.size + 1 := by rw [hwa]; exact Array.size_push _
  rw [← hwa] at hna ⊢
  clear hwa
  have hnb := heap_alloc_new wa (.cells #[.string (str key), .string (str value), .bool gone] 31)
  have hkb : Keep (fun _ => False) wa (wa.alloc (.cells #[.string (str key), .string (str value), .bool gone] 31)) := (Keep.refl _ _).alloc _
  rw [hsa] at hnb
  obtain ⟨wb, hwb⟩ : ∃ wb, wb = wa.alloc (.cells #[.string (str key), .string (str value), .bool gone] 31) := ⟨_, rfl⟩
  rw [← hwb] at hnb hkb ⊢
  clear hwb
  refine (rright_one wb (w.heap.size + 1) 1 ⟨key, value, gone⟩ (cell_of_row _ _ 0 _ _ _ hnb) (cell_of_row _ _ 1 _ _ _ hnb) (cell_of_row _ _ 2 _ _ _ hnb)).mono ?_
  rintro e w5 ⟨rfl, hk5⟩
  obtain ⟨i0, i1, i2, i3, i4, if1, ib1⟩ := cells5i ((hkb.next hk5 (fun _ _ x => x) (fun _ _ x => x)).get hna id)
  have HK := hid (hka.next (hkb.next hk5 (fun _ _ x => x) (fun _ _ x => x)) (fun _ _ x => x) (fun _ _ x => x))
  obtain ⟨R, hR⟩ : ∃ R : Int, R = if rightC ⟨key, value, gone⟩ then 0 else 2 := ⟨_, rfl⟩
  rw [← hR]
  have HR := hid hR
  clear hR hna hka hsa hnb hkb hk5
  rcases Nat.eq_zero_or_pos seq with h0 | h0
  · subst h0
    go_wp2_with (at_builtin; refine stopAt ?_; intro q hq)
    all_goals go_ret
    all_goals refine ⟨?_, HK.out⟩
    all_goals
      rw [HE.out]
      simp [rightI]
  · have t1 : ((seq : Int) == 0) = false := by simp; omega
    have t2 : decide (seq = 0) = false := by simp; omega
    cases mark with
    | true =>
      go_wp2_with (at_builtin; refine stopAt ?_; intro q hq)
      all_goals go_ret
      all_goals refine ⟨?_, HK.out⟩
      all_goals
        rw [HE.out]
        clear HE HR HK i0 i1 i2 i3 i4 if1 ib1
        simp only [str_toList] at *
        simp_all [rightI, Ch.zero]
    | false =>
      go_wp2_with (at_builtin; refine stopAt ?_; intro q hq)
      all_goals go_ret
      all_goals refine ⟨?_, HK.out⟩
      all_goals
        rw [HE.out, HR.out]
        simp only [rightI, h0, decide_true, Bool.true_and]
        cases rightC ⟨key, value, gone⟩ <;> simp
end Go.Proofs.Ytiilondhppipnaa
/- Mirror: the program's source: Last, add. Conditions: as each contract names them. -/
namespace Go.Proofs.Ytiilondhppipnaa
open Go.RowKit
open MI

def itsV (l : List It) : List Value := l.flatMap itV
theorem itsV_length (l : List It) : (itsV l).length = l.length * 5 := by
  induction l with
  | nil => rfl
  | cons p l ih => simp only [itsV, List.flatMap_cons, List.length_append, List.length_cons] at *; rw [ih]; simp [itV]; omega
theorem itsV_append (l m : List It) : itsV (l ++ m) = itsV l ++ itsV m := by simp [itsV]
theorem itsV_one (p : It) : itsV [p] = itV p := by simp [itsV]
theorem itV_oneCell (p : It) : ∀ u ∈ itV p, u.oneCell' = true := by
  intro u hu
  simp only [itV, List.mem_cons, List.not_mem_nil, or_false] at hu
  rcases hu with rfl | rfl | rfl | rfl | rfl <;> rfl
theorem itsV_get (l : List It) (i : Nat) (hi : i < l.length) (j : Nat) (hj : j < 5) : (itsV l)[i * 5 + j]? = (itV l[i])[j]? := by
  have e : l = l.take i ++ [l[i]] ++ l.drop (i + 1) := by simp
  have hl : (itsV (l.take i)).length = i * 5 := by rw [itsV_length, List.length_take]; omega
  conv => lhs; rw [e]
  rw [itsV_append, itsV_append, List.append_assoc, List.getElem?_append_right (by omega), hl, itsV_one, show i * 5 + j - i * 5 = j by omega]
  rw [List.getElem?_append_left (by simp [itV]; omega)]
def itZero : Value := .agg #[.int .u64 0, .bool false, .string { data := #[] }, .string { data := #[] }, .bool false]
theorem ty_items : SliceTy Try.prog 22 33 itZero 5 56 := ⟨by kernel_rfl, by kernel_rfl, rfl, by decide⟩

/-- A source in memory. -/
structure SrcIs (w : World) (b : Nat) (F : Nat → Prop) (s : Src) (v : Value) : Prop where
  head : w.heap[b]? = some (.cells #[.int .u64 (s.gone : Int), v] 87 (0, 0))
  row : Row w 33 5 v s.l.length (itsV s.l)
  self : F b
  foot : ∀ k, v.ownBlock = some k → F k ∧ k ≠ b
  lt : ∀ k, F k → k < w.heap.size
def SrcAt (w : World) (b : Nat) (F : Nat → Prop) (s : Src) : Prop := ∃ v, SrcIs w b F s v
def SrcTo (b : Nat) (F : Nat → Prop) (w : World) (s' : Src) (w' : World) : Prop := ∃ F', SrcAt w' b F' s' ∧ Keep F w w' ∧ ∀ k, F' k → F k ∨ w.heap.size ≤ k

theorem SrcIs.keep {w w' : World} {b : Nat} {F K : Nat → Prop} {s : Src} {v : Value} (H : SrcIs w b F s v) (hk : Keep K w w') (hn : ∀ k, F k → ¬ K k) : SrcIs w' b F s v :=
  ⟨hk.get H.head (hn _ H.self), H.row.keep hk (fun k e => hn k (H.foot k e).1), H.self, H.foot, fun k x => Nat.lt_of_lt_of_le (H.lt k x) hk.size⟩
theorem SrcAt.keep {w w' : World} {b : Nat} {F K : Nat → Prop} {s : Src} (H : SrcAt w b F s) (hk : Keep K w w') (hn : ∀ k, F k → ¬ K k) : SrcAt w' b F s := let ⟨v, h⟩ := H; ⟨v, h.keep hk hn⟩
theorem SrcAt.later {w w' : World} {b : Nat} {F : Nat → Prop} {s : Src} (H : SrcAt w b F s) (hk : Keep (fun _ => False) w w') : SrcAt w' b F s := H.keep hk (fun _ _ x => x)
theorem SrcAt.to {w : World} {b : Nat} {F : Nat → Prop} {s : Src} (H : SrcAt w b F s) : SrcTo b F w s w := ⟨F, H, Keep.refl _ _, fun _ x => .inl x⟩
theorem SrcTo.since {b : Nat} {F : Nat → Prop} {w w1 w' : World} {s' : Src} (h : SrcTo b F w1 s' w') (hk : Keep (fun _ => False) w w1) : SrcTo b F w s' w' := by
  obtain ⟨F', h1, h2, h3⟩ := h
  exact ⟨F', h1, hk.next h2 (fun _ _ x => x.elim) (fun _ _ x => x), fun k x => (h3 k x).imp id fun y => Nat.le_trans hk.size y⟩
theorem SrcAt.toLater {w w' : World} {b : Nat} {F : Nat → Prop} {s : Src} (H : SrcAt w b F s) (hk : Keep (fun _ => False) w w') : SrcTo b F w s w' := (H.later hk).to.since hk

theorem cells2i {w : World} {b : Nat} {T : TypeId} {a0 a1 : Value} (H : w.heap[b]? = some (.cells #[a0, a1] T (0, 0))) :
    w.cell? ⟨b, 0, none⟩ = some a0 ∧ w.cell? ⟨b, 1, none⟩ = some a1 ∧ (∀ o, w.frozen? ⟨b, o, none⟩ = false) ∧ b < w.heap.size := by
  refine ⟨?_, ?_, ?_, heap_lt H⟩ <;> simp [World.cell?, World.frozen?, H]

set_option maxRecDepth 20000 in
theorem last_any (w : World) (b : Nat) (F : Nat → Prop) (s : Src) (hs : SrcAt w b F s) (h63 : s.last < 9223372036854775808) :
    Calls Try.prog 33 #[.pointer (some ⟨b, 0, none⟩)] w fun e w' => e = .returned (.int .u64 (s.last : Int)) ∧ Keep (fun _ => False) w w' := by
  obtain ⟨v, H⟩ := hs
  obtain ⟨ao, cap, rfl, -⟩ := H.row.form
  obtain ⟨i0, i1, if0, ib0⟩ := cells2i H.head
  obtain ⟨g, l⟩ := s
  unfold Src.last at h63 ⊢
  simp only at i0 i1 h63 ⊢
  obtain ⟨n, hn⟩ : ∃ n, n = l.length := ⟨_, rfl⟩
  rw [← hn] at i1 h63 ⊢
  clear hn H
  go_enter Try.func33, Try.ntmps33
  go_wp2_with (at_builtin; refine stopAt ?_; intro q hq)
  go_quiet (fail)
  go_wp2_with (at_builtin; refine stopAt ?_; intro q hq)
  go_ret
  exact ⟨by rw [Int.natCast_add]; rfl, (Keep.refl _ _).drewN _⟩

set_option maxRecDepth 20000 in
theorem last_nil (w : World) : Calls Try.prog 33 #[.pointer none] w fun e w' => e = .returned (.int .u64 0) ∧ w = w' := by
  go_enter Try.func33, Try.ntmps33
  go_wp2_with (at_builtin; refine stopAt ?_; intro q hq)
  go_ret
  exact ⟨rfl, rfl⟩
end Go.Proofs.Ytiilondhppipnaa
/- Mirror: the program's source: add. Conditions: as the contract names them. -/
namespace Go.Proofs.Ytiilondhppipnaa
open Go.RowKit
open MI

set_option maxRecDepth 20000 in
set_option maxHeartbeats 1000000 in
theorem add_any (w : World) (b : Nat) (F : Nat → Prop) (s : Src) (i : It) (hs : SrcAt w b F s) (h63 : s.last < 4611686018427387904) :
    Calls Try.prog 41 #[.pointer (some ⟨b, 0, none⟩), itVal i] w fun e w' =>
      e = .returned (.tuple #[.int .u64 ((s.add i.ch i.mark).2.1 : Int), .int .i64 ((s.add i.ch i.mark).2.2 : Int)]) ∧ SrcTo b F w (s.add i.ch i.mark).1 w' := by
  obtain ⟨seq, mark, key, value, gone⟩ := i
  unfold itVal
  simp only
  obtain ⟨v, H⟩ := hs
  obtain ⟨ao, cap, rfl, hcap, hmax, -⟩ := H.row.form
  have H0 := hid H
  by_cases hfull : 4096 ≤ s.l.length
  · have hadd : s.add ⟨key, value, gone⟩ mark = (s, 0, 5) := by unfold Src.add; rw [if_pos hfull]
    rw [hadd]
    obtain ⟨i0, i1, if0, ib0⟩ := cells2i H.head
    obtain ⟨n, hn⟩ : ∃ n, n = s.l.length := ⟨_, rfl⟩
    rw [← hn] at i1 hfull H0
    have t1 : decide ((4096 : Int) ≤ (n : Int)) = true := by simp; omega
    clear H hn hadd
    go_enter Try.func41, Try.ntmps41
    go_wp2_with (at_builtin; refine stopAt ?_; intro q hq)
    go_ret2
    exact ⟨rfl, SrcAt.toLater ⟨_, H0.out⟩ ((Keep.refl _ _).alloc _)⟩
  · have hadd : s.add ⟨key, value, gone⟩ mark = (⟨s.gone, s.l ++ [⟨s.last + 1, mark, ⟨key, value, gone⟩⟩]⟩, s.last + 1, 0) := by unfold Src.add; rw [if_neg hfull]
    rw [hadd]
    have Hadd := hid hadd
    obtain ⟨i0, i1, if0, ib0⟩ := cells2i H.head
    obtain ⟨n, hn⟩ : ∃ n, n = s.l.length := ⟨_, rfl⟩
    rw [← hn] at i1 hcap hfull
    have HN := hid hn
    obtain ⟨L, hL⟩ : ∃ L, L = s.last := ⟨_, rfl⟩
    rw [← hL] at h63 ⊢
    have HLl := hid hL
    have t1 : decide ((4096 : Int) ≤ (n : Int)) = false := by simp; omega
    clear H hn hadd hL
    go_enter Try.func41, Try.ntmps41
    go_wp2_with (at_builtin; refine stopAt ?_; intro q hq)
    have hn1 := heap_alloc_new w (.cells #[.int .u64 (seq : Int), .bool mark, .string (str key), .string (str value), .bool gone] 33)
    have hk1 : Keep (fun _ => False) w (w.alloc (.cells #[.int .u64 (seq : Int), .bool mark, .string (str key), .string (str value), .bool gone] 33)) := (Keep.refl _ _).alloc _
    obtain ⟨w1, hw1⟩ : ∃ w1, w1 = w.alloc (.cells #[.int .u64 (seq : Int), .bool mark, .string (str key), .string (str value), .bool gone] 33) := ⟨_, rfl⟩
    rw [← hw1] at hn1 hk1 ⊢
    clear hw1
    refine (last_any w1 b F s (SrcAt.later ⟨_, H0.out⟩ hk1) (by rw [← HLl.out]; omega)).mono ?_
    rintro e w2 ⟨rfl, hk2⟩
    rw [← HLl.out]
    have hn2 := hk2.get hn1 id
    obtain ⟨j0, j1, j2, j3, j4, jf, jb⟩ := cells5i hn2
    have hk02 := hid (hk1.next hk2 (fun _ _ x => x) (fun _ _ x => x))
    have Hn2 := hid hn2
    clear i0 i1 if0 ib0 hn1 hk1 hk2 hn2
    go_wp2_with (at_builtin; refine stopAt ?_; intro q hq)
    have hlt := H0.out.lt
    have hbs := hlt b H0.out.self
    have hk3 : Keep (fun _ => False) w (w2.setCell ⟨w.heap.size, 0, none⟩ (.int .u64 ((L : Int) + 1))) := hk02.out.setCell (.inr (Nat.le_refl _)) _
    have hn3 : (w2.setCell ⟨w.heap.size, 0, none⟩ (.int .u64 ((L : Int) + 1))).heap[w.heap.size]? = some (.cells #[.int .u64 ((L : Int) + 1), .bool mark, .string (str key), .string (str value), .bool gone] 33 (0, 0)) := by
      simp [World.setCell, Array.getElem?_modify, Hn2.out]
    obtain ⟨w3, hw3⟩ : ∃ w3, w3 = w2.setCell ⟨w.heap.size, 0, none⟩ (.int .u64 ((L : Int) + 1)) := ⟨_, rfl⟩
    rw [← hw3] at hk3 hn3 ⊢
    clear hw3 j0 j1 j2 j3 j4 jf jb
    have H3 := hid (H0.out.keep hk3 (fun _ _ x => x))
    obtain ⟨i0, i1, if0, ib0⟩ := cells2i H3.out.head
    rw [← HN.out] at i1
    obtain ⟨j0, j1, j2, j3, j4, jf, jb⟩ := cells5i hn3
    have HK3 := hid (And.intro hk3 hn3)
    clear hk3 hn3
    refine wp_region_canon [] (by kernel_rfl) (by kernel_rfl) ?_
    repeat (first | (apply wpC_pure (by rfl); (intro K w'; go_simp; exact id)) | (apply wpC_load (by rfl); (intro K; go_simp; exact id)))
    (refine wpC_new (by rfl) (by rfl) (fun K hK => ?_); go_simp; refine hK _ _ (Pre.push _ rfl) ?_; clear hK K)
    have hk4 : Keep (fun _ => False) w3 (w3.alloc (.cells #[.int .u64 ((L : Int) + 1), .bool mark, .string (str key), .string (str value), .bool gone] 33)).drew := ((Keep.refl _ _).alloc _).drew
    have hn4 : (w3.alloc (.cells #[.int .u64 ((L : Int) + 1), .bool mark, .string (str key), .string (str value), .bool gone] 33)).drew.heap[w3.heap.size]? = some (.cells #[.int .u64 ((L : Int) + 1), .bool mark, .string (str key), .string (str value), .bool gone] 33) := heap_alloc_new w3 _
    obtain ⟨w4, hw4⟩ : ∃ w4, w4 = (w3.alloc (.cells #[.int .u64 ((L : Int) + 1), .bool mark, .string (str key), .string (str value), .bool gone] 33)).drew := ⟨_, rfl⟩
    rw [← hw4] at hk4 hn4 ⊢
    clear hw4
    have hrow4 := H3.out.row.keep hk4 (fun _ _ x => x)
    rw [← HN.out] at hrow4
    refine wpC_act (by rfl) (by rfl) (fun K hK => ?_)
    refine wp_append ty_items (.tmp 20) (.tmp 22) rfl rfl hrow4 (some ⟨w3.heap.size, 0, none⟩) 1 1 (itV ⟨L + 1, mark, key, value, gone⟩) rfl
      ⟨rfl, fun _ => ⟨_, rfl, fun t u hu => by rw [addr_add, Nat.zero_add, cell_of_row _ _ _ _ _ _ hn4]; simpa [itV] using hu⟩⟩ (itV_oneCell _) (by unfold maxLen; omega) (by omega) ?_
    intro v5 w5 hr5 hk5 hv5
    refine hK _ _ ?_
    clear hK K
    have hfoot : ∀ k, (Value.slice ao n cap).ownBlock = some k → F k ∧ k ≠ b := fun k e => H0.out.foot k (by rw [ownBlock_len ao s.l.length n cap]; exact e)
    have hb5 := hk5.get (hk4.get H3.out.head id) (fun e => (hfoot b e).2 rfl)
    have hi5 := hk5.get (hk4.get HK3.out.2 id) (fun e => by have := hlt _ (hfoot _ e).1; omega)
    clear i0 i1 if0 ib0 j0 j1 j2 j3 j4 jf jb
    obtain ⟨i0, i1, if0, ib0⟩ := cells2i hb5
    obtain ⟨ad5, cap5, rfl, -⟩ := hr5.form
    have H5 := hid (And.intro hr5 (And.intro hv5 (And.intro hb5 (And.intro hi5 (And.intro hk4 hk5)))))
    clear hr5 hv5 hb5 hi5 hk4 hk5 hn4 hrow4
    repeat (first | (apply wpC_pure (by rfl); (intro K w'; go_simp; exact id)) | (apply wpC_load (by rfl); (intro K; go_simp; exact id)))
    (refine wpC_act (by rfl) (by rfl) (fun K hK => ?_); go_simp; refine hK _ _ ?_; clear hK K)
    refine wpC_nil ?_
    obtain ⟨hr5, hv5, hb5, hi5, hk4, hk5⟩ := H5.out
    have hk6 : Keep (fun k => k = b) w5 (w5.setCell ⟨b, 1, none⟩ (.slice ad5 (n + 1) cap5)) := by refine Keep.setCell (Keep.refl _ _) (.inl ?_) _; rfl
    have hb6 : (w5.setCell ⟨b, 1, none⟩ (.slice ad5 (n + 1) cap5)).heap[b]? = some (.cells #[.int .u64 (s.gone : Int), .slice ad5 (n + 1) cap5] 87 (0, 0)) := by
      simp [World.setCell, Array.getElem?_modify, hb5]
    obtain ⟨w6, hw6⟩ : ∃ w6, w6 = w5.setCell ⟨b, 1, none⟩ (.slice ad5 (n + 1) cap5) := ⟨_, rfl⟩
    rw [← hw6] at hk6 hb6 ⊢
    clear hw6
    have hs3 := HK3.out.1.size
    have hs4 := hk4.size
    have hs5 := hk5.size
    have hi6 := hk6.get hi5 (by omega)
    obtain ⟨j0, j1, j2, j3, j4, jf, jb⟩ := cells5i hi6
    have hown5 : ∀ k, (Value.slice ad5 (n + 1) cap5).ownBlock = some k → (F k ∨ w.heap.size ≤ k) ∧ k ≠ b := fun k e => by
      rcases hv5 with ⟨_, h0⟩ | ⟨k', h1, h2⟩
      · omega
      · rw [e] at h1
        cases h1
        rcases h2 with h2 | h2
        · exact ⟨.inl (hfoot _ h2).1, (hfoot _ h2).2⟩
        · exact ⟨.inr (by omega), by omega⟩
    have hr6 : Row w6 33 5 (.slice ad5 (n + 1) cap5) (n + 1) (itsV (s.l ++ [⟨L + 1, mark, ⟨key, value, gone⟩⟩])) := by
      rw [itsV_append, itsV_one]
      exact hr5.keep hk6 (fun k e x => (hown5 k e).2 x)
    have hkAll : Keep F w w6 := ((HK3.out.1.next hk4 (fun _ _ x => x.elim) (fun _ _ x => x.elim)).next hk5 (fun _ _ x => x) (fun k _ e => (hfoot k e).1)).next hk6 (fun _ _ x => x) (fun k _ e => by rw [e]; exact H0.out.self)
    have HS := hid (show SrcTo b F w ⟨s.gone, s.l ++ [⟨L + 1, mark, ⟨key, value, gone⟩⟩]⟩ w6 from ⟨fun k => F k ∨ (w.heap.size ≤ k ∧ k < w6.heap.size), ⟨_, hb6, by rw [List.length_append, List.length_singleton, ← HN.out]; exact hr6, .inl H0.out.self,
      fun k e => ⟨(hown5 k e).1.imp id fun y => ⟨y, hr6.lt e⟩, (hown5 k e).2⟩, fun k x => x.elim (fun y => Nat.lt_of_lt_of_le (hlt k y) hkAll.size) (fun y => y.2)⟩, hkAll, fun k x => x.imp id fun y => y.1⟩)
    clear hr5 hv5 hb5 hi5 hk4 hk5 hk6 hb6 hi6 hs3 hs4 hs5 hown5 hr6 hkAll hfoot H5 i0 i1 if0 ib0
    go_wp2_with (at_builtin; refine stopAt ?_; intro q hq)
    go_ret2
    refine ⟨by simp, ?_⟩
    have := HS.out
    rwa [HLl.out] at this ⊢
end Go.Proofs.Ytiilondhppipnaa
/- Mirror: the program's source: NewSource, Mark, Do. Conditions: as each contract names them. -/
namespace Go.Proofs.Ytiilondhppipnaa
open Go.RowKit
open MI

def chVal (c : Ch) : Value := .agg #[.string (str c.key), .string (str c.value), .bool c.gone]

set_option maxRecDepth 20000 in
theorem newSource_any (w : World) : Calls Try.prog 24 #[] w fun e w' => ∃ b F, e = .returned (.pointer (some ⟨b, 0, none⟩)) ∧ SrcAt w' b F Src.new ∧ Keep (fun _ => False) w w' ∧ ∀ k, F k → w.heap.size ≤ k := by
  go_enter Try.func24, Try.ntmps24
  go_wp2_with (at_builtin; refine stopAt ?_; intro q hq)
  go_ret
  refine ⟨w.heap.size, fun k => k = w.heap.size, rfl, ⟨.slice none 0 0, heap_alloc_new w _, Row.nil _ _ _, rfl, fun k e => by simp [Value.ownBlock] at e, fun k e => ?_⟩, (Keep.refl _ _).alloc _, fun k e => by rw [e]; exact Nat.le_refl _⟩
  rw [e]
  exact heap_lt (heap_alloc_new w _)

set_option maxRecDepth 20000 in
theorem mark_any (w : World) (b : Nat) (F : Nat → Prop) (s : Src) (hs : SrcAt w b F s) (h63 : s.last < 4611686018427387904) :
    Calls Try.prog 27 #[.pointer (some ⟨b, 0, none⟩)] w fun e w' =>
      e = .returned (.tuple #[.int .u64 (s.mark.2.1 : Int), .int .i64 (s.mark.2.2 : Int)]) ∧ SrcTo b F w s.mark.1 w' := by
  have h := add_any w b F s ⟨0, true, Ch.zero⟩ hs h63
  have H := hid h
  unfold Src.mark
  obtain ⟨r, hr⟩ : ∃ r, r = s.add Ch.zero true := ⟨_, rfl⟩
  simp only [] at h
  rw [← hr] at h ⊢
  have H := hid h
  clear h hr
  go_enter Try.func27, Try.ntmps27
  go_wp2_with (at_builtin; refine stopAt ?_; intro q hq)
  refine H.out.mono ?_
  rintro e w2 ⟨rfl, hs2⟩
  have HS := hid hs2
  clear hs2
  go_wp2_with (at_builtin; refine stopAt ?_; intro q hq)
  go_ret2
  exact ⟨rfl, HS.out⟩

set_option maxRecDepth 20000 in
theorem mark_nil (w : World) : Calls Try.prog 27 #[.pointer none] w fun e w' => e = .returned (.tuple #[.int .u64 0, .int .i64 1]) ∧ w = w' := by
  go_enter Try.func27, Try.ntmps27
  go_wp2_with (at_builtin; refine stopAt ?_; intro q hq)
  go_ret2
  exact ⟨rfl, rfl⟩

set_option maxRecDepth 20000 in
theorem do_nil (w : World) (c : Ch) : Calls Try.prog 25 #[.pointer none, chVal c] w fun e w' => e = .returned (.tuple #[.int .u64 0, .int .i64 1]) ∧ Keep (fun _ => False) w w' := by
  obtain ⟨key, value, gone⟩ := c
  unfold chVal
  simp only
  go_enter Try.func25, Try.ntmps25
  go_wp2_with (at_builtin; refine stopAt ?_; intro q hq)
  go_ret2
  exact ⟨rfl, (Keep.refl _ _).alloc _⟩

set_option maxRecDepth 20000 in
theorem do_any (w : World) (b : Nat) (F : Nat → Prop) (s : Src) (c : Ch) (hs : SrcAt w b F s) (h63 : s.last < 4611686018427387904) :
    Calls Try.prog 25 #[.pointer (some ⟨b, 0, none⟩), chVal c] w fun e w' =>
      e = .returned (.tuple #[.int .u64 ((s.do_ c).2.1 : Int), .int .i64 ((s.do_ c).2.2 : Int)]) ∧ SrcTo b F w (s.do_ c).1 w' := by
  have hlt : ∀ k, F k → k < w.heap.size := let ⟨_, h⟩ := hs; h.lt
  obtain ⟨r, hr⟩ : ∃ r, r = s.do_ c := ⟨_, rfl⟩
  rw [← hr]
  have HR := hid hr
  clear hr
  obtain ⟨key, value, gone⟩ := c
  unfold chVal
  simp only
  have H0 := hid hs
  clear hs
  go_enter Try.func25, Try.ntmps25
  go_wp2_with (at_builtin; refine stopAt ?_; intro q hq)
  have hna := heap_alloc_new w (.cells #[.string (str key), .string (str value), .bool gone] 31)
  obtain ⟨wa, hwa⟩ : ∃ wa, wa = w.alloc (.cells #[.string (str key), .string (str value), .bool gone] 31) := ⟨_, rfl⟩
  have hka : Keep (fun _ => False) w wa := by rw [hwa]; exact (Keep.refl _ _).alloc _
  have hsa : wa.heap.size = w.heap.size + 1 := by rw [hwa]; exact Array.size_push _
  rw [← hwa] at hna ⊢
  clear hwa
  have hnb := heap_alloc_new wa (.cells #[.string (str key), .string (str value), .bool gone] 31)
  have hkb : Keep (fun _ => False) wa (wa.alloc (.cells #[.string (str key), .string (str value), .bool gone] 31)) := (Keep.refl _ _).alloc _
  rw [hsa] at hnb
  obtain ⟨wb, hwb⟩ : ∃ wb, wb = wa.alloc (.cells #[.string (str key), .string (str value), .bool gone] 31) := ⟨_, rfl⟩
  rw [← hwb] at hnb hkb ⊢
  clear hwb
  have hres := right_one wb (w.heap.size + 1) 1 ⟨key, value, gone⟩ (cell_of_row _ _ 0 _ _ _ hnb) (cell_of_row _ _ 1 _ _ _ hnb) (cell_of_row _ _ 2 _ _ _ hnb)
  cases hr : rightC ⟨key, value, gone⟩ with
  | false =>
    have hd : s.do_ ⟨key, value, gone⟩ = (s, 0, 2) := by unfold Src.do_; rw [hr]; rfl
    rw [hr] at hres
    refine hres.mono ?_
    rintro e w5 ⟨rfl, hk5⟩
    have HK := hid (hka.next (hkb.next hk5 (fun _ _ x => x) (fun _ _ x => x)) (fun _ _ x => x) (fun _ _ x => x))
    have HD := hid hd
    clear hres hr hk5 hd hna hnb hka hkb hsa
    go_wp2_with (at_builtin; refine stopAt ?_; intro q hq)
    go_ret2
    rw [HR.out, HD.out]
    exact ⟨rfl, H0.out.toLater HK.out⟩
  | true =>
    have hd : s.do_ ⟨key, value, gone⟩ = s.add ⟨key, value, gone⟩ false := by unfold Src.do_; rw [hr]; rfl
    rw [hr] at hres
    refine hres.mono ?_
    rintro e w5 ⟨rfl, hk5⟩
    have hk0 := hka.next (hkb.next hk5 (fun _ _ x => x) (fun _ _ x => x)) (fun _ _ x => x) (fun _ _ x => x)
    have ha := add_any w5 b F s ⟨0, false, ⟨key, value, gone⟩⟩ (H0.out.later hk0) h63
    simp only [] at ha
    rw [← hd, ← HR.out] at ha
    have HA := hid ha
    have HK := hid hk0
    have hn5 := (hkb.next hk5 (fun _ _ x => x) (fun _ _ x => x)).get hna id
    have j0 := cell_of_row _ _ 0 _ _ _ hn5
    have j1 := cell_of_row _ _ 1 _ _ _ hn5
    have j2 := cell_of_row _ _ 2 _ _ _ hn5
    simp only [List.getElem?_toArray, List.getElem?_cons_zero, List.getElem?_cons_succ] at j0 j1 j2
    clear hres hr hk5 hd hna hnb hka hkb hsa ha hk0 hn5
    go_wp2_with (at_builtin; refine stopAt ?_; intro q hq)
    refine HA.out.mono ?_
    rintro e w7 ⟨rfl, hs7⟩
    have HS := hid (hs7.since HK.out)
    clear hs7 j0 j1 j2
    go_wp2_with (at_builtin; refine stopAt ?_; intro q hq)
    go_ret2
    exact ⟨rfl, HS.out⟩
end Go.Proofs.Ytiilondhppipnaa
/- Mirror: slices.Delete and slices.Clone at []api.Item. Conditions: as each contract names them. -/
namespace Go.Proofs.Ytiilondhppipnaa
open Go.RowKit
open MI

theorem itsV_oneCell (l : List It) : ∀ u ∈ itsV l, u.oneCell' = true := by
  intro u hu
  obtain ⟨p, _, hp⟩ := List.mem_flatMap.1 hu
  exact itV_oneCell p u hp
theorem itsV_drop (l : List It) (j : Nat) : (itsV l).drop (j * 5) = itsV (l.drop j) := by
  induction l generalizing j with
  | nil => simp [itsV]
  | cons p l ih =>
    cases j with
    | zero => rfl
    | succ j =>
      have e : itsV (p :: l) = itV p ++ itsV l := rfl
      rw [e, List.drop_append, List.drop_of_length_le (by simp [itV]; omega), List.nil_append, List.drop_succ_cons, ← ih j]
      congr 1
      simp [itV]
      omega
theorem itsV_take (l : List It) (j : Nat) : (itsV l).take (j * 5) = itsV (l.take j) := by
  have h1 : itsV l = itsV (l.take j) ++ itsV (l.drop j) := by rw [← itsV_append, List.take_append_drop]
  by_cases hj : j ≤ l.length
  · rw [h1, List.take_left']
    rw [itsV_length, List.length_take, Nat.min_eq_left hj]
  · rw [List.take_of_length_le (by rw [itsV_length]; omega), List.take_of_length_le (by omega)]

theorem run_sliceAt_hi2 {P : Program} {t e : TypeId} {z : Value} {size bytes : Nat} (T : SliceTy P t e z size bytes) (ao : Option Addr) (n cap : Nat) (k : IntKind) (hi : Nat) (h1 : hi ≤ cap) (w : World) :
    (Instr.sliceAt t (.slice ao n cap) none (some (.int k (hi : Int))) none).run P w = .ok (.slice ao hi cap) w := by
  obtain ⟨ht, hinfo, hzs, hpos⟩ := T
  obtain ⟨i, hi', hsize⟩ : ∃ i, P.info? e = some i ∧ i.size = size := by
    cases hq : P.info? e with
    | none => simp [hq] at hinfo
    | some i => simp [hq] at hinfo; exact ⟨i, rfl, hinfo.2.1⟩
  subst hsize
  have h0 : (0 : Int) ≤ (hi : Int) ∧ (hi : Int) ≤ (cap : Int) := by omega
  simp [Instr.sliceAt, Instr.slice, run_underlying ht, Instr.sliceBounds, Instr.sliceBound, asIntOf, h0, h1, sizeOf, typeInfo, hi', Addr.add]
theorem run_sliceAt_lh {P : Program} {t e : TypeId} {z : Value} {size bytes : Nat} (T : SliceTy P t e z size bytes) (ao : Option Addr) (n cap : Nat) (k k' : IntKind) (lo hi : Nat) (h1 : lo ≤ hi) (h2 : hi ≤ cap) (w : World) :
    (Instr.sliceAt t (.slice ao n cap) (some (.int k (lo : Int))) (some (.int k' (hi : Int))) none).run P w = .ok (.slice (tailAt ao cap lo size) (hi - lo) (cap - lo)) w := by
  obtain ⟨ht, hinfo, hzs, hpos⟩ := T
  obtain ⟨i, hi', hsize⟩ : ∃ i, P.info? e = some i ∧ i.size = size := by
    cases hq : P.info? e with
    | none => simp [hq] at hinfo
    | some i => simp [hq] at hinfo; exact ⟨i, rfl, hinfo.2.1⟩
  subst hsize
  have h0 : (0 : Int) ≤ (hi : Int) ∧ (hi : Int) ≤ (cap : Int) := by omega
  have h3 : (0 : Int) ≤ (lo : Int) ∧ (lo : Int) ≤ (hi : Int) := by omega
  simp [Instr.sliceAt, Instr.slice, run_underlying ht, Instr.sliceBounds, Instr.sliceBound, asIntOf, h0, h1, h2, h3, sizeOf, typeInfo, hi', tailAt]
theorem run_sliceAt_lhm {P : Program} {t e : TypeId} {z : Value} {size bytes : Nat} (T : SliceTy P t e z size bytes) (ao : Option Addr) (n cap : Nat) (k k' k'' : IntKind) (lo hi mx : Nat) (h1 : lo ≤ hi) (h2 : hi ≤ mx) (h3 : mx ≤ cap) (w : World) :
    (Instr.sliceAt t (.slice ao n cap) (some (.int k (lo : Int))) (some (.int k' (hi : Int))) (some (.int k'' (mx : Int)))).run P w = .ok (.slice (tailAt ao mx lo size) (hi - lo) (mx - lo)) w := by
  obtain ⟨ht, hinfo, hzs, hpos⟩ := T
  obtain ⟨i, hi', hsize⟩ : ∃ i, P.info? e = some i ∧ i.size = size := by
    cases hq : P.info? e with
    | none => simp [hq] at hinfo
    | some i => simp [hq] at hinfo; exact ⟨i, rfl, hinfo.2.1⟩
  subst hsize
  have h0 : (0 : Int) ≤ (hi : Int) ∧ (hi : Int) ≤ (mx : Int) := by omega
  have h4 : (0 : Int) ≤ (lo : Int) ∧ (lo : Int) ≤ (hi : Int) := by omega
  have h5 : (0 : Int) ≤ (mx : Int) ∧ (mx : Int) ≤ (cap : Int) := by omega
  simp [Instr.sliceAt, Instr.slice, run_underlying ht, Instr.sliceBounds, Instr.sliceBound, asIntOf, h0, h1, h2, h3, h4, h5, sizeOf, typeInfo, hi', tailAt]

/-- append where there is room. -/
theorem run_append_in {P : Program} {w : World} {t ty e : TypeId} {z : Value} {size bytes : Nat} (T : SliceTy P t e z size bytes) (g n cap : Nat) (cur : Array Value) (fz : Nat × Nat) (hg : w.heap[g]? = some (.cells cur e fz)) (hfz : Free fz cur.size) (hcs : cur.size = cap * size)
    (ao : Option Addr) (m c : Nat) (news : List Value) (hsrc : Cells w ao m size news) (h1 : ∀ u ∈ news, u.oneCell' = true) (hroom : n + m ≤ cap) :
    (Builtin.append_ #[t, t] ty #[.slice (some ⟨g, 0, none⟩) n cap, .slice ao m c]).run P w = .ok (.slice (some ⟨g, 0, none⟩) (n + m) cap) (w.setRow g (splice cur.toList (n * size) news).toArray) := by
  obtain ⟨ht, hinfo, hzs, hpos⟩ := T
  obtain ⟨i, hi, hsize⟩ : ∃ i, P.info? e = some i ∧ i.size = size := by
    cases hq : P.info? e with
    | none => simp [hq] at hinfo
    | some i => simp [hq] at hinfo; exact ⟨i, rfl, hinfo.2.1⟩
  subst hsize
  have hf := run_first (P := P) i.size m ao c m news hsrc
  have hfit : n * i.size + news.length ≤ cur.size := by rw [hsrc.1, hcs, ← Nat.add_mul]; exact Nat.mul_le_mul_right _ hroom
  have hst := run_storeCells_free (P := P) g (n * i.size) e fz news 0 cur w hg hfz (by simpa using hfit) h1
  simp only [Nat.add_zero] at hst
  simp [Builtin.append_, run_underlying ht, sizeOf, typeInfo, hi, Builtin.lenOf, hroom, hf, Addr.add_lit, hst, splice]

theorem one_zero : ∀ u ∈ itZero.cells, u.oneCell' = true := by
  intro u hu
  have h : u ∈ [Value.int .u64 0, Value.bool false, Value.string { data := #[] }, Value.string { data := #[] }, Value.bool false] := by
    have := Array.mem_toList_iff.2 hu
    exact this
  simp only [List.mem_cons, List.not_mem_nil, or_false] at h
  rcases h with rfl | rfl | rfl | rfl | rfl <;> rfl

theorem wp_append_in {P : Program} {o : Oper} {a : Act} {w : World} {K : Act → World → Prop} {Q : Exit → Act → World → Prop} {t e : TypeId} {z : Value} {size bytes : Nat} (_T : SliceTy P t e z size bytes) (s x : Operand)
    (ho : o.op = .call { callee := .builtin .append, args := #[s, x], argTypes := #[t, t] }) (v y v' : Value) (w' : World) (hs : a.eval s = v) (hx : a.eval x = y)
    (hr : (Builtin.append_ #[t, t] o.type #[v, y]).run P w = .ok v' w') (h : K (a.put o.dst v') w') : o.wp P a w K Q := by
  unfold Oper.wp execOp
  simp only [ho, resolve, invoke, builtin, Sem.run_bind, Sem.run_pure, Result.andThen_ok, List.map_toArray, List.map_cons, List.map_nil, hs, hx, hr]
  exact h

/-- clear of a part. -/
theorem run_clear_at {P : Program} {w : World} {t ty e : TypeId} {z : Value} {size bytes : Nat} (T : SliceTy P t e z size bytes) (hz1 : ∀ u ∈ z.cells, u.oneCell' = true) (g o n cap : Nat) (cur : Array Value) (fz : Nat × Nat) (hg : w.heap[g]? = some (.cells cur e fz)) (hfz : Free fz cur.size)
    (hfit : o + n * size ≤ cur.size) (hn : 0 < n) :
    (Builtin.clear_ #[t] ty #[.slice (some ⟨g, o, none⟩) n cap]).run P w = .ok (.tuple #[]) (w.setRow g (splice cur.toList o (Builtin.zeroCells z.cells n).toList).toArray) := by
  obtain ⟨ht, hinfo, hzs, hpos⟩ := T
  obtain ⟨i, hi, hz, hsize⟩ : ∃ i, P.info? e = some i ∧ i.zero = some z ∧ i.size = size := by
    cases hq : P.info? e with
    | none => simp [hq] at hinfo
    | some i => simp [hq] at hinfo; exact ⟨i, rfl, hinfo.1, hinfo.2.1⟩
  have hzl : (Builtin.zeroCells z.cells n).toList.length = n * size := by simp [size_zeroCells, hzs]
  have hst := run_storeCells_free (P := P) g o e fz (Builtin.zeroCells z.cells n).toList 0 cur w hg hfz (by omega) (by
    intro u hu
    simp only [Builtin.zeroCells, Array.toList_map, List.mem_map] at hu
    obtain ⟨k, _, rfl⟩ := hu
    have hzp : 0 < z.cells.size := by omega
    have hk : k % z.cells.size < z.cells.size := Nat.mod_lt _ hzp
    rw [getElem!_pos z.cells (k % z.cells.size) hk]
    exact hz1 _ (Array.getElem_mem hk))
  simp only [Nat.add_zero] at hst
  obtain ⟨n', rfl⟩ : ∃ n', n = n' + 1 := ⟨n - 1, by omega⟩
  simp [Builtin.clear_, run_underlying ht, zeroValue, typeInfo, hi, hz, hst, splice]

set_option maxRecDepth 20000 in
set_option maxHeartbeats 1000000 in
theorem delete_any (w : World) (v : Value) (n j : Nat) (us : List It) (hr : Row w 33 5 v n (itsV us)) (hn : us.length = n) (hsm : n ≤ 1000000) (hj : j ≤ n) :
    Calls Try.prog 43 #[v, .int .i64 0, .int .i64 j] w fun r w' =>
      ∃ v', r = .returned v' ∧ Row w' 33 5 v' (n - j) (itsV (us.drop j)) ∧ Keep (fun k => v.ownBlock = some k) w w' ∧ v'.ownBlock = v.ownBlock := by
  obtain ⟨ad, cap, rfl, hcap, hmax, -⟩ := hr.form
  have hs3 : ∀ w, (Instr.sliceAt 22 (.slice ad n cap) (some (.int .i64 0)) (some (.int .i64 j)) (some (.int .i64 n))).run Try.prog w = .ok (.slice (tailAt ad n 0 5) j n) w := fun w => run_sliceAt_lhm ty_items ad n cap .i64 .i64 .i64 0 j n (Nat.zero_le _) hj hcap w
  by_cases hj0 : j = 0
  · have t1 : ((0 : Int) == (j : Int)) = true := by rw [hj0]; rfl
    have HX := hid (And.intro hr hj0)
    clear hr hj0
    go_enter Try.func43, Try.ntmps43
    go_wp2_with (at_builtin; refine stopAt ?_; intro q hq)
    go_ret
    obtain ⟨h1, rfl⟩ := HX.out
    exact ⟨.slice ad n cap, by rfl, h1, Keep.refl _ _, by rfl⟩
  · have t1 : ((0 : Int) == (j : Int)) = false := by simp; omega
    obtain ⟨g, cap', cur, fz, hv', hg, hfz, -, hcm, hsz, htk⟩ := hr.some (by omega)
    cases hv'
    have hsl1 : ∀ w, (Instr.sliceAt 22 (.slice (some ⟨g, 0, none⟩) n cap) none (some (.int .i64 0)) none).run Try.prog w = .ok (.slice (some ⟨g, 0, none⟩) 0 cap) w := fun w => run_sliceAt_hi2 ty_items (some ⟨g, 0, none⟩) n cap .i64 0 (Nat.zero_le _) w
    have hsl2 := fun w => run_sliceAt_lo (P := Try.prog) ty_items (some ⟨g, 0, none⟩) n cap .i64 j hj w
    have hxl : (itsV us).length = n * 5 := by rw [itsV_length, hn]
    have hdl : ((itsV us).drop (j * 5)).length = (n - j) * 5 := by rw [List.length_drop, hxl]; omega
    have htail := Cells.tail (Cells.of_row hr) j hj hcap (by decide)
    have htd := htail.keep (Keep.refl (fun _ => False) w).drew (fun _ _ x => x)
    have hap := run_append_in (P := Try.prog) (w := w.drew) (t := 22) (ty := 22) ty_items g 0 cap cur fz hg hfz hsz (tailAt (some ⟨g, 0, none⟩) cap j 5) (n - j) (cap - j) ((itsV us).drop (j * 5)) htd (fun u hu => itsV_oneCell us u (List.mem_of_mem_drop hu)) (by omega)
    have hg1 := setRow_heap w.drew g cur (splice cur.toList (0 * 5) ((itsV us).drop (j * 5))).toArray _ fz hg
    have k1 : Keep (fun k => k = g) w (w.drew.setRow g (splice cur.toList (0 * 5) ((itsV us).drop (j * 5))).toArray) := by refine Keep.setRow (Keep.refl _ _).drew (.inl ?_) _; rfl
    have hl1 : (splice cur.toList (0 * 5) ((itsV us).drop (j * 5))).length = cap * 5 := by
      rw [length_splice _ _ _ (by simp only [Array.length_toList, hsz, hdl]; omega)]
      simp [hsz]
    have ht1 : (splice cur.toList (0 * 5) ((itsV us).drop (j * 5))).take ((n - j) * 5) = (itsV us).drop (j * 5) := by
      unfold splice
      rw [Nat.zero_mul, List.take_zero, List.nil_append, ← hdl, List.take_left]
    rw [Nat.zero_add] at hap
    obtain ⟨c1, hc1⟩ : ∃ c1, c1 = splice cur.toList (0 * 5) ((itsV us).drop (j * 5)) := ⟨_, rfl⟩
    rw [← hc1] at hap hg1 k1 hl1 ht1
    obtain ⟨w1, hw1⟩ : ∃ w1, w1 = w.drew.setRow g c1.toArray := ⟨_, rfl⟩
    rw [← hw1] at hap hg1 k1
    have hf1 : Free fz c1.toArray.size := by rw [List.size_toArray, hl1, ← hsz]; exact hfz
    have hsl3 := fun w => run_sliceAt_lh (P := Try.prog) ty_items (some ⟨g, 0, none⟩) (n - j) cap .i64 .i64 (n - j) n (by omega) hcap w
    rw [show tailAt (some ⟨g, 0, none⟩) cap (n - j) 5 = some ⟨g, (n - j) * 5, none⟩ by unfold tailAt; rw [if_neg (by omega)]; simp [addr_add], show n - (n - j) = j by omega] at hsl3
    have hcl := fun ty => run_clear_at (P := Try.prog) (w := w1) (t := 22) (ty := ty) ty_items one_zero g ((n - j) * 5) j (cap - (n - j)) c1.toArray fz hg1 hf1 (by rw [List.size_toArray, hl1]; omega) (by omega)
    have hg2 := setRow_heap w1 g c1.toArray (splice c1.toArray.toList ((n - j) * 5) (Builtin.zeroCells itZero.cells j).toList).toArray _ fz hg1
    have k2 : Keep (fun k => k = g) w (w1.setRow g (splice c1.toArray.toList ((n - j) * 5) (Builtin.zeroCells itZero.cells j).toList).toArray) := by refine Keep.setRow k1 (.inl ?_) _; rfl
    have hzl : (Builtin.zeroCells itZero.cells j).toList.length = j * 5 := by rw [Array.length_toList, size_zeroCells]; rfl
    have hl2 : (splice c1.toArray.toList ((n - j) * 5) (Builtin.zeroCells itZero.cells j).toList).length = cap * 5 := by
      rw [length_splice _ _ _ (by simp only [hzl, hl1]; omega)]
      exact hl1
    have ht2 : (splice c1.toArray.toList ((n - j) * 5) (Builtin.zeroCells itZero.cells j).toList).take ((n - j) * 5) = (itsV us).drop (j * 5) := by
      have hq : (c1.toArray.toList.take ((n - j) * 5)).length = (n - j) * 5 := by rw [List.length_take]; simp only [hl1]; omega
      unfold splice
      refine Eq.trans ?_ ht1
      exact List.take_left' hq
    obtain ⟨c2, hc2⟩ : ∃ c2, c2 = splice c1.toArray.toList ((n - j) * 5) (Builtin.zeroCells itZero.cells j).toList := ⟨_, rfl⟩
    rw [← hc2] at hcl hg2 k2 hl2 ht2
    obtain ⟨w2, hw2⟩ : ∃ w2, w2 = w1.setRow g c2.toArray := ⟨_, rfl⟩
    rw [← hw2] at hcl hg2 k2
    have hr2 : Row w2 33 5 (.slice (some ⟨g, 0, none⟩) (n - j) cap) (n - j) (itsV (us.drop j)) := by
      rw [← itsV_drop]
      exact ⟨hdl, .inr ⟨g, cap, c2.toArray, fz, rfl, hg2, by rw [List.size_toArray, hl2, ← hsz]; exact hfz, by omega, hcm, by rw [List.size_toArray, hl2], ht2⟩⟩
    have HX := hid (And.intro hr2 k2)
    have Hap := hid hap
    have Hcl := hid hcl
    clear hr2 k2 hap hcl hw2 hc2 hw1 hc1 ht2 hl2 hzl hg2 hf1 ht1 hl1 k1 hg1 htd htail hdl hxl
    go_enter Try.func43, Try.ntmps43
    go_wp2_with (at_builtin; refine stopAt ?_; intro q hq)
    refine wp_region_canon [] (by kernel_rfl) (by kernel_rfl) ?_
    repeat (first | (apply wpC_pure (by rfl); (intro K w'; go_simp; exact id)) | (apply wpC_load (by rfl); (intro K; go_simp; exact id)))
    refine wpC_act (by rfl) (by rfl) (fun K hK => ?_)
    refine wp_append_in ty_items (.tmp 22) (.tmp 25) rfl _ _ _ _ rfl rfl Hap.out ?_
    refine hK _ _ ?_
    clear hK K
    repeat (apply wpC_pure (by rfl); (intro K w'; go_simp; exact id))
    refine wpC_nil ?_
    have hcl := Hcl.out
    go_wp2_with (at_builtin; refine stopAt ?_; intro q hq)
    go_ret
    exact ⟨_, by rfl, HX.out.1, HX.out.2.mono (fun k _ x => by rw [x]; rfl), by rfl⟩

end Go.Proofs.Ytiilondhppipnaa
/- Mirror: slices.Clone at []api.Item; the program's source: From. Conditions: as each contract names them. -/
namespace Go.Proofs.Ytiilondhppipnaa
open Go.RowKit
open MI

set_option maxRecDepth 20000 in
theorem clone_any (w : World) (ao : Option Addr) (n c : Nat) (l : List It) (hsrc : Cells w ao n 5 (itsV l)) (hn : l.length = n) (hsm : n ≤ 1000000) (hnil : ao = none → n = 0 ∧ c = 0) :
    Calls Try.prog 42 #[.slice ao n c] w fun e w' =>
      ∃ v, e = .returned v ∧ Row w' 33 5 v n (itsV l) ∧ Keep (fun _ => False) w w' ∧ (∀ k, v.ownBlock = some k → w.heap.size ≤ k) := by
  cases ao with
  | none =>
    obtain ⟨rfl, rfl⟩ := hnil rfl
    obtain rfl := List.length_eq_zero_iff.1 hn
    clear hsrc
    have he : ∀ w : World, (binOp .eql 22 (.slice none 0 0) (.slice none 0 0)).run Try.prog w = .ok (.bool true) w := fun _ => rfl
    go_enter Try.func42, Try.ntmps42
    go_wp2_with (at_builtin; refine stopAt ?_; intro q hq)
    go_ret
    exact ⟨_, rfl, Row.nil _ _ _, Keep.refl _ _, fun k e => by simp [Value.ownBlock] at e⟩
  | some a =>
    have HS := hid (And.intro hsrc hn)
    clear hsrc hnil hn
    have he : ∀ w : World, (binOp .eql 22 (.slice (some a) n c) (.slice none 0 0)).run Try.prog w = .ok (.bool false) w := fun _ => rfl
    go_enter Try.func42, Try.ntmps42
    go_wp2_with (at_builtin; refine stopAt ?_; intro q hq)
    (refine hq.out ?_; clear hq q)
    have hrow := Row.fresh w 33 5
    have hk1 : Keep (fun _ => False) w (w.alloc (.cells #[] 33)) := (Keep.refl _ _).alloc _
    obtain ⟨w1, hw1⟩ : ∃ w1, w1 = w.alloc (.cells #[] 33) := ⟨_, rfl⟩
    rw [← hw1] at hrow hk1 ⊢
    clear hw1
    refine wpList_plain rfl (fun K hK => ?_)
    refine wp_append ty_items (.tmp 5) (.tmp 6) rfl rfl hrow (some a) n c (itsV l) rfl (HS.out.1.keep hk1 (fun _ _ x => x)) (itsV_oneCell l) (by unfold maxLen; omega) (by omega) ?_
    intro v2 w2 hr2 hk2 hv2
    refine hK _ _ ?_
    clear hK K
    have H2 := hid (And.intro hr2 (And.intro hk2 hv2))
    clear hr2 hk2 hv2
    go_wp2_with (at_builtin; refine stopAt ?_; intro q hq)
    go_ret
    obtain ⟨hr2, hk2, hv2⟩ := H2.out
    have hs1 := hk1.size
    rw [Nat.zero_add, List.nil_append] at hr2
    refine ⟨_, rfl, hr2, hk1.next hk2 (fun _ _ x => x) (fun k hk x => by have x' : some w.heap.size = some k := x; injection x' with x'; omega), fun k e => ?_⟩
    rcases hv2 with ⟨h1, _⟩ | ⟨k', h1, h2⟩
    · rw [h1] at e
      have x' : some w.heap.size = some k := e
      injection x' with x'
      omega
    · have h3 := e.symm.trans h1
      injection h3 with h3
      subst h3
      rcases h2 with h2 | h2
      · have x' : some w.heap.size = some k := h2
        injection x' with x'
        omega
      · omega
end Go.Proofs.Ytiilondhppipnaa
/- Mirror: the program's source: From. Conditions: as the contract names them. -/
namespace Go.Proofs.Ytiilondhppipnaa
open Go.RowKit
open MI

set_option maxRecDepth 20000 in
set_option maxHeartbeats 1000000 in
theorem from_any (w : World) (b : Nat) (F : Nat → Prop) (s : Src) (seq : Nat) (most : Int) (hs : SrcAt w b F s) (h63 : s.last < 4611686018427387904) (hl : s.l.length ≤ 1000000) (hseq : seq < 18446744073709551616) (_hm : -9223372036854775808 ≤ most ∧ most ≤ 9223372036854775807) :
    Calls Try.prog 28 #[.pointer (some ⟨b, 0, none⟩), .int .u64 (seq : Int), .int .i64 most] w fun e w' =>
      ∃ v, e = .returned v ∧ Row w' 33 5 v (s.from_ seq most).length (itsV (s.from_ seq most)) ∧ Keep (fun _ => False) w w' ∧ (∀ k, v.ownBlock = some k → w.heap.size ≤ k) := by
  by_cases h1 : most < 1
  · have hf : s.from_ seq most = [] := by unfold Src.from_; rw [if_pos (.inl h1)]
    rw [hf]
    have t1 : decide (most < 1) = true := by simp; omega
    clear hf hs
    go_enter Try.func28, Try.ntmps28
    go_wp2_with (at_builtin; refine stopAt ?_; intro q hq)
    go_ret
    exact ⟨_, rfl, Row.nil _ _ _, Keep.refl _ _, fun k e => by simp [Value.ownBlock] at e⟩
  have t1 : decide (most < 1) = false := by simp; omega
  by_cases h2 : s.last < seq
  · have hf : s.from_ seq most = [] := by unfold Src.from_; rw [if_pos (.inr h2)]
    rw [hf]
    have hla := hid (last_any w b F s hs (by omega))
    obtain ⟨L, hL⟩ : ∃ L, L = s.last := ⟨_, rfl⟩
    rw [← hL] at h2 hla h63
    have t2 : decide (L < seq) = true := by simp; omega
    clear hf hs hL
    go_enter Try.func28, Try.ntmps28
    go_wp2_with (at_builtin; refine stopAt ?_; intro q hq)
    refine hla.out.mono ?_
    rintro e w2 ⟨rfl, hk2⟩
    have K2 := hid hk2
    clear hk2
    go_wp2_with (at_builtin; refine stopAt ?_; intro q hq)
    go_ret
    exact ⟨_, rfl, Row.nil _ _ _, K2.out, fun k e => by simp [Value.ownBlock] at e⟩
  · have hf : s.from_ seq most = (s.l.drop (max seq (s.gone + 1) - s.gone - 1)).take most.toNat := by unfold Src.from_; rw [if_neg (by omega)]
    have hla := hid (last_any w b F s hs (by omega))
    have Hf := hid hf
    have H0 := hid hs
    obtain ⟨L, hL⟩ : ∃ L, L = s.last := ⟨_, rfl⟩
    rw [← hL] at h2 hla h63
    have t2 : decide (L < seq) = false := by simp; omega
    have hLe : L = s.gone + s.l.length := hL
    obtain ⟨g, l⟩ := s
    simp only at hl hLe
    obtain ⟨n, hn⟩ : ∃ n, n = l.length := ⟨_, rfl⟩
    rw [← hn] at hl hLe
    have HN := hid (And.intro hn hLe)
    have hat : max seq (g + 1) - g - 1 ≤ n := by omega
    obtain ⟨M, hM⟩ : ∃ M, M = max seq (g + 1) := ⟨_, rfl⟩
    have hg62 : g < 4611686018427387904 := by omega
    have hMg : g + 1 ≤ M := by omega
    clear hf hs hL hLe hn
    go_enter Try.func28, Try.ntmps28
    go_wp2_with (at_builtin; refine stopAt ?_; intro q hq)
    refine hla.out.mono ?_
    rintro e w2 ⟨rfl, hk2⟩
    obtain ⟨v, hIs⟩ := H0.out.later hk2
    obtain ⟨ao, cap, rfl, hcap, hmax, hnone, -⟩ := hIs.row.form
    obtain ⟨i0, i1, if0, ib0⟩ := cells2i hIs.head
    simp only at i0 i1 hcap
    rw [← HN.out.1] at i1 hcap hnone
    have HI := hid (And.intro hIs hk2)
    clear hIs hk2
    go_wp2_with (at_builtin; refine stopAt ?_; intro q hq)
    go_quiet (fail)
    obtain ⟨A, hA⟩ : ∃ A : Nat, (A : Int) = max (seq : Int) ((g : Int) + 1) - (g : Int) - 1 := ⟨max seq (g + 1) - g - 1, by omega⟩
    have hAn : A = max seq (g + 1) - g - 1 := by omega
    rw [← hA]
    have hA1 : A ≤ n := by omega
    obtain ⟨w3, hw3⟩ : ∃ w3, w3 = w2.drewN nq := ⟨_, rfl⟩
    have hk3 : Keep (fun _ => False) w w3 := by rw [hw3]; exact HI.out.2.drewN _
    have hk23 : Keep (fun _ => False) w2 w3 := by rw [hw3]; exact (Keep.refl _ _).drewN _
    have hI3 := HI.out.1.keep hk23 (fun _ _ x => x)
    rw [← hw3]
    clear i0 i1 if0 ib0
    obtain ⟨i0, i1, if0, ib0⟩ := cells2i hI3.head
    simp only at i0 i1
    rw [← HN.out.1] at i1
    obtain ⟨r, hr⟩ : ∃ r, r = n - A := ⟨_, rfl⟩
    obtain ⟨T, hT⟩ : ∃ T, T = tailAt ao cap A 5 := ⟨_, rfl⟩
    obtain ⟨cA, hcA⟩ : ∃ c, c = cap - A := ⟨_, rfl⟩
    have hsl1 := fun w => run_sliceAt_lo (P := Try.prog) ty_items ao n cap .u64 A hA1 w
    rw [← hr, ← hT, ← hcA] at hsl1
    obtain ⟨k, hk⟩ : ∃ k : Nat, (k : Int) = min most (r : Int) := ⟨(min most (r : Int)).toNat, by omega⟩
    have hk1 : k ≤ r := by omega
    have hsl2 := fun w => run_sliceAt_hi2 (P := Try.prog) ty_items T r cA .i64 k (by omega) w
    rw [hk] at hsl2
    have hcells := ((Cells.of_row hI3.row).tail A (by rw [← HN.out.1]; exact hA1) (by rw [← HN.out.1]; exact hcap) (by decide)).take k (by rw [← HN.out.1, ← hr]; exact hk1)
    rw [itsV_drop, itsV_take, ← hT] at hcells
    have hlen : ((l.drop A).take k).length = k := by rw [List.length_take, List.length_drop, ← HN.out.1]; omega
    have hnil : T = none → k = 0 ∧ cA = 0 := fun h => by
      rw [hT] at h
      unfold tailAt at h
      cases hao : ao with
      | none => have := hnone hao; omega
      | some a => rw [hao] at h; split at h <;> cases h
    have hcl := hid (clone_any w3 T k cA _ hcells hlen (by omega) hnil)
    have hmt : most.toNat = most.toNat := rfl
    have hfin : ({ gone := g, l := l } : Src).from_ seq most = (l.drop A).take k := by
      rw [Hf.out, ← hAn]
      by_cases hm : most.toNat ≤ r
      · rw [show most.toNat = k by omega]
      · rw [List.take_of_length_le (by rw [List.length_drop, ← HN.out.1]; omega), List.take_of_length_le (by rw [List.length_drop, ← HN.out.1]; omega)]
    have HF := hid (And.intro hfin (And.intro hk3 (And.intro hlen hk)))
    clear hw3 hk23 hI3 hr hT hcA hcells hnil hmt hfin hk3 hlen hA hAn hk hM hat
    go_wp2_with (at_builtin; refine stopAt ?_; intro q hq)
    refine hcl.out.mono ?_
    rintro e w5 ⟨v, rfl, hr5, hk5, ho5⟩
    have H5 := hid (And.intro hr5 (And.intro hk5 ho5))
    clear hr5 hk5 ho5 i0 i1 if0 ib0 hsl1 hsl2
    go_wp2_with (at_builtin; refine stopAt ?_; intro q hq)
    go_ret
    obtain ⟨hr5, hk5, ho5⟩ := H5.out
    rw [HF.out.1, HF.out.2.2.1]
    exact ⟨v, rfl, hr5, HF.out.2.1.next hk5 (fun _ _ x => x) (fun _ _ x => x), fun k e => Nat.le_trans HF.out.2.1.size (ho5 k e)⟩
end Go.Proofs.Ytiilondhppipnaa
/- Mirror: the program's source: Trim. Conditions: as the contract names them. -/
namespace Go.Proofs.Ytiilondhppipnaa
open Go.RowKit
open MI

theorem wrapU64 (n : Nat) (h : n < 18446744073709551616) : IntKind.u64.wrap (n : Int) = (n : Int) := by simp [IntKind.wrap, IntKind.signed, IntKind.bits]; omega

set_option maxRecDepth 20000 in
set_option maxHeartbeats 1000000 in
theorem trim_any (w : World) (b : Nat) (F : Nat → Prop) (s : Src) (upto : Nat) (hs : SrcAt w b F s) (h63 : s.last < 4611686018427387904) (hl : s.l.length ≤ 1000000) (hup : upto < 18446744073709551616) :
    Calls Try.prog 31 #[.pointer (some ⟨b, 0, none⟩), .int .u64 (upto : Int)] w fun e w' =>
      e = .returned (.int .i64 ((s.trim upto).2 : Int)) ∧ SrcTo b F w (s.trim upto).1 w' := by
  obtain ⟨v, hIs⟩ := id hs
  obtain ⟨ao, cap, rfl, hcap, hmax, hnone, -⟩ := hIs.row.form
  obtain ⟨i0, i1, if0, ib0⟩ := cells2i hIs.head
  have H0 := hid hIs
  by_cases hle : upto ≤ s.gone
  · have ht : s.trim upto = (s, 0) := by unfold Src.trim; rw [if_pos hle]
    rw [ht]
    obtain ⟨g, l⟩ := s
    simp only at i0 i1 hle
    have t1 : decide (upto ≤ g) = true := by simp; omega
    clear ht hIs hs
    go_enter Try.func31, Try.ntmps31
    go_wp2_with (at_builtin; refine stopAt ?_; intro q hq)
    go_ret
    exact ⟨rfl, SrcAt.to ⟨_, H0.out⟩⟩
  · have ht : s.trim upto = (⟨min upto s.last, s.l.drop (min upto s.last - s.gone)⟩, min upto s.last - s.gone) := by unfold Src.trim; rw [if_neg hle]
    rw [ht]
    have hlast := fun x : Later w => last_any x.val b F s (hs.later x.keep) (by omega)
    obtain ⟨L, hL⟩ : ∃ L, L = s.last := ⟨_, rfl⟩
    have hLe : L = s.gone + s.l.length := hL
    rw [← hL] at hlast h63 ⊢
    have HLast := hid hlast
    obtain ⟨g, l⟩ := s
    simp only at i0 i1 hle hl hLe hcap ⊢
    obtain ⟨n, hn⟩ : ∃ n, n = l.length := ⟨_, rfl⟩
    rw [← hn] at hl hLe hcap i1
    have HN := hid hn
    obtain ⟨N, hN⟩ : ∃ N, N = min upto L - g := ⟨_, rfl⟩
    have hNI : (N : Int) = min (upto : Int) (L : Int) - (g : Int) := by omega
    have hN1 : N ≤ n := by omega
    have hN2 : min upto L = g + N := by omega
    have hgN : g + N < 18446744073709551616 := by omega
    rw [← hN, hN2]
    have HI := hid hNI
    have t1 : decide (upto ≤ g) = false := by simp; omega
    clear ht hIs hs hlast hL hLe hn hN hNI hN2
    go_enter Try.func31, Try.ntmps31
    go_wp2_with (at_builtin; refine stopAt ?_; intro q hq)
    have j0 := fun x : Later w => x.cell i0
    have j1 := fun x : Later w => x.cell i1
    clear i0 i1 if0 ib0
    (refine wp_region_later (by kernel_rfl) (by kernel_rfl) ?_; (repeat (go_big_quiet_step ((go_at_call 33; exact Later.call (HLast.out _))))); refine wpQuiet_nil ?_; rintro _ ⟨sq, rfl⟩)
    rw [← HI.out]
    obtain ⟨w3, hw3⟩ : ∃ w3, w3 = sq.val := ⟨_, rfl⟩
    have hk3 : Keep (fun _ => False) w w3 := by rw [hw3]; exact sq.keep
    rw [← hw3]
    have hI3 := hid (H0.out.keep hk3 (fun _ _ x => x))
    have HK3 := hid hk3
    clear hk3 hw3 j0 j1
    obtain ⟨i0, i1, if0, ib0⟩ := cells2i hI3.out.head
    simp only at i0 i1
    rw [← HN.out] at i1
    have hrow := hI3.out.row
    simp only at hrow
    rw [← HN.out] at hrow
    have hdel := hid (delete_any w3 (.slice ao n cap) n N l hrow HN.out.symm hl hN1)
    clear hrow
    go_wp2_with (at_builtin; refine stopAt ?_; intro q hq)
    refine hdel.out.mono ?_
    rintro e w4 ⟨v4, rfl, hr4, hk4, ho4⟩
    obtain ⟨a4, c4, rfl, -⟩ := hr4.form
    have hb4 := hk4.get hI3.out.head (fun e => (hI3.out.foot b (by rw [ownBlock_len ao l.length n cap]; exact e)).2 rfl)
    clear i0 i1 if0 ib0
    obtain ⟨i0, i1, if0, ib0⟩ := cells2i hb4
    simp only at i0
    have H4 := hid (And.intro hr4 (And.intro hk4 (And.intro ho4 hb4)))
    clear hr4 hk4 ho4 hb4
    have wr1 : IntKind.u64.wrap ((g : Int) + (N : Int)) = ((g + N : Nat) : Int) := by rw [← Int.natCast_add]; exact wrapU64 _ hgN
    go_wp2_with (at_builtin; refine stopAt ?_; intro q hq)
    go_ret
    refine ⟨rfl, ?_⟩
    obtain ⟨hr4, hk4, ho4, hb4⟩ := H4.out
    have hfoot : ∀ k, (Value.slice ao n cap).ownBlock = some k → F k ∧ k ≠ b := fun k e => H0.out.foot k (by rw [ownBlock_len ao l.length n cap]; exact e)
    have hk5 : Keep (fun k => k = b) w4 ((w4.setCell ⟨b, 1, none⟩ (.slice a4 (n - N) c4)).setCell ⟨b, 0, none⟩ (.int .u64 ((g + N : Nat) : Int))) := by refine Keep.setCell (Keep.setCell (Keep.refl _ _) (.inl ?_) _) (.inl ?_) _ <;> rfl
    have hb5 : ((w4.setCell ⟨b, 1, none⟩ (.slice a4 (n - N) c4)).setCell ⟨b, 0, none⟩ (.int .u64 ((g + N : Nat) : Int))).heap[b]? = some (.cells #[.int .u64 ((g + N : Nat) : Int), .slice a4 (n - N) c4] 87 (0, 0)) := by
      simp [World.setCell, Array.getElem?_modify, hb4]
    obtain ⟨w5, hw5⟩ : ∃ w5, w5 = (w4.setCell ⟨b, 1, none⟩ (.slice a4 (n - N) c4)).setCell ⟨b, 0, none⟩ (.int .u64 ((g + N : Nat) : Int)) := ⟨_, rfl⟩
    rw [← hw5] at hk5 hb5
    have hkAll : Keep F w w5 := (HK3.out.next hk4 (fun _ _ x => x.elim) (fun k _ e => (hfoot k e).1)).next hk5 (fun _ _ x => x) (fun k _ e => by rw [e]; exact H0.out.self)
    have hr5 : Row w5 33 5 (.slice a4 (n - N) c4) (n - N) (itsV (l.drop N)) := hr4.keep hk5 (fun k e x => (hfoot k (by rw [← ho4]; exact e)).2 x)
    have hfin : SrcTo b F w ⟨g + N, l.drop N⟩ w5 := ⟨F, ⟨_, hb5, by rw [List.length_drop, ← HN.out]; exact hr5, H0.out.self, fun k e => hfoot k (by rw [← ho4]; exact e), fun k x => Nat.lt_of_lt_of_le (H0.out.lt k x) hkAll.size⟩, hkAll, fun k x => .inl x⟩
    rw [hw5] at hfin
    exact hfin
end Go.Proofs.Ytiilondhppipnaa
/- Mirror: the program's sink: NewSink, Cut, Held. Conditions: as each contract names them. -/
namespace Go.Proofs.Ytiilondhppipnaa
open Go.RowKit
open MI

/-- What is held. -/
def HeldAt (w : World) (b : Nat) (h : List (Nat × It)) : Prop := MapAt w b 26 (fun n : Nat => Lit.int .u64 n) itVal h

/-- A sink in memory: p is the block of its pairs, h of what it holds; m: the pairs in whatever order. -/
structure SnkIs (w : World) (b p h : Nat) (F : Nat → Prop) (k : Snk) (m : List (Str × Str)) : Prop where
  head : w.heap[b]? = some (.cells #[.int .u64 (k.cut : Int), .map (some p), .map (some h)] 77 (0, 0))
  pairs : PairsAt w p m
  held : HeldAt w h k.held
  self : F b
  fp : F p
  fh : F h
  bp : b ≠ p
  bh : b ≠ h
  ph : p ≠ h
  lt : ∀ i, F i → i < w.heap.size
  same : ∀ x, AL.get m x = AL.get (layAll k.done) x
  seqs : ∀ q ∈ k.held, q.2.seq = q.1 ∧ k.cut < q.1 ∧ rightI q.2 = true
def SnkAt (w : World) (b : Nat) (F : Nat → Prop) (k : Snk) : Prop := ∃ p h m, SnkIs w b p h F k m
def SnkTo (b : Nat) (F : Nat → Prop) (w : World) (k' : Snk) (w' : World) : Prop := ∃ F', SnkAt w' b F' k' ∧ Keep F w w' ∧ ∀ i, F' i → F i ∨ w.heap.size ≤ i

theorem SnkIs.keep {w w' : World} {b p h : Nat} {F K : Nat → Prop} {k : Snk} {m : List (Str × Str)} (H : SnkIs w b p h F k m) (hk : Keep K w w') (hn : ∀ i, F i → ¬ K i) : SnkIs w' b p h F k m :=
  ⟨hk.get H.head (hn _ H.self), MapAt.keep H.pairs hk (hn _ H.fp), MapAt.keep H.held hk (hn _ H.fh), H.self, H.fp, H.fh, H.bp, H.bh, H.ph, fun i x => Nat.lt_of_lt_of_le (H.lt i x) hk.size, H.same, H.seqs⟩
theorem SnkAt.later {w w' : World} {b : Nat} {F : Nat → Prop} {k : Snk} (H : SnkAt w b F k) (hk : Keep (fun _ => False) w w') : SnkAt w' b F k := let ⟨p, h, m, x⟩ := H; ⟨p, h, m, x.keep hk (fun _ _ x => x)⟩
theorem SnkAt.to {w : World} {b : Nat} {F : Nat → Prop} {k : Snk} (H : SnkAt w b F k) : SnkTo b F w k w := ⟨F, H, Keep.refl _ _, fun _ x => .inl x⟩

theorem cells3i {w : World} {b : Nat} {T : TypeId} {a0 a1 a2 : Value} (H : w.heap[b]? = some (.cells #[a0, a1, a2] T (0, 0))) :
    w.cell? ⟨b, 0, none⟩ = some a0 ∧ w.cell? ⟨b, 1, none⟩ = some a1 ∧ w.cell? ⟨b, 2, none⟩ = some a2 ∧ (∀ o, w.frozen? ⟨b, o, none⟩ = false) ∧ b < w.heap.size := by
  refine ⟨?_, ?_, ?_, ?_, heap_lt H⟩ <;> simp [World.cell?, World.frozen?, H]

set_option maxRecDepth 20000 in
theorem cut_any (w : World) (b : Nat) (F : Nat → Prop) (k : Snk) (hk : SnkAt w b F k) :
    Calls Try.prog 15 #[.pointer (some ⟨b, 0, none⟩)] w fun e w' => e = .returned (.int .u64 (k.cut : Int)) ∧ w = w' := by
  obtain ⟨p, h, m, H⟩ := hk
  obtain ⟨i0, i1, i2, if0, ib0⟩ := cells3i H.head
  clear H
  go_enter Try.func15, Try.ntmps15
  go_wp2_with (at_builtin; refine stopAt ?_; intro q hq)
  go_ret
  exact ⟨rfl, rfl⟩

set_option maxRecDepth 20000 in
theorem held_any (w : World) (b : Nat) (F : Nat → Prop) (k : Snk) (hk : SnkAt w b F k) :
    Calls Try.prog 18 #[.pointer (some ⟨b, 0, none⟩)] w fun e w' => e = .returned (.int .i64 (k.held.length : Int)) ∧ w = w' := by
  obtain ⟨p, h, m, H⟩ := hk
  obtain ⟨i0, i1, i2, if0, ib0⟩ := cells3i H.head
  have hlen := fun ty => MapAt.len H.held (t := 75) Try.underlying75 ty
  obtain ⟨n, hn⟩ : ∃ n, n = k.held.length := ⟨_, rfl⟩
  rw [← hn] at hlen ⊢
  clear H hn
  go_enter Try.func18, Try.ntmps18
  go_wp2_with (at_builtin; refine stopAt ?_; intro q hq)
  go_ret
  exact ⟨rfl, rfl⟩
end Go.Proofs.Ytiilondhppipnaa
/- Mirror: the program's sink: NewSink. Conditions: none. -/
namespace Go.Proofs.Ytiilondhppipnaa
open Go.RowKit
open MI

set_option maxRecDepth 20000 in
theorem newSink_any (w : World) : Calls Try.prog 10 #[] w fun e w' => ∃ b F, e = .returned (.pointer (some ⟨b, 0, none⟩)) ∧ SnkAt w' b F Snk.new ∧ Keep (fun _ => False) w w' ∧ ∀ i, F i → w.heap.size ≤ i := by
  have hmm := @run_makeMap Try.prog
  go_enter Try.func10, Try.ntmps10
  go_wp2_with (at_builtin; refine stopAt ?_; intro q hq)
  go_ret
  have s1 : (w.alloc (.map #[] 0)).heap.size = w.heap.size + 1 := Array.size_push _
  have s2 : ((w.alloc (.map #[] 0)).alloc (.map #[] 0)).heap.size = w.heap.size + 1 + 1 := by rw [← s1]; exact Array.size_push _
  have m1 := MapAt.made w 9 (fun s : Str => Lit.string s) textV
  have m2 := MapAt.made (w.alloc (.map #[] 0)) 26 (fun n : Nat => Lit.int .u64 n) itVal
  rw [s1] at m2
  have hn := heap_alloc_new ((w.alloc (.map #[] 0)).alloc (.map #[] 0)) (.cells #[.int .u64 0, .map (some w.heap.size), .map (some (w.heap.size + 1))] 77)
  rw [s2] at hn
  have k2 : Keep (fun _ => False) ((w.alloc (.map #[] 0)).alloc (.map #[] 0)) (((w.alloc (.map #[] 0)).alloc (.map #[] 0)).alloc (.cells #[.int .u64 0, .map (some w.heap.size), .map (some (w.heap.size + 1))] 77)) := (Keep.refl _ _).alloc _
  have k1 : Keep (fun _ => False) (w.alloc (.map #[] 0)) (((w.alloc (.map #[] 0)).alloc (.map #[] 0)).alloc (.cells #[.int .u64 0, .map (some w.heap.size), .map (some (w.heap.size + 1))] 77)) := ((Keep.refl _ _).alloc _).alloc _
  have s3 := heap_lt hn
  refine ⟨w.heap.size + 1 + 1, fun i => w.heap.size ≤ i ∧ i ≤ w.heap.size + 1 + 1, rfl, ⟨w.heap.size, w.heap.size + 1, [], hn, m1.keep k1 id, m2.keep k2 id, ⟨by omega, by omega⟩, ⟨by omega, by omega⟩, ⟨by omega, by omega⟩, by omega, by omega, by omega, fun i x => by omega, fun x => rfl, fun q hq => (by cases hq)⟩, (((Keep.refl _ _).alloc _).alloc _).alloc _, fun i x => x.1⟩
end Go.Proofs.Ytiilondhppipnaa
/- Mirror: the program's sink: Next. Conditions: as the contract names them. -/
namespace Go.Proofs.Ytiilondhppipnaa
open Go.RowKit
open MI

/-- Different keys of a list of pairs are no more than the pairs. -/
theorem keys_len {κ α : Type} [DecidableEq κ] : ∀ {ks : List κ} {m : List (κ × α)}, AL.Ok m → ks.Nodup → (∀ x ∈ ks, (AL.get m x).isSome = true) → ks.length ≤ m.length
  | [], _, _, _, _ => Nat.zero_le _
  | x :: ks, m, hm, hn, h => by
    have hn' := List.nodup_cons.1 hn
    have h1 := keys_len (m := AL.del m x) (hm.del x) hn'.2 (fun y hy => by
      rw [AL.get_del_other m (x := x) (y := y) (fun e => hn'.1 (by rw [← e]; exact hy))]
      exact h y (List.mem_cons_of_mem _ hy))
    have h2 := AL.del_length hm x
    rw [if_pos (h x (by simp))] at h2
    rw [List.length_cons]
    omega
/-- So many numbers behind one another. -/
theorem row_len {α : Type} {m : List (Nat × α)} (hm : AL.Ok m) (c j : Nat) (h : ∀ i, i < j → (AL.get m (c + i)).isSome = true) : j ≤ m.length := by
  have := keys_len (ks := (List.range j).map (c + ·)) hm (by
    refine List.Pairwise.map _ (fun a b hab => ?_) List.nodup_range
    omega) (fun x hx => by
    obtain ⟨i, hi, rfl⟩ := List.mem_map.1 hx
    exact h i (List.mem_range.1 hi))
  simpa using this

theorem itZeroV (w : World) : (zeroValue 33).run Try.prog w = .ok itZero w := by kernel_rfl

set_option maxRecDepth 20000 in
theorem next_any (w : World) (b : Nat) (F : Nat → Prop) (k : Snk) (hk : SnkAt w b F k) (hc : k.cut + k.held.length < 4611686018427387904) :
    Calls Try.prog 16 #[.pointer (some ⟨b, 0, none⟩)] w fun e w' =>
      ∃ j, e = .returned (.int .u64 ((k.cut + 1 + j : Nat) : Int)) ∧ (∀ i, i < j → (AL.get k.held (k.cut + 1 + i)).isSome = true) ∧ AL.get k.held (k.cut + 1 + j) = none ∧ Keep (fun _ => False) w w' := by
  obtain ⟨p, h, m, H⟩ := hk
  obtain ⟨i0, i1, i2, if0, ib0⟩ := cells3i H.head
  have H0 := hid H
  obtain ⟨cut, done, held⟩ := k
  simp only at i0 hc ⊢
  clear H
  go_enter Try.func16, Try.ntmps16
  go_wp2_with (at_builtin; refine stopAt ?_; intro q hq)
  clear i0 i1 i2 if0 ib0
  go_loopw [3] (fun av wr => ∃ a j : Nat, av = .int .u64 (a : Int) ∧ Hid (a = cut + 1 + j) ∧ Hid (∀ i, i < j → (AL.get held (cut + 1 + i)).isSome = true) ∧ Hid (Keep (fun _ => False) w wr)) (fun av _ => cut + 1 + held.length - (intOf av).toNat)
  case atStart => exact ⟨cut + 1, 0, by go_num, hid rfl, hid (fun i hi => by omega), hid (Keep.refl _ _)⟩
  case round =>
    obtain ⟨a, j, rfl, HA, HJ, HK⟩ := hrel
    have H3 := hid (H0.out.keep HK.out (fun _ _ x => x))
    have hj : j ≤ held.length := row_len H0.out.held.1 (cut + 1) j HJ.out
    obtain ⟨i0, i1, i2, if0, ib0⟩ := cells3i H3.out.head
    simp only at i0
    have hlook := MapAt.look2 H3.out.held key_u64 (t := 75) Try.underlying75 (itZeroV wr) a (by have := HA.out; omega)
    have ha : a < 9223372036854775808 := by have := HA.out; omega
    simp only at hlook
    cases hg : AL.get held a with
    | none =>
      rw [hg] at hlook
      have Hg := hid hg
      simp only [Option.map_none, Option.getD_none, Option.isSome_none, itZero] at hlook
      clear hg
      go_wp2_with (at_builtin; refine stopAt ?_; intro q hq)
      go_ret
      have ea := HA.out
      subst ea
      exact ⟨j, rfl, HJ.out, Hg.out, HK.out.alloc _⟩
    | some i =>
      rw [hg] at hlook
      have Hg := hid hg
      obtain ⟨seq, mark, key, value, gone⟩ := i
      simp only [Option.map_some, Option.getD_some, Option.isSome_some, itVal] at hlook
      clear hg
      have HJ2 : Hid (∀ i, i < j + 1 → (AL.get held (cut + 1 + i)).isSome = true) := hid fun i hi => by
        by_cases hij : i = j
        · subst hij
          rw [← HA.out, Hg.out]
          rfl
        · exact HJ.out i (by omega)
      have hj2 : j + 1 ≤ held.length := row_len H0.out.held.1 (cut + 1) (j + 1) HJ2.out
      go_wp2_with (at_builtin; refine stopAt ?_; intro q hq)
      have ea := HA.out
      refine ⟨⟨a + 1, j + 1, by go_num, hid (by omega), HJ2, hid (HK.out.alloc _)⟩, ?_⟩
      simp [intOf]
      omega
end Go.Proofs.Ytiilondhppipnaa
/- Mirror: the program's sink: Pairs. Conditions: as the contract names them. -/
namespace Go.Proofs.Ytiilondhppipnaa
open Go.RowKit
open MI

def prV (p : Str × Str) : List Value := [.string (str p.1), .string (str p.2)]
def prsV (l : List (Str × Str)) : List Value := l.flatMap prV
theorem prsV_append (l m : List (Str × Str)) : prsV (l ++ m) = prsV l ++ prsV m := by simp [prsV]
theorem prsV_one (p : Str × Str) : prsV [p] = prV p := by simp [prsV]
theorem prV_oneCell (p : Str × Str) : ∀ u ∈ prV p, u.oneCell' = true := by
  intro u hu
  simp only [prV, List.mem_cons, List.not_mem_nil, or_false] at hu
  rcases hu with rfl | rfl <;> rfl
def prZero : Value := .agg #[.string { data := #[] }, .string { data := #[] }]
theorem ty_prs : SliceTy Try.prog 41 72 prZero 2 32 := ⟨by kernel_rfl, by kernel_rfl, rfl, by decide⟩
theorem textZero (w : World) : (zeroValue 83).run Try.prog w = .ok (.agg #[.string { data := #[] }]) w := by kernel_rfl

theorem Sorted_ok {ps : List (Str × Str)} (h : Sorted ps) : AL.Ok ps := by
  unfold Sorted at h
  unfold AL.Ok
  exact h.imp fun {a b} hab e => by
    rw [e] at hab
    exact str_irrefl _ hab

structure PairsRel (w3 : World) (m : List (Str × Str)) (ks : List Str) (i : Nat) (v : Value) (wr : World) : Prop where
  keep : Keep (fun _ => False) w3 wr
  row : Row wr 72 2 v i (prsV ((ks.take i).map fun x => (x, (AL.get m x).getD [])))
  own : ∀ b, v.ownBlock = some b → w3.heap.size ≤ b

set_option maxRecDepth 20000 in
set_option maxHeartbeats 1000000 in
theorem pairs_any (w : World) (b : Nat) (F : Nat → Prop) (k : Snk) (hk : SnkAt w b F k) (hm : (layAll k.done).length ≤ 1000000) (hms : ∀ q ∈ layAll k.done, q.1.length ≤ maxLen) :
    Calls Try.prog 20 #[.pointer (some ⟨b, 0, none⟩)] w fun e w' =>
      ∃ v, e = .returned v ∧ Row w' 72 2 v (layAll k.done).length (prsV (layAll k.done)) ∧ Keep (fun _ => False) w w' ∧ (∀ i, v.ownBlock = some i → w.heap.size ≤ i) := by
  obtain ⟨p, h, m, H⟩ := hk
  obtain ⟨i0, i1, i2, if0, ib0⟩ := cells3i H.head
  have hml : m.length ≤ 1000000 := by
    have := keys_len (ks := m.map (·.1)) (m := layAll k.done) (Sorted_ok (layAll_sorted k.done)) (by
      unfold List.Nodup
      rw [List.pairwise_map]
      exact H.pairs.1) (fun x hx => by
      obtain ⟨q, hq, rfl⟩ := List.mem_map.1 hx
      rw [← H.same, get_of_mem H.pairs.1 hq]
      rfl)
    simp at this
    omega
  have hsort := hid (sorted_any w p m H.pairs hml)
  have H0 := hid H
  obtain ⟨cut, done, held⟩ := k
  simp only at i0 hm hms ⊢
  clear H
  go_enter Try.func20, Try.ntmps20
  go_wp2_with (at_builtin; refine stopAt ?_; intro q hq)
  refine hsort.out.mono ?_
  rintro e w3 ⟨vk, ks, rfl, hr3, hks, hmem, hk3, -⟩
  obtain ⟨ao, cap, rfl, -⟩ := hr3.form
  have hps := sorted_pairs H0.out.pairs.1 (layAll_sorted done) H0.out.same hks hmem
  have HP := hid hps
  have H3 := hid (H0.out.keep hk3 (fun _ _ x => x))
  have HR3 := hid hr3
  have HK3 := hid hk3
  have Hmem := hid hmem
  have hlen : ks.length = (layAll done).length := by rw [← hps, List.length_map]
  obtain ⟨n, hn⟩ : ∃ n, n = ks.length := ⟨_, rfl⟩
  rw [← hn] at hlen ⊢
  have hn1 : n ≤ 1000000 := by omega
  have HN := hid hn
  have HLen := hid hlen
  clear hr3 hks hmem hk3 hps hlen hn i0 i1 i2 if0 ib0
  go_wp2_with (at_builtin; refine stopAt ?_; intro q hq)
  go_loopw [3, 14] (fun v iv wr => ∃ i : Nat, i ≤ n ∧ iv = .int .i64 i ∧ Hid (PairsRel w3 m ks i v wr)) (fun _ iv _ => n - (intOf iv).toNat)
  case atStart => exact ⟨0, Nat.zero_le _, rfl, hid ⟨Keep.refl _ _, Row.nil _ _ _, fun b e => by simp [Value.ownBlock] at e⟩⟩
  case round =>
    obtain ⟨i, hi, rfl, HT⟩ := hrel
    obtain ⟨bo, bcap, hv, hbc, hbm, -⟩ := HT.out.row.form
    subst hv
    by_cases hil : i < n
    · have h4 : (i : Int) < n := by omega
      have hil' : i < ks.length := by rw [← HN.out]; exact hil
      obtain ⟨g, cap', hv, p0⟩ := (HR3.out.keep HT.out.keep (fun _ _ x => x)).getCell (j := i) (u := .string (str ks[i])) (by simp [strsV, encStr, str, hil'])
      rw [← HN.out] at hv
      cases hv
      have H4 := H3.out.keep HT.out.keep (fun _ _ x => x)
      obtain ⟨i0, i1, i2, if0, ib0⟩ := cells3i H4.head
      obtain ⟨y, hy⟩ := Option.isSome_iff_exists.1 ((Hmem.out ks[i]).1 (List.getElem_mem hil'))
      have hkl : ks[i].length ≤ maxLen := by
        have := H0.out.same ks[i]
        rw [hy] at this
        exact hms _ (mem_of_get this.symm)
      have hlook := MapAt.look1 H4.pairs key_str (t := 74) Try.underlying74 (textZero wr) ks[i] hkl
      rw [hy] at hlook
      simp only [Option.map_some, Option.getD_some, textV] at hlook
      have hsucc : (ks.take (i + 1)).map (fun x => (x, (AL.get m x).getD [])) = (ks.take i).map (fun x => (x, (AL.get m x).getD [])) ++ [(ks[i], y)] := by
        rw [List.take_add_one, List.getElem?_eq_getElem hil', Option.toList_some, List.map_append]
        simp [hy]
      have Hs := hid hsucc
      obtain ⟨x, hx⟩ : ∃ x, x = ks[i] := ⟨_, rfl⟩
      rw [← hx] at p0 hlook Hs
      clear hsucc hy hx H4 hkl i0 i2
      have hfld : ∀ w : World, (Instr.field 83 (.agg #[.string (str y)]) 0).run Try.prog w = .ok (.string (str y)) w := fun _ => rfl
      go_wp2_with (at_builtin; refine stopAt ?_; intro q hq)
      (refine hq.out ?_; clear hq q)
      have hn7 := heap_alloc_new wr (.cells #[.string (str x), .string (str y)] 72)
      have hk7 : Keep (fun _ => False) wr (wr.alloc (.cells #[.string (str x), .string (str y)] 72)) := (Keep.refl _ _).alloc _
      obtain ⟨w7, hw7⟩ : ∃ w7, w7 = wr.alloc (.cells #[.string (str x), .string (str y)] 72) := ⟨_, rfl⟩
      rw [← hw7] at hn7 hk7 ⊢
      clear hw7
      refine wpList_plain rfl (fun K hK => ?_)
      refine wp_append ty_prs (.tmp 18) (.tmp 28) rfl rfl (HT.out.row.keep hk7 (fun _ _ x => x)) (some ⟨wr.heap.size, 0, none⟩) 1 1 (prV (x, y)) (by rfl)
        ⟨rfl, fun _ => ⟨_, rfl, fun t u hu => by rw [addr_add, Nat.zero_add, cell_of_row _ _ _ _ _ _ hn7]; simpa [prV] using hu⟩⟩ (prV_oneCell _) (by unfold maxLen; omega) (by omega) ?_
      intro v8 w8 hr8 hk8 hv8
      refine hK _ _ ?_
      clear hK K
      have hsz := HT.out.keep.size
      have hsz2 := hk7.size
      have hown := HT.out.own
      have HT8 := hid (PairsRel.mk (w3 := w3) (m := m) (ks := ks) (i := i + 1) (v := v8) (wr := w8)
        ((HT.out.keep.next hk7 (fun _ _ x => x) (fun _ _ x => x)).next hk8 (fun _ _ x => x) (fun j hj x => absurd (hown j x) (by omega)))
        (by rw [Hs.out, prsV_append, prsV_one]; exact hr8)
        (fun b e => by
          rcases hv8 with ⟨_, h0⟩ | ⟨b', h1, h2⟩
          · omega
          · rw [e] at h1
            cases h1
            rcases h2 with h2 | h2
            · exact hown _ h2
            · omega))
      clear hr8 hk8 hv8 hn7 hk7 hsz hsz2 hown p0
      go_wp2_with (at_builtin; refine stopAt ?_; intro q hq)
      go_roundw
      case rel => exact ⟨i + 1, by omega, by go_num, HT8⟩
      case measure => simp [intOf]; omega
    · have h4 : decide ((i : Int) < n) = false := by simp; omega
      have he : i = n := by omega
      have hrow := HT.out.row
      have hfin : Row wr 72 2 (.slice bo i bcap) (layAll done).length (prsV (layAll done)) := by
        rw [he, HN.out, List.take_length, HP.out] at hrow
        rw [he, ← HLen.out]
        rw [← HN.out] at hrow
        exact hrow
      have HF := hid (And.intro hfin (And.intro (HK3.out.next HT.out.keep (fun _ _ x => x) (fun _ _ x => x)) (fun j e => Nat.le_trans HK3.out.size (HT.out.own j e))))
      clear hrow hfin he
      go_wp2_with (at_builtin; refine stopAt ?_; intro q hq)
      go_ret
      exact ⟨_, rfl, HF.out.1, HF.out.2.1, HF.out.2.2⟩
end Go.Proofs.Ytiilondhppipnaa
/- Mirror: a source and a sink that are not there. Conditions: none. -/
namespace Go.Proofs.Ytiilondhppipnaa
open Go.RowKit
open MI

set_option maxRecDepth 20000 in
theorem scut_nil (w : World) : Calls Try.prog 15 #[.pointer none] w fun e w' => e = .returned (.int .u64 0) ∧ w = w' := by
  go_enter Try.func15, Try.ntmps15
  go_wp2_with (at_builtin; refine stopAt ?_; intro q hq)
  go_ret
  exact ⟨rfl, rfl⟩
set_option maxRecDepth 20000 in
theorem snext_nil (w : World) : Calls Try.prog 16 #[.pointer none] w fun e w' => e = .returned (.int .u64 0) ∧ w = w' := by
  go_enter Try.func16, Try.ntmps16
  go_wp2_with (at_builtin; refine stopAt ?_; intro q hq)
  go_ret
  exact ⟨rfl, rfl⟩
set_option maxRecDepth 20000 in
theorem sheld_nil (w : World) : Calls Try.prog 18 #[.pointer none] w fun e w' => e = .returned (.int .i64 0) ∧ w = w' := by
  go_enter Try.func18, Try.ntmps18
  go_wp2_with (at_builtin; refine stopAt ?_; intro q hq)
  go_ret
  exact ⟨rfl, rfl⟩
set_option maxRecDepth 20000 in
theorem spairs_nil (w : World) : Calls Try.prog 20 #[.pointer none] w fun e w' => e = .returned (.slice none 0 0) ∧ w = w' := by
  go_enter Try.func20, Try.ntmps20
  go_wp2_with (at_builtin; refine stopAt ?_; intro q hq)
  go_ret
  exact ⟨rfl, rfl⟩
set_option maxRecDepth 20000 in
theorem trim_nil (w : World) (n : Int) : Calls Try.prog 31 #[.pointer none, .int .u64 n] w fun e w' => e = .returned (.int .i64 0) ∧ w = w' := by
  go_enter Try.func31, Try.ntmps31
  go_wp2_with (at_builtin; refine stopAt ?_; intro q hq)
  go_ret
  exact ⟨rfl, rfl⟩
set_option maxRecDepth 20000 in
theorem from_nil (w : World) (n m : Int) : Calls Try.prog 28 #[.pointer none, .int .u64 n, .int .i64 m] w fun e w' => e = .returned (.slice none 0 0) ∧ w = w' := by
  go_enter Try.func28, Try.ntmps28
  go_wp2_with (at_builtin; refine stopAt ?_; intro q hq)
  go_ret
  exact ⟨rfl, rfl⟩
set_option maxRecDepth 20000 in
theorem stake_nil (w : World) (i : It) : Calls Try.prog 13 #[.pointer none, itVal i] w fun e w' => e = .returned (.int .i64 1) ∧ Keep (fun _ => False) w w' := by
  obtain ⟨seq, mark, key, value, gone⟩ := i
  unfold itVal
  simp only
  go_enter Try.func13, Try.ntmps13
  go_wp2_with (at_builtin; refine stopAt ?_; intro q hq)
  go_ret
  exact ⟨rfl, (Keep.refl _ _).alloc _⟩
end Go.Proofs.Ytiilondhppipnaa
/- The document's Same of pairs: a contract where they are the same. Conditions: as the contract names them. -/
namespace Go.Proofs.Ytiilondhppipnaa
open Go.RowKit
open MI

theorem prsV_length (l : List (Str × Str)) : (prsV l).length = l.length * 2 := by
  induction l with
  | nil => rfl
  | cons p l ih => simp only [prsV, List.flatMap_cons, List.length_append, List.length_cons] at *; rw [ih]; simp [prV]; omega
theorem prsV_get (l : List (Str × Str)) (i : Nat) (hi : i < l.length) (j : Nat) (hj : j < 2) : (prsV l)[i * 2 + j]? = (prV l[i])[j]? := by
  have e : l = l.take i ++ [l[i]] ++ l.drop (i + 1) := by simp
  have hl : (prsV (l.take i)).length = i * 2 := by rw [prsV_length, List.length_take]; omega
  conv => lhs; rw [e]
  rw [prsV_append, prsV_append, List.append_assoc, List.getElem?_append_right (by omega), hl, prsV_one, show i * 2 + j - i * 2 = j by omega]
  rw [List.getElem?_append_left (by simp [prV]; omega)]

set_option maxRecDepth 20000 in
theorem same_prs (w : World) (ao bo : Option Addr) (c d : Nat) (l : List (Str × Str)) (h1 : Row w 72 2 (.slice ao l.length c) l.length (prsV l)) (h2 : Row w 72 2 (.slice bo l.length d) l.length (prsV l)) :
    Calls Try.prog 19 #[.slice ao l.length c, .slice bo l.length d] w fun e w' => e = .returned (.bool true) ∧ Keep (fun _ => False) w w' := by
  have hn63 : (l.length : Int) ≤ 9223372036854775807 := by obtain ⟨_, _, _, x1, x2, _⟩ := h1.form; unfold maxLen at x2; omega
  have H1 := hid h1
  have H2 := hid h2
  obtain ⟨n, hn⟩ : ∃ n, n = l.length := ⟨_, rfl⟩
  rw [← hn] at hn63 ⊢
  have Hn := hid hn
  clear h1 h2 hn
  go_enter Try.func19, Try.ntmps19
  go_wp2_with (at_builtin; refine stopAt ?_; intro q hq)
  go_loopw [5] (fun iv wr => ∃ i : Nat, i ≤ n ∧ iv = .int .i64 i ∧ Hid (Keep (fun _ => False) w wr)) (fun iv _ => n - (intOf iv).toNat)
  case atStart => exact ⟨0, Nat.zero_le _, rfl, hid (Keep.refl _ _)⟩
  case round =>
    obtain ⟨i, hi, rfl, HK⟩ := hrel
    by_cases hin : i < n
    · have h4 : (i : Int) < n := by omega
      have hil : i < l.length := by rw [← Hn.out]; exact hin
      have gets : ∀ ao' c', Row w 72 2 (.slice ao' l.length c') l.length (prsV l) → ∃ g, ao' = some ⟨g, 0, none⟩ ∧ ∀ t u, (prV l[i])[t]? = some u → wr.cell? ⟨g, i * 2 + t, none⟩ = some u := fun ao' c' hr => by
        have hr' := hr.keep HK.out (fun _ _ x => x)
        have h0 := prsV_get l i hil 0 (by decide)
        obtain ⟨g, cap, hv, hc⟩ := hr'.getCell (show (prsV l)[i * 2 + 0]? = some (.string (str l[i].1)) by rw [h0]; rfl)
        cases hv
        refine ⟨g, rfl, fun t u hu => ?_⟩
        have ht : t < 2 := (List.getElem?_eq_some_iff.1 hu).1
        have h1 := prsV_get l i hil t ht
        rw [hu] at h1
        obtain ⟨g', cap', hv', hc'⟩ := hr'.getCell h1
        cases hv'
        exact hc'
      obtain ⟨g, rfl, k0⟩ := gets _ _ H1.out
      obtain ⟨g2, rfl, k1⟩ := gets _ _ H2.out
      have a0 := k0 0 _ rfl
      have a1 := k0 1 _ rfl
      have b0 := k1 0 _ rfl
      have b1 := k1 1 _ rfl
      rw [Nat.add_zero] at a0 b0
      clear k0 k1 gets
      go_wp2_with (at_builtin; refine stopAt ?_; intro q hq)
      go_quiet (fail)
      go_wp2_with (at_builtin; refine stopAt ?_; intro q hq)
      go_roundw
      case rel => exact ⟨i + 1, by omega, by go_num, hid (HK.out.drewN _)⟩
      case measure => simp [intOf]; omega
    · have h4 : decide ((i : Int) < n) = false := by simp; omega
      go_wp2_with (at_builtin; refine stopAt ?_; intro q hq)
      go_ret
      exact ⟨by rfl, HK.out⟩
end Go.Proofs.Ytiilondhppipnaa
/- The document's Same of items: a contract where they are the same. Conditions: as the contract names them. -/
namespace Go.Proofs.Ytiilondhppipnaa
open Go.RowKit
open MI

set_option maxRecDepth 20000 in
theorem same_its (w : World) (ao bo : Option Addr) (c d : Nat) (l : List It) (h1 : Row w 33 5 (.slice ao l.length c) l.length (itsV l)) (h2 : Row w 33 5 (.slice bo l.length d) l.length (itsV l)) :
    Calls Try.prog 29 #[.slice ao l.length c, .slice bo l.length d] w fun e w' => e = .returned (.bool true) ∧ Keep (fun _ => False) w w' := by
  have hn63 : (l.length : Int) ≤ 9223372036854775807 := by obtain ⟨_, _, _, x1, x2, _⟩ := h1.form; unfold maxLen at x2; omega
  have H1 := hid h1
  have H2 := hid h2
  obtain ⟨n, hn⟩ : ∃ n, n = l.length := ⟨_, rfl⟩
  rw [← hn] at hn63 ⊢
  have Hn := hid hn
  clear h1 h2 hn
  go_enter Try.func29, Try.ntmps29
  go_wp2_with (at_builtin; refine stopAt ?_; intro q hq)
  go_loopw [5] (fun iv wr => ∃ i : Nat, i ≤ n ∧ iv = .int .i64 i ∧ Hid (Keep (fun _ => False) w wr)) (fun iv _ => n - (intOf iv).toNat)
  case atStart => exact ⟨0, Nat.zero_le _, rfl, hid (Keep.refl _ _)⟩
  case round =>
    obtain ⟨i, hi, rfl, HK⟩ := hrel
    by_cases hin : i < n
    · have h4 : (i : Int) < n := by omega
      have hil : i < l.length := by rw [← Hn.out]; exact hin
      have gets : ∀ ao' c', Row w 33 5 (.slice ao' l.length c') l.length (itsV l) → ∃ g, ao' = some ⟨g, 0, none⟩ ∧ ∀ t u, (itV l[i])[t]? = some u → wr.cell? ⟨g, i * 5 + t, none⟩ = some u := fun ao' c' hr => by
        have hr' := hr.keep HK.out (fun _ _ x => x)
        have h0 := itsV_get l i hil 0 (by decide)
        obtain ⟨g, cap, hv, hc⟩ := hr'.getCell (show (itsV l)[i * 5 + 0]? = some (.int .u64 (l[i].seq : Int)) by rw [h0]; rfl)
        cases hv
        refine ⟨g, rfl, fun t u hu => ?_⟩
        have ht : t < 5 := (List.getElem?_eq_some_iff.1 hu).1
        have h1 := itsV_get l i hil t ht
        rw [hu] at h1
        obtain ⟨g', cap', hv', hc'⟩ := hr'.getCell h1
        cases hv'
        exact hc'
      obtain ⟨g, rfl, k0⟩ := gets _ _ H1.out
      obtain ⟨g2, rfl, k1⟩ := gets _ _ H2.out
      have a0 := k0 0 _ rfl
      have a1 := k0 1 _ rfl
      have a2 := k0 2 _ rfl
      have a3 := k0 3 _ rfl
      have a4 := k0 4 _ rfl
      have b0 := k1 0 _ rfl
      have b1 := k1 1 _ rfl
      have b2 := k1 2 _ rfl
      have b3 := k1 3 _ rfl
      have b4 := k1 4 _ rfl
      rw [Nat.add_zero] at a0 b0
      clear k0 k1 gets
      go_wp2_with (at_builtin; refine stopAt ?_; intro q hq)
      go_quiet (fail)
      go_wp2_with (at_builtin; refine stopAt ?_; intro q hq)
      go_roundw
      case rel => exact ⟨i + 1, by omega, by go_num, hid (HK.out.drewN _)⟩
      case measure => simp [intOf]; omega
    · have h4 : decide ((i : Int) < n) = false := by simp; omega
      go_wp2_with (at_builtin; refine stopAt ?_; intro q hq)
      go_ret
      exact ⟨by rfl, HK.out⟩
end Go.Proofs.Ytiilondhppipnaa
/- Mirror: the program's sink: advance. Conditions: as the contract names them. -/
namespace Go.Proofs.Ytiilondhppipnaa
open Go.RowKit
open MI

/-- One step of the cut. -/
def MI.step1 (k : Snk) : Snk := ⟨k.cut + 1, k.done ++ [(AL.get k.held (k.cut + 1)).getD It.zero], AL.del k.held (k.cut + 1)⟩
theorem MI.adv_step : ∀ (n : Nat) (k : Snk), adv k (n + 1) = step1 (adv k n)
  | 0, _ => rfl
  | n + 1, k => by rw [adv, adv_step n]; rfl
theorem MI.adv_cut : ∀ (n : Nat) (k : Snk), (adv k n).cut = k.cut + n
  | 0, _ => rfl
  | n + 1, k => by rw [adv_step]; simp only [step1]; rw [adv_cut n]; omega
theorem MI.adv_done : ∀ (n : Nat) (k : Snk), (adv k n).done.length = k.done.length + n
  | 0, _ => rfl
  | n + 1, k => by rw [adv_step]; simp only [step1, List.length_append, List.length_singleton]; rw [adv_done n]; omega

theorem itVal_zero : itZero = itVal It.zero := by rfl
theorem get_itVal (h : List (Nat × It)) (x : Nat) : ((AL.get h x).map itVal).getD itZero = itVal ((AL.get h x).getD It.zero) := by
  cases AL.get h x <;> rfl

theorem SnkIs.mlen {w : World} {b p h : Nat} {F : Nat → Prop} {k : Snk} {m : List (Str × Str)} (H : SnkIs w b p h F k m) : m.length ≤ k.done.length := by
  have h1 := keys_len (ks := m.map (·.1)) (m := layAll k.done) (Sorted_ok (layAll_sorted k.done)) (by
      unfold List.Nodup
      rw [List.pairwise_map]
      exact H.pairs.1) (fun x hx => by
      obtain ⟨q, hq, rfl⟩ := List.mem_map.1 hx
      rw [← H.same, get_of_mem H.pairs.1 hq]
      rfl)
  have h2 : ∀ (ps : List (Str × Str)) (c : Ch), (lay1 ps c).length ≤ ps.length + 1 := by
    intro ps c
    induction ps with
    | nil => unfold lay1; split <;> simp
    | cons p ps ih =>
      unfold lay1
      split
      · simp; omega
      · rw [List.length_append]
        have e1 : (if c.gone then [] else [(c.key, c.value)]).length ≤ 1 := by split <;> simp
        have e2 : (if p.1 = c.key then ps else p :: ps).length ≤ ps.length + 1 := by split <;> simp
        simp only [List.length_cons]
        omega
  have h3 : ∀ (l : List It) (ps : List (Str × Str)), (l.foldl layI ps).length ≤ ps.length + l.length := by
    intro l
    induction l with
    | nil => intro ps; simp
    | cons i l ih =>
      intro ps
      rw [List.foldl_cons]
      have e1 := ih (layI ps i)
      have e2 : (layI ps i).length ≤ ps.length + 1 := by
        unfold layI
        split
        · omega
        · exact h2 _ _
      simp only [List.length_cons]
      omega
  have h4 := h3 k.done []
  simp at h1 h4
  unfold layAll at h1
  omega

theorem AL.mem_get {κ α : Type} [DecidableEq κ] {m : List (κ × α)} {x : κ} {y : α} (h : AL.get m x = some y) : (x, y) ∈ m := by
  unfold AL.get at h
  cases hf : m.find? fun p => decide (p.1 = x) with
  | none => rw [hf] at h; cases h
  | some p =>
    rw [hf] at h
    have h1 := List.mem_of_find?_eq_some hf
    have h2 := List.find?_some hf
    simp at h h2
    rw [← h2, ← h]
    exact h1
theorem rightI_key {i : It} (h : rightI i = true) : i.ch.key.length ≤ 16 := by
  unfold rightI at h
  simp only [Bool.and_eq_true] at h
  obtain ⟨_, h⟩ := h
  split at h
  · simp at h; rw [h]; simp [Ch.zero]
  · simp [rightC] at h; exact h.2.1
theorem SnkIs.key {w : World} {b p h : Nat} {F : Nat → Prop} {k : Snk} {m : List (Str × Str)} (H : SnkIs w b p h F k m) (x : Nat) : ((AL.get k.held x).getD It.zero).ch.key.length ≤ 16 := by
  cases hg : AL.get k.held x with
  | none => simp [It.zero, Ch.zero]
  | some i => exact rightI_key (H.seqs _ (AL.mem_get hg)).2.2

/-- What an item's step leaves of a sink's world. -/
theorem SnkIs.step {w : World} {b p h : Nat} {F : Nat → Prop} {k : Snk} {m : List (Str × Str)} (H : SnkIs w b p h F k m) {w' : World} {m' : List (Str × Str)} (hk : Keep F w w')
    (hh : w'.heap[b]? = some (.cells #[.int .u64 ((k.cut + 1 : Nat) : Int), .map (some p), .map (some h)] 77 (0, 0)))
    (hp : PairsAt w' p m') (hm : HeldAt w' h (AL.del k.held (k.cut + 1))) (e : m' = mapI m ((AL.get k.held (k.cut + 1)).getD It.zero)) : SnkIs w' b p h F (step1 k) m' where
  head := hh
  pairs := hp
  held := hm
  self := H.self
  fp := H.fp
  fh := H.fh
  bp := H.bp
  bh := H.bh
  ph := H.ph
  lt := fun i x => Nat.lt_of_lt_of_le (H.lt i x) hk.size
  same := fun x => by
    simp only [step1]
    rw [e, layAll_snoc]
    exact mapI_get (layAll_sorted _) H.same _ _
  seqs := fun q hq => by
    simp only [step1] at hq ⊢
    obtain ⟨h1, h2⟩ := List.mem_filter.1 hq
    obtain ⟨h3, h4, h5⟩ := H.seqs q h1
    have : ¬ q.1 = k.cut + 1 := by simpa using h2
    exact ⟨h3, by omega, h5⟩

structure AdvRel (w : World) (b p h : Nat) (F : Nat → Prop) (k : Snk) (j : Nat) (wr : World) : Prop where
  is : ∃ m, SnkIs wr b p h F (adv k j) m
  keep : Keep F w wr

set_option maxRecDepth 20000 in
set_option maxHeartbeats 2000000 in
theorem advance_any (w : World) (b p h : Nat) (F : Nat → Prop) (k : Snk) (m : List (Str × Str)) (n : Nat) (H : SnkIs w b p h F k m) (hc : k.cut + n < 4611686018427387904) (hd : k.done.length + n ≤ 1000000) :
    Calls Try.prog 35 #[.pointer (some ⟨b, 0, none⟩), .int .u64 ((k.cut + n : Nat) : Int)] w fun e w' => e = .returned (.tuple #[]) ∧ (∃ m', SnkIs w' b p h F (adv k n) m') ∧ Keep F w w' := by
  obtain ⟨L, hL⟩ : ∃ L, L = k.cut + n := ⟨_, rfl⟩
  rw [← hL]
  have HL := hid hL
  have hL62 : L < 4611686018427387904 := by omega
  have H0 := hid H
  clear H hL
  go_enter Try.func35, Try.ntmps35
  go_wp2_with (at_builtin; refine stopAt ?_; intro q hq)
  go_loopw [] (fun wr => ∃ j : Nat, j ≤ n ∧ Hid (AdvRel w b p h F k j wr)) (fun wr => L - (intOf ((wr.cell? ⟨b, 0, none⟩).getD (.int .u64 0))).toNat)
  case atStart => exact ⟨0, Nat.zero_le _, hid ⟨⟨m, H0.out⟩, Keep.refl _ _⟩⟩
  case round =>
    obtain ⟨j, hj, HA⟩ := hrel
    obtain ⟨m1, H1⟩ := HA.out.is
    have hm1 := H1.mlen
    rw [adv_done] at hm1
    have hcut := adv_cut j k
    obtain ⟨K1, hK1⟩ : ∃ K1, K1 = adv k j := ⟨_, rfl⟩
    rw [← hK1] at H1 hcut
    have HK := hid hK1
    obtain ⟨c, dn, hd1⟩ := K1
    simp only at hcut
    obtain ⟨i0, i1, i2, if0, ib0⟩ := cells3i H1.head
    simp only at i0
    have HC := hid hcut
    have Hm := hid hm1
    have H2 := hid H1
    clear hK1 hm1 hcut H1
    by_cases hjn : j < n
    · have hcL : c < L := by have := HC.out; have := HL.out; omega
      have t1 : (c : Int) < L := by omega
      go_wp2_with (at_builtin; refine stopAt ?_; intro q hq)
      have hk3 : Keep (fun i => i = b) wr (wr.setCell ⟨b, 0, none⟩ (.int .u64 ((c : Int) + 1))) := by refine Keep.setCell (Keep.refl _ _) (.inl ?_) _; rfl
      have hb3 : (wr.setCell ⟨b, 0, none⟩ (.int .u64 ((c : Int) + 1))).heap[b]? = some (.cells #[.int .u64 ((c : Int) + 1), .map (some p), .map (some h)] 77 (0, 0)) := by
        simp [World.setCell, Array.getElem?_modify, H2.out.head]
      obtain ⟨w3, hw3⟩ : ∃ w3, w3 = wr.setCell ⟨b, 0, none⟩ (.int .u64 ((c : Int) + 1)) := ⟨_, rfl⟩
      rw [← hw3] at hk3 hb3 ⊢
      clear hw3 i0 i1 i2 if0 ib0
      have hh3 := MapAt.keep H2.out.held hk3 (fun x => H2.out.bh x.symm)
      have hp3 := MapAt.keep H2.out.pairs hk3 (fun x => H2.out.bp x.symm)
      obtain ⟨i0, i1, i2, if0, ib0⟩ := cells3i hb3
      have hlook : ∀ w', Pre w3 w' → _ := fun w' hp => MapAt.look1 (MapAt.pre hh3 hp) key_u64 (t := 75) Try.underlying75 (itZeroV w') (c + 1) (by omega)
      simp only at hlook
      rw [get_itVal] at hlook
      simp only [show ((c + 1 : Nat) : Int) = (c : Int) + 1 from rfl] at hlook
      obtain ⟨it, hit⟩ : ∃ it, it = (AL.get hd1 (c + 1)).getD It.zero := ⟨_, rfl⟩
      rw [← hit] at hlook
      have Hit := hid hit
      have H3 := hid (And.intro hk3 (And.intro hh3 (And.intro hp3 hb3)))
      obtain ⟨seq, mark, key, value, gone⟩ := it
      simp only [itVal] at hlook
      clear hit hk3 hh3 hp3 hb3
      refine wp_region_canon [] (by kernel_rfl) (by kernel_rfl) ?_
      repeat (first | (apply wpC_pure (by rfl); (intro K w'; go_simp; exact id)) | (apply wpC_load (by rfl); (intro K; go_simp; exact id)))
      (apply wpC_still (by rfl); (intro K w' hp; have hlk := hlook w' ((Pre.refl _).drew.trans hp); go_simp; exact id))
      (refine wpC_new (by rfl) (by rfl) (fun K hK => ?_); go_simp; refine hK _ _ (Pre.push _ rfl) ?_; clear hK K)
      have hn4 := heap_alloc_new w3 (.cells itZero.cells 33)
      have hk4 : Keep (fun _ => False) w3 (w3.alloc (.cells itZero.cells 33)).drew := ((Keep.refl _ _).alloc _).drew
      have hn4' : (w3.alloc (.cells itZero.cells 33)).drew.heap[w3.heap.size]? = some (.cells itZero.cells 33 (0, 0)) := hn4
      obtain ⟨w4, hw4⟩ : ∃ w4, w4 = (w3.alloc (.cells itZero.cells 33)).drew := ⟨_, rfl⟩
      simp only [itZero, Value.cells] at hw4
      rw [← hw4]
      simp only [itZero, Value.cells] at hk4 hn4'
      rw [← hw4] at hk4 hn4'
      clear hn4 hw4
      refine wpC_act (by rfl) (by rfl) (fun K hK => ?_)
      refine wp_store_row 33 (.tmp 4) (.tmp 26) rfl w3.heap.size rfl (itV ⟨seq, mark, key, value, gone⟩) rfl 33 _ (0, 0) hn4' (Free.zero _) rfl (itV_oneCell _) (by kernel_rfl) ?_
      refine hK _ _ ?_
      clear hK K
      refine wpC_nil ?_
      have hn5 := setRow_heap w4 w3.heap.size _ (itV ⟨seq, mark, key, value, gone⟩).toArray _ _ hn4'
      have hk5 : Keep (fun _ => False) w3 (w4.setRow w3.heap.size (itV ⟨seq, mark, key, value, gone⟩).toArray) := Keep.setRow hk4 (.inr (Nat.le_refl _)) _
      obtain ⟨w5, hw5⟩ : ∃ w5, w5 = w4.setRow w3.heap.size (itV ⟨seq, mark, key, value, gone⟩).toArray := ⟨_, rfl⟩
      rw [← hw5] at hn5 hk5 ⊢
      clear hw5 hn4' hk4 hlook i0 i1 i2 if0 ib0
      have hb5 := hk5.get H3.out.2.2.2 id
      have hh5 := MapAt.keep H3.out.2.1 hk5 id
      have hp5 := MapAt.keep H3.out.2.2.1 hk5 id
      obtain ⟨i0, i1, i2, if0, ib0⟩ := cells3i hb5
      obtain ⟨w6, hrun6, hh6, hk6⟩ := MapAt.drop (MapAt.keep hh5 ((Keep.refl (fun _ => False) w5).drew) id) key_u64 (t := 75) Try.underlying75 (c + 1) (by omega) 0
      simp only [show ((c + 1 : Nat) : Int) = (c : Int) + 1 from rfl] at hrun6
      have hlt3 := H3.out.2.1.lt
      have hlt4 := H3.out.2.2.1.lt
      have hne6 : h ≠ w3.heap.size := by omega
      have hk6 : Keep (fun i => i = h) w5 w6 := ((Keep.refl _ w5).drew).next hk6 (fun _ _ x => x) (fun _ _ x => x)
      have hb6 := hk6.get hb5 (fun x => H2.out.bh x)
      have hp6 := MapAt.keep hp5 hk6 (fun x => H2.out.ph x)
      have hn6 := hk6.get hn5 (fun x => hne6 x.symm)
      have H6 := hid (And.intro hk5 (And.intro hh6 (And.intro hk6 (And.intro hp6 (And.intro hb6 hn6)))))
      clear hb5 hh5 hp5 hn5 hk5 hh6 hk6 hb6 hp6 hn6
      go_wp2_with (at_builtin; refine stopAt ?_; intro q hq)
      refine wp_region_canon [] (by kernel_rfl) (by kernel_rfl) ?_
      repeat (first | (apply wpC_pure (by rfl); (intro K w'; go_simp; exact id)) | (apply wpC_load (by rfl); (intro K; go_simp; exact id)))
      (refine wpC_act (by rfl) (by rfl) (fun K hK => ?_); go_simp; refine hK _ _ ?_; clear hK K)
      refine wpC_nil ?_
      clear hrun6 i0 i1 i2 if0 ib0
      obtain ⟨hk5, hh6, hk6, hp6, hb6, hn6⟩ := H6.out
      obtain ⟨i0, i1, i2, if0, ib0⟩ := cells3i hb6
      obtain ⟨j0, j1, j2, j3, j4, jf, jb⟩ := cells5i hn6
      clear hk5 hh6 hk6 hp6 hb6 hn6
      have fin : ∀ w7 m7, Keep (fun i => i = p) w6 w7 → PairsAt w7 p m7 → m7 = mapI m1 ⟨seq, mark, key, value, gone⟩ → Hid (AdvRel w b p h F k (j + 1) w7) ∧ L - (intOf ((w7.cell? ⟨b, 0, none⟩).getD (.int .u64 0))).toNat < L - (intOf ((wr.cell? ⟨b, 0, none⟩).getD (.int .u64 0))).toNat := fun w7 m7 hk7 hp7 he => by
        obtain ⟨hk5, hh6, hk6, hp6, hb6, hn6⟩ := H6.out
        have hb7 := hk7.get hb6 (fun x => H2.out.bp x)
        have hh7 := MapAt.keep hh6 hk7 (fun x => H2.out.ph x.symm)
        have hkF : Keep F wr w7 := ((H3.out.1.next hk5 (fun _ _ x => by rw [x]; exact H2.out.self) (fun _ _ x => x.elim)).next hk6 (fun _ _ x => x) (fun _ _ x => by rw [x]; exact H2.out.fh)).next hk7 (fun _ _ x => x) (fun _ _ x => by rw [x]; exact H2.out.fp)
        have hst := H2.out.step hkF hb7 hp7 hh7 (by simp only; rw [← Hit.out]; exact he)
        refine ⟨hid ⟨⟨m7, by rw [adv_step, ← HK.out]; exact hst⟩, HA.out.keep.next hkF (fun _ _ x => x) (fun _ _ x => x)⟩, ?_⟩
        have e7 := (cells3i hb7).1
        have e1 := (cells3i H2.out.head).1
        simp only at e1
        rw [e7, e1]
        simp [intOf]
        omega
      have Fin := hid fin
      clear fin
      have hkey : key.length ≤ maxLen := by
        have := H2.out.key (c + 1)
        simp only at this
        rw [← Hit.out] at this
        simp only at this
        unfold maxLen
        omega
      cases mark with
      | true =>
        go_wp2_with (at_builtin; refine stopAt ?_; intro q hq)
        obtain ⟨hA, hM⟩ := Fin.out w6 m1 (Keep.refl _ _) H6.out.2.2.2.1 (by simp [mapI])
        exact ⟨⟨j + 1, by omega, hA⟩, hM⟩
      | false =>
        cases gone with
        | true =>
          obtain ⟨w7, hrun7, hp7, hk7⟩ := MapAt.drop (MapAt.keep H6.out.2.2.2.1 ((Keep.refl (fun _ => False) w6).drew) id) key_str (t := 74) Try.underlying74 key hkey 0
          have hk7 : Keep (fun i => i = p) w6 w7 := ((Keep.refl _ w6).drew).next hk7 (fun _ _ x => x) (fun _ _ x => x)
          have H7 := hid (And.intro hp7 hk7)
          clear hp7 hk7
          go_wp2_with (at_builtin; refine stopAt ?_; intro q hq)
          refine wp_region_canon [] (by kernel_rfl) (by kernel_rfl) ?_
          repeat (first | (apply wpC_pure (by rfl); (intro K w'; go_simp; exact id)) | (apply wpC_load (by rfl); (intro K; go_simp; exact id)))
          (refine wpC_act (by rfl) (by rfl) (fun K hK => ?_); go_simp; refine hK _ _ ?_; clear hK K)
          refine wpC_nil ?_
          clear hrun7
          go_wp2_with (at_builtin; refine stopAt ?_; intro q hq)
          obtain ⟨hA, hM⟩ := Fin.out w7 _ H7.out.2 H7.out.1 (by simp [mapI])
          exact ⟨⟨j + 1, by omega, hA⟩, hM⟩
        | false =>
          have hml : m1.length < maxLen := by have := Hm.out; unfold maxLen; omega
          obtain ⟨w7, hrun7, hp7, hk7⟩ := MapAt.store (MapAt.keep H6.out.2.2.2.1 ((Keep.refl (fun _ => False) w6).drew) id) key_str (t := 74) Try.underlying74 hml key hkey value
          have hk7 : Keep (fun i => i = p) w6 w7 := ((Keep.refl _ w6).drew).next hk7 (fun _ _ x => x) (fun _ _ x => x)
          have H7 := hid (And.intro hp7 hk7)
          simp only [textV] at hrun7
          clear hp7 hk7
          go_wp2_with (at_builtin; refine stopAt ?_; intro q hq)
          refine wp_region_canon [] (by kernel_rfl) (by kernel_rfl) ?_
          repeat (first | (apply wpC_pure (by rfl); (intro K w'; go_simp; exact id)) | (apply wpC_load (by rfl); (intro K; go_simp; exact id)))
          (refine wpC_act (by rfl) (by rfl) (fun K hK => ?_); go_simp; refine hK _ _ ?_; clear hK K)
          refine wpC_nil ?_
          clear hrun7
          go_wp2_with (at_builtin; refine stopAt ?_; intro q hq)
          obtain ⟨hA, hM⟩ := Fin.out w7 _ H7.out.2 H7.out.1 (by simp [mapI])
          exact ⟨⟨j + 1, by omega, hA⟩, hM⟩
    · have hcL : c = L := by have := HC.out; have := HL.out; omega
      have t1 : decide ((c : Int) < L) = false := by simp; omega
      go_wp2_with (at_builtin; refine stopAt ?_; intro q hq)
      go_end0
      have hjn' : j = n := by omega
      subst hjn'
      have hf : SnkIs wr b p h F (adv k j) m1 := by rw [← HK.out]; exact H2.out
      exact ⟨rfl, ⟨m1, hf⟩, HA.out.keep⟩
end Go.Proofs.Ytiilondhppipnaa
/- Mirror: the program's sink: Take. Conditions: as the contract names them. -/
namespace Go.Proofs.Ytiilondhppipnaa
open Go.RowKit
open MI

theorem MI.run_eq {h : List (Nat × It)} : ∀ {j n a : Nat}, j ≤ n → (∀ i, i < j → (AL.get h (a + i)).isSome = true) → AL.get h (a + j) = none → run h a n = j
  | 0, 0, _, _, _, _ => rfl
  | 0, n + 1, a, _, _, h0 => by
    rw [Nat.add_zero] at h0
    unfold run
    rw [h0]
    rfl
  | j + 1, 0, _, hj, _, _ => by omega
  | j + 1, n + 1, a, hj, h1, h0 => by
    unfold run
    have := h1 0 (by omega)
    rw [Nat.add_zero] at this
    rw [if_pos this, run_eq (j := j) (by omega) (fun i hi => by rw [show a + 1 + i = a + (i + 1) by omega]; exact h1 (i + 1) (by omega)) (by rw [show a + 1 + j = a + (j + 1) by omega]; exact h0)]
theorem MI.lastMark_le (h : List (Nat × It)) (c : Nat) : ∀ n, c ≤ lastMark h c n ∧ lastMark h c n ≤ c + n
  | 0 => ⟨Nat.le_refl _, Nat.le_refl _⟩
  | n + 1 => by
    unfold lastMark
    have := lastMark_le h c n
    split <;> omega

theorem SnkTo.since {b : Nat} {F : Nat → Prop} {w w1 w' : World} {k' : Snk} (h : SnkTo b F w1 k' w') (hk : Keep (fun _ => False) w w1) : SnkTo b F w k' w' := by
  obtain ⟨F', h1, h2, h3⟩ := h
  exact ⟨F', h1, hk.next h2 (fun _ _ x => x.elim) (fun _ _ x => x), fun k x => (h3 k x).imp id fun y => Nat.le_trans hk.size y⟩
theorem SnkAt.toLater {w w' : World} {b : Nat} {F : Nat → Prop} {k : Snk} (H : SnkAt w b F k) (hk : Keep (fun _ => False) w w') : SnkTo b F w k w' := (H.later hk).to.since hk

structure TakeRel (h : List (Nat × It)) (cut j last : Nat) : Prop where
  row : ∀ i, i < j → (AL.get h (cut + 1 + i)).isSome = true
  last : last = lastMark h cut j

set_option maxRecDepth 20000 in
set_option maxHeartbeats 2000000 in
theorem take_any (w : World) (b : Nat) (F : Nat → Prop) (k : Snk) (i : It) (hk : SnkAt w b F k) (hc : k.cut + k.held.length < 2305843009213693952) (hd : k.done.length + k.held.length + 1 ≤ 1000000) (hs : i.seq < 18446744073709551616) :
    Calls Try.prog 13 #[.pointer (some ⟨b, 0, none⟩), itVal i] w fun e w' => e = .returned (.int .i64 ((k.take i).2 : Int)) ∧ SnkTo b F w (k.take i).1 w' := by
  obtain ⟨p, h, m, H⟩ := hk
  obtain ⟨cut, done, held⟩ := k
  simp only at hc hd
  have H0 := hid H
  obtain ⟨R, hR⟩ : ∃ R, R = Snk.take ⟨cut, done, held⟩ i := ⟨_, rfl⟩
  rw [← hR]
  unfold Snk.take at hR
  simp only at hR
  obtain ⟨seq, mark, key, value, gone⟩ := i
  have HR := hid hR
  have hs' := hs
  simp only at hs
  have hn1 := heap_alloc_new w (.cells #[.int .u64 (seq : Int), .bool mark, .string (str key), .string (str value), .bool gone] 33)
  have hk1 : Keep (fun _ => False) w (w.alloc (.cells #[.int .u64 (seq : Int), .bool mark, .string (str key), .string (str value), .bool gone] 33)) := (Keep.refl _ _).alloc _
  obtain ⟨j0, j1, j2, j3, j4, jf, jb⟩ := cells5i hn1
  obtain ⟨rt, hrt⟩ : ∃ rt, rt = rightI ⟨seq, mark, key, value, gone⟩ := ⟨_, rfl⟩
  have Hrt := hid hrt
  have H1 := hid (And.intro hn1 hk1)
  clear H hR hn1 hk1 hrt hs'
  unfold itVal
  simp only
  go_enter Try.func13, Try.ntmps13
  go_wp2_with (at_builtin; refine stopAt ?_; intro q hq)
  clear j0 j1 j2 j3 j4 jf jb
  obtain ⟨w1, hw1⟩ : ∃ w1, w1 = w.alloc (.cells #[.int .u64 (seq : Int), .bool mark, .string (str key), .string (str value), .bool gone] 33) := ⟨_, rfl⟩
  rw [← hw1] at H1 ⊢
  clear hw1
  have hright := iright_any w1 ⟨seq, mark, key, value, gone⟩
  rw [← Hrt.out] at hright
  have hright := hid hright
  refine hright.out.mono ?_
  rintro e w2 ⟨rfl, hk2⟩
  have hk02 := hid (H1.out.2.next hk2 (fun _ _ x => x) (fun _ _ x => x))
  have hn2 := hk2.get H1.out.1 id
  have HN2 := hid hn2
  have H2 := hid (H0.out.keep hk02.out (fun _ _ x => x))
  clear hk2
  obtain ⟨j0, j1, j2, j3, j4, jf, jb⟩ := cells5i hn2
  obtain ⟨i0, i1, i2, if0, ib0⟩ := cells3i H2.out.head
  simp only at i0
  clear hn2
  cases rt with
  | false =>
    go_wp2_with (at_builtin; refine stopAt ?_; intro q hq)
    go_ret
    have hR := HR.out
    rw [← Hrt.out, if_pos rfl] at hR
    rw [hR]
    exact ⟨rfl, SnkAt.toLater ⟨p, h, m, H0.out⟩ hk02.out⟩
  | true =>
    have hR := HR.out
    rw [← Hrt.out, if_neg (by simp)] at hR
    clear HR
    have HR := hid hR
    clear hR
    go_wp2_with (at_builtin; refine stopAt ?_; intro q hq)
    go_quiet (fail)
    obtain ⟨w3, hw3⟩ : ∃ w3, w3 = w2.drewN nq := ⟨_, rfl⟩
    have hk23 : Keep (fun _ => False) w2 w3 := by rw [hw3]; exact (Keep.refl _ _).drewN _
    rw [← hw3]
    clear hw3 i0 i1 i2 if0 ib0 j0 j1 j2 j3 j4 jf jb
    have hk03 := hid (hk02.out.next hk23 (fun _ _ x => x) (fun _ _ x => x))
    have H3 := hid (H0.out.keep hk03.out (fun _ _ x => x))
    have HN3 := hid (hk23.get HN2.out id)
    clear hk23 HN2 H2 hk02 H1 hright
    by_cases hsc : seq ≤ cut
    · have t1 : decide ((seq : Int) ≤ (cut : Int)) = true := by simp; omega
      go_wp2_with (at_builtin; refine stopAt ?_; intro q hq)
      go_ret
      have hR := HR.out
      rw [if_pos hsc] at hR
      rw [hR]
      exact ⟨rfl, SnkAt.toLater ⟨p, h, m, H0.out⟩ hk03.out⟩
    have t1 : decide ((seq : Int) ≤ (cut : Int)) = false := by simp; omega
    have hR := HR.out
    rw [if_neg hsc] at hR
    clear HR
    have HR := hid hR
    clear hR
    obtain ⟨i0, i1, i2, if0, ib0⟩ := cells3i H3.out.head
    obtain ⟨j0, j1, j2, j3, j4, jf, jb⟩ := cells5i HN3.out
    simp only at i0
    have hlook : ∀ w', Pre w3 w' → _ := fun w' hp => MapAt.look2 (MapAt.pre H3.out.held hp) key_u64 (t := 75) Try.underlying75 (itZeroV w') seq hs
    simp only at hlook
    rw [get_itVal] at hlook
    obtain ⟨it, hit⟩ : ∃ it, it = (AL.get held seq).getD It.zero := ⟨_, rfl⟩
    obtain ⟨hs0, hhas⟩ : ∃ hs0, hs0 = (AL.get held seq).isSome := ⟨_, rfl⟩
    rw [← hit, ← hhas] at hlook
    have Hit := hid (And.intro hit hhas)
    obtain ⟨seq', mark', key', value', gone'⟩ := it
    simp only [itVal] at hlook
    clear hit hhas
    go_wp2_with (at_builtin; refine stopAt ?_; intro q hq)
    refine wp_region_canon [] (by kernel_rfl) (by kernel_rfl) ?_
    repeat (first | (apply wpC_pure (by rfl); (intro K w'; go_simp; exact id)) | (apply wpC_load (by rfl); (intro K; go_simp; exact id)))
    (apply wpC_still (by rfl); (intro K w' hp; have hlk := hlook w' ((Pre.refl _).drew.trans hp); go_simp; exact id))
    repeat (first | (apply wpC_pure (by rfl); (intro K w'; go_simp; exact id)) | (apply wpC_load (by rfl); (intro K; go_simp; exact id)))
    (refine wpC_new (by rfl) (by rfl) (fun K hK => ?_); go_simp; refine hK _ _ (Pre.push _ rfl) ?_; clear hK K)
    have hn4' : (w3.alloc (.cells itZero.cells 33)).drew.heap[w3.heap.size]? = some (.cells itZero.cells 33 (0, 0)) := heap_alloc_new w3 (.cells itZero.cells 33)
    have hk4 : Keep (fun _ => False) w3 (w3.alloc (.cells itZero.cells 33)).drew := ((Keep.refl _ _).alloc _).drew
    obtain ⟨w4, hw4⟩ : ∃ w4, w4 = (w3.alloc (.cells itZero.cells 33)).drew := ⟨_, rfl⟩
    simp only [itZero, Value.cells] at hw4
    rw [← hw4]
    simp only [itZero, Value.cells] at hk4 hn4'
    rw [← hw4] at hk4 hn4'
    clear hw4
    refine wpC_act (by rfl) (by rfl) (fun K hK => ?_)
    refine wp_store_row 33 (.tmp 5) (.tmp 34) rfl w3.heap.size rfl (itV ⟨seq', mark', key', value', gone'⟩) rfl 33 _ (0, 0) hn4' (Free.zero _) rfl (itV_oneCell _) (by kernel_rfl) ?_
    refine hK _ _ ?_
    clear hK K
    repeat (first | (apply wpC_pure (by rfl); (intro K w'; go_simp; exact id)) | (apply wpC_load (by rfl); (intro K; go_simp; exact id)))
    refine wpC_nil ?_
    have hn5 := setRow_heap w4 w3.heap.size _ (itV ⟨seq', mark', key', value', gone'⟩).toArray _ _ hn4'
    have hk5 : Keep (fun _ => False) w3 (w4.setRow w3.heap.size (itV ⟨seq', mark', key', value', gone'⟩).toArray) := Keep.setRow hk4 (.inr (Nat.le_refl _)) _
    obtain ⟨w5, hw5⟩ : ∃ w5, w5 = w4.setRow w3.heap.size (itV ⟨seq', mark', key', value', gone'⟩).toArray := ⟨_, rfl⟩
    rw [← hw5] at hn5 hk5 ⊢
    have hi5 := hk5.get HN3.out id
    have H5 := hid (H3.out.keep hk5 (fun _ _ x => x))
    have hk05 := hid (hk03.out.next hk5 (fun _ _ x => x) (fun _ _ x => x))
    clear hw5 hn4' hk4 hlook i0 i1 i2 if0 ib0 j0 j1 j2 j3 j4 jf jb hk5
    obtain ⟨j0, j1, j2, j3, j4, jf, jb⟩ := cells5i hi5
    obtain ⟨l0, l1, l2, l3, l4, lf, lb⟩ := cells5i hn5
    have HI5 := hid (And.intro hi5 hn5)
    clear hi5 hn5 H3 HN3 hk03
    cases hs0 with
    | true =>
      obtain ⟨o, ho⟩ := Option.isSome_iff_exists.1 Hit.out.2.symm
      have hov : o = ⟨seq', mark', key', value', gone'⟩ := by
        have := Hit.out.1
        rw [ho] at this
        exact this.symm
      have hR := HR.out
      rw [ho] at hR
      simp only at hR
      rw [hov] at hR
      have HR := hid hR
      clear hR hov ho
      go_wp2_with (at_builtin; refine stopAt ?_; intro q hq)
      all_goals go_ret
      all_goals
        have hT : SnkTo b F w ⟨cut, done, held⟩ w5 := SnkAt.toLater ⟨p, h, m, H0.out⟩ hk05.out
        have hR := HR.out
        simp only [str_toList] at *
        first
          | rw [if_pos (by rw [It.mk.injEq, Ch.mk.injEq]; exact ⟨by omega, by assumption, by assumption, by assumption, by assumption⟩)] at hR
          | rw [if_neg (by rw [It.mk.injEq, Ch.mk.injEq]; rintro ⟨e1, e2, e3, e4, e5⟩; first | contradiction | omega)] at hR
        rw [hR]
        exact ⟨rfl, hT⟩
    | false =>
      have hno : AL.get held seq = none := by
        have := Hit.out.2
        cases hg : AL.get held seq with
        | none => rfl
        | some x => rw [hg] at this; cases this
      have hR := HR.out
      rw [hno] at hR
      simp only at hR
      have HR := hid hR
      clear hR
      obtain ⟨dd, hdd⟩ : ∃ dd : Nat, dd = seq - cut := ⟨_, rfl⟩
      have hwd : IntKind.u64.wrap ((seq : Int) - (cut : Int)) = (dd : Int) := by rw [show ((seq : Int) - (cut : Int)) = (dd : Int) by omega]; exact wrapU64 _ (by omega)
      obtain ⟨i0, i1, i2, if0, ib0⟩ := cells3i H5.out.head
      simp only at i0
      rw [← hdd] at HR
      have Hdd := hid hdd
      clear hdd
      go_wp2_with (at_builtin; refine stopAt ?_; intro q hq)
      go_quiet (fail)
      obtain ⟨w6, hw6⟩ : ∃ w6, w6 = w5.drewN nq := ⟨_, rfl⟩
      have hk56 : Keep (fun _ => False) w5 w6 := by rw [hw6]; exact (Keep.refl _ _).drewN _
      rw [← hw6]
      clear hw6 i0 i1 i2 if0 ib0 j0 j1 j2 j3 j4 jf jb l0 l1 l2 l3 l4 lf lb
      have hk06 := hid (hk05.out.next hk56 (fun _ _ x => x) (fun _ _ x => x))
      have H6 := hid (H5.out.keep hk56 (fun _ _ x => x))
      have hi6 := hk56.get HI5.out.1 id
      have HI6 := hid hi6
      clear hk56 H5 HI5 hk05 hwd
      by_cases hfar : 512 < dd
      · have t2 : decide ((512 : Int) < (dd : Int)) = true := by simp; omega
        go_wp2_with (at_builtin; refine stopAt ?_; intro q hq)
        go_ret
        have hR := HR.out
        rw [if_pos hfar] at hR
        rw [hR]
        exact ⟨rfl, SnkAt.toLater ⟨p, h, m, H0.out⟩ hk06.out⟩
      have t2 : decide ((512 : Int) < (dd : Int)) = false := by simp; omega
      have hR := HR.out
      rw [if_neg hfar] at hR
      clear HR
      have HR := hid hR
      clear hR
      obtain ⟨i0, i1, i2, if0, ib0⟩ := cells3i H6.out.head
      obtain ⟨j0, j1, j2, j3, j4, jf, jb⟩ := cells5i hi6
      simp only at i0
      clear hi6
      have hhl : held.length < maxLen := by unfold maxLen; omega
      obtain ⟨w7, hrun7, hh7, hk7⟩ := MapAt.store (MapAt.keep H6.out.held ((Keep.refl (fun _ => False) w6).drew) id) key_u64 (t := 75) Try.underlying75 hhl seq hs ⟨seq, mark, ⟨key, value, gone⟩⟩
      have hk7 : Keep (fun i => i = h) w6 w7 := ((Keep.refl _ w6).drew).next hk7 (fun _ _ x => x) (fun _ _ x => x)
      simp only [itVal] at hrun7
      have H7 := hid (And.intro hh7 hk7)
      clear hh7 hk7
      go_wp2_with (at_builtin; refine stopAt ?_; intro q hq)
      refine wp_region_canon [] (by kernel_rfl) (by kernel_rfl) ?_
      repeat (first | (apply wpC_pure (by rfl); (intro K w'; go_simp; exact id)) | (apply wpC_load (by rfl); (intro K; go_simp; exact id)))
      (refine wpC_act (by rfl) (by rfl) (fun K hK => ?_); go_simp; refine hK _ _ ?_; clear hK K)
      refine wpC_nil ?_
      clear hrun7 i0 i1 i2 if0 ib0 j0 j1 j2 j3 j4 jf jb
      obtain ⟨h1, hh1⟩ : ∃ h1, h1 = AL.put held seq ⟨seq, mark, ⟨key, value, gone⟩⟩ := ⟨_, rfl⟩
      have hok1 : AL.Ok h1 := by rw [hh1]; exact H6.out.held.1.put _ _
      have hl1 : h1.length ≤ held.length + 1 := by
        rw [hh1]
        unfold AL.put AL.del
        rw [List.length_append, List.length_singleton]
        have := List.length_filter_le (fun p : Nat × It => !decide (p.1 = seq)) held
        omega
      have H1 : SnkIs w7 b p h F ⟨cut, done, h1⟩ m := by
        refine ⟨H7.out.2.get H6.out.head H6.out.bh, MapAt.keep H6.out.pairs H7.out.2 H6.out.ph, by rw [hh1]; exact H7.out.1, H6.out.self, H6.out.fp, H6.out.fh, H6.out.bp, H6.out.bh, H6.out.ph, fun x hx => Nat.lt_of_lt_of_le (H6.out.lt x hx) H7.out.2.size, H6.out.same, fun q hq => ?_⟩
        rw [hh1] at hq
        rcases List.mem_append.1 hq with hq | hq
        · exact H6.out.seqs q (List.mem_filter.1 hq).1
        · simp only [List.mem_singleton] at hq
          subst hq
          exact ⟨rfl, by simp only; omega, Hrt.out.symm⟩
      have hk07 := hid (show Keep F w w7 from hk06.out.next H7.out.2 (fun _ _ x => x.elim) (fun _ _ x => by rw [x]; exact H0.out.fh))
      have HS := hid H1
      have HR2 : Hid (∀ n, n = (Snk.next ⟨cut, done, h1⟩) - cut - 1 → R = (adv ⟨cut, done, h1⟩ (lastMark h1 cut n - cut), 0)) := hid fun n hn => by
        rw [HR.out, hn, hh1]
      have Hok := hid hok1
      clear HR H1 hh1 H6 HI6 H7 hok1
      obtain ⟨i0, i1, i2, if0, ib0⟩ := cells3i HS.out.head
      simp only at i0
      go_wp2_with (at_builtin; refine stopAt ?_; intro q hq)
      clear i0 i1 i2 if0 ib0
      go_loopw [7, 8] (fun lv av wr => ∃ a j l : Nat, lv = .int .u64 (l : Int) ∧ av = .int .u64 (a : Int) ∧ Hid (a = cut + 1 + j) ∧ Hid (TakeRel h1 cut j l) ∧ Hid (Keep (fun _ => False) w7 wr)) (fun _ av _ => cut + 1 + h1.length - (intOf av).toNat)
      case atStart => exact ⟨cut + 1, 0, cut, by go_num, by go_num, hid rfl, hid ⟨fun i hi => by omega, rfl⟩, hid (Keep.refl _ _)⟩
      case round =>
        obtain ⟨a, j, l, rfl, rfl, HA, HJ, HK⟩ := hrel
        have H3 := hid (HS.out.keep HK.out (fun _ _ x => x))
        have hj : j ≤ h1.length := row_len Hok.out (cut + 1) j HJ.out.row
        obtain ⟨i0, i1, i2, if0, ib0⟩ := cells3i H3.out.head
        simp only at i0
        have ha : a < 9223372036854775808 := by have := HA.out; omega
        have hlook := MapAt.look2 H3.out.held key_u64 (t := 75) Try.underlying75 (itZeroV wr) a (by omega)
        simp only at hlook
        cases hg : AL.get h1 a with
        | none =>
          rw [hg] at hlook
          have Hg := hid hg
          simp only [Option.map_none, Option.getD_none, Option.isSome_none, itZero] at hlook
          clear hg
          have hlm := lastMark_le h1 cut j
          rw [← HJ.out.last] at hlm
          have hjh : j ≤ held.length + 1 := by omega
          obtain ⟨n0, hn0⟩ : ∃ n0, l = cut + n0 := ⟨l - cut, by omega⟩
          subst hn0
          have hadv := fun w (HH : SnkIs w b p h F ⟨cut, done, h1⟩ m) => advance_any w b p h F ⟨cut, done, h1⟩ m n0 HH (by simp only; omega) (by simp only; omega)
          have Hadv := hid hadv
          clear hadv
          go_wp2_with (at_builtin; refine stopAt ?_; intro q hq)
          refine (Hadv.out _ (H3.out.keep ((Keep.refl (fun _ => False) wr).alloc _) (fun _ _ x => x))).mono ?_
          rintro e w9 ⟨rfl, ⟨m9, H9⟩, hk9⟩
          have HF := hid (And.intro H9 hk9)
          clear H9 hk9 i0 i1 i2 if0 ib0
          go_wp2_with (at_builtin; refine stopAt ?_; intro q hq)
          go_ret
          have hR := HR2.out j (by
            have e1 := HA.out
            have e2 := Hg.out
            rw [e1] at e2
            have e3 := run_eq (n := h1.length) (a := cut + 1) hj HJ.out.row e2
            unfold Snk.next
            simp only
            rw [e3]
            omega)
          rw [hR, ← HJ.out.last, show cut + n0 - cut = n0 by omega]
          exact ⟨rfl, F, ⟨p, h, m9, HF.out.1⟩, (hk07.out.next HK.out (fun _ _ x => x) (fun _ _ x => x.elim)).next (((Keep.refl (fun _ => False) wr).alloc _).next HF.out.2 (fun _ _ x => x.elim) (fun _ _ x => x)) (fun _ _ x => x) (fun _ _ x => x), fun _ x => .inl x⟩
        | some i =>
          rw [hg] at hlook
          have Hg := hid hg
          obtain ⟨seqa, marka, keya, valuea, gonea⟩ := i
          simp only [Option.map_some, Option.getD_some, Option.isSome_some, itVal] at hlook
          clear hg
          have HJ2 : ∀ l', l' = (if marka then cut + j + 1 else l) → Hid (TakeRel h1 cut (j + 1) l') := fun l' hl' => hid ⟨fun i hi => by
            by_cases hij : i = j
            · subst hij
              rw [← HA.out, Hg.out]
              rfl
            · exact HJ.out.row i (by omega), by
            have e : cut + j + 1 = a := by have := HA.out; omega
            unfold lastMark
            rw [e, Hg.out, hl', ← HJ.out.last, e]
            rfl⟩
          have hj2 : j + 1 ≤ h1.length := row_len Hok.out (cut + 1) (j + 1) (HJ2 _ rfl).out.row
          have HJ3 := hid HJ2
          clear HJ2
          cases marka with
          | true =>
            go_wp2_with (at_builtin; refine stopAt ?_; intro q hq)
            have ea := HA.out
            refine ⟨⟨a + 1, j + 1, a, by go_num, by go_num, hid (by omega), HJ3.out a (by simp; omega), hid (HK.out.alloc _)⟩, ?_⟩
            simp [intOf]
            omega
          | false =>
            go_wp2_with (at_builtin; refine stopAt ?_; intro q hq)
            have ea := HA.out
            refine ⟨⟨a + 1, j + 1, l, by go_num, by go_num, hid (by omega), HJ3.out l (by simp), hid (HK.out.alloc _)⟩, ?_⟩
            simp [intOf]
            omega
end Go.Proofs.Ytiilondhppipnaa
