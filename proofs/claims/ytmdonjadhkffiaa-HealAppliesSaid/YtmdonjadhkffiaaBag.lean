/- Texts Tail in one. Conditions: as each law names them. -/
import Derived.StillTail
import Derived.Test.YtmdonjadhkffiaaBad
/- A region that draws its order: first operations that change nothing that was there, then some that follow one another in any order: one walk in the order of the text. Conditions: the kit's Bool check over the region. -/
namespace Go.Proofs.Ytmdonjadhkffiaa
open Go.RowKit

section
variable {P : Program} {ops : Array Oper} {md : Region.Mode} {C : World → Prop}

/-- Of the first n operations f more come up, in whatever order; then L. -/
def headQ (P : Program) (md : Region.Mode) (ops : Array Oper) (C : World → Prop) (n : Nat) (L : Array Bool → Act → Prop) : Nat → Array Bool → Act → Prop
  | 0, done, a => L done a
  | f + 1, done, a => Region.ready md ops done ≠ [] ∧ ∀ i ∈ Region.ready md ops done, i < n ∧ qOp P ops C i (headQ P md ops C n L f (done.setIfInBounds i true)) a

theorem headQ.any {n g : Nat} {L : Array Bool → Act → Prop} {Q : Exit → Act → World → Prop} (hL : ∀ done a w, C w → L done a → wpAny P md ops Q g done a w) (f : Nat) :
    ∀ (done : Array Bool) (a : Act) (w : World), C w → headQ P md ops C n L f done a → wpAny P md ops Q (f + g) done a w := by
  induction f with
  | zero => intro done a w hw h; rw [Nat.zero_add]; exact hL _ _ _ hw h
  | succ f ih =>
    intro done a w hw h
    rw [Nat.succ_add]
    exact ⟨fun e => absurd e h.1, fun i hi => wpOp_of_qOp hw (fun a' w' hw' h' => ih _ a' w' hw' h') (h.2 i hi).2⟩

/-- What an operation waits for is known by the lists alone. -/
theorem waits_not {done : Array Bool} {i : Nat} {oj : Oper} (hi : i ∈ Region.ready md ops done) (hall : ∀ e ∈ oj.after, Region.binds md e = true → done.getD e.on false = true) : ∀ e ∈ oj.after, Region.binds md e = true → e.on ≠ i := by
  intro e he hb heq
  have h1 := hall e he hb
  rw [heq, getD_both (mem_ready.1 hi).1] at h1
  exact Bool.noConfusion h1

theorem headQ.first {n i : Nat} {oi : Oper} {v : Value} {L : Array Bool → Act → Prop} (hi : ops[i]? = some oi) (hsel : ∀ (j : Nat) (o : Oper) cs b, ops[j]? = some o → o.op ≠ .select cs b)
    (hs : Region.sinkB md ops n = true) (hc : Region.chainB md ops n = true) (hn : n < ops.size) (hin : i < n) (hend : ∀ done a, L done a → ∀ j ∈ Region.ready md ops done, n ≤ j) (f : Nat) :
    ∀ (done : Array Bool) (a : Act), HeadInv md ops n done →
      (∀ j oj, ops[j]? = some oj → j ≠ i → done.getD j true = false → (∀ e ∈ oj.after, Region.binds md e = true → e.on ≠ i) → oi.apart ops oj = true) →
      i ∈ Region.ready md ops done → YieldsIn P ops C oi v a → headQ P md ops C n L f (done.setIfInBounds i true) (a.put oi.dst v) → headQ P md ops C n L (f + 1) done a := by
  have inHead : ∀ {done : Array Bool} {j : Nat}, HeadInv md ops n done → i ∈ Region.ready md ops done → j ∈ Region.ready md ops done → j < n := fun {done j} inv hr hj =>
    Nat.lt_of_not_le fun h => tail_waits hs hc hn inv _ i rfl hin (mem_ready.1 hr).1 j h hj
  induction f with
  | zero =>
    intro done a inv _ hr hy H
    refine ⟨List.ne_nil_of_mem hr, fun j hj => ⟨inHead inv hr hj, ?_⟩⟩
    rcases Nat.decEq j i with hji | hji
    · have := hend _ _ H j (ready_mono hj hji)
      have := inHead inv hr hj
      omega
    · subst hji
      exact hy.qOp hi H
  | succ f ih =>
    intro done a inv hfree hr hy H
    refine ⟨List.ne_nil_of_mem hr, fun j hj => ⟨inHead inv hr hj, ?_⟩⟩
    rcases Nat.decEq j i with hji | hji
    · obtain ⟨hjun, oj, hoj, hall⟩ := mem_ready.1 hj
      have h2 := qOp_put hoj (hfree j oj hoj hji hjun (waits_not hr hall)) (fun cs b => hsel i oi cs b hi) (fun cs b => hsel j oj cs b hoj) hy (H.2 j (ready_mono hj hji)).2
      refine qOp_mono (fun a' h3 => ih (done.setIfInBounds j true) a' (inv.set hj (inHead inv hr hj)) (fun k ok hk hki hun => hfree k ok hk hki ?_) (ready_mono hr (Ne.symm hji)) h3.1 ?_) h2
      · rcases Nat.decEq j k with hjk | hjk
        · rwa [getD_set_ne true hjk] at hun
        · exact hjk ▸ hjun
      · rw [Array.setIfInBounds_comm _ _ hji]
        exact h3.2
    · subst hji
      exact hy.qOp hi H

theorem headQ.lex {n g : Nat} {R : Act → Prop} (hsel : Region.noSelect ops = true) (hs : Region.sinkB md ops n = true) (hc : Region.chainB md ops n = true) (hn : n < ops.size) (l : List Oper) :
    ∀ (k : Nat) (done : Array Bool) (a : Act), (∀ j, j < l.length → l[j]? = ops[k + j]?) → k + l.length = n → HeadInv md ops n done → Region.lexHead md ops g l.length k done = true → wpQuiet P ops C R l a →
      headQ P md ops C n (fun done' a' => Region.seqB md ops g n done' = true ∧ R a') l.length done a := by
  induction l with
  | nil =>
    intro k done a _ hk _ hB h
    obtain rfl : k = n := hk
    exact ⟨hB, h⟩
  | cons o l ih =>
    intro k done a hl hk inv hB h
    have h0 : ops[k]? = some o := (hl 0 (Nat.succ_pos _)).symm
    simp only [List.length_cons, Region.lexHead, Bool.and_eq_true, List.contains_iff_mem] at hB
    obtain ⟨⟨hr, hf⟩, hB'⟩ := hB
    rw [List.length_cons] at hk
    have hkn : k < n := by omega
    obtain ⟨v, hy, hK⟩ := yieldsIn_of_qOp (i := k) (K := wpQuiet P ops C R l) h0 (by unfold qOp; simp only [h0]; exact h)
    refine headQ.first h0 (Region.noSelect_spec hsel) hs hc hn hkn (fun done' a' hL => seqB_ready hL.1) l.length done a inv (Region.free_spec h0 hf) hr hy
      (ih (k + 1) _ _ (fun j hj => ?_) (by omega) (inv.set hr hkn) hB' hK)
    have := hl (j + 1) (Nat.succ_lt_succ hj)
    rwa [List.getElem?_cons_succ, show k + (j + 1) = k + 1 + j by omega] at this
end

theorem wp_region_tail {P : Program} {id : Nat} {Q : Exit → Act → World → Prop} {a : Act} {w : World} {l : List Oper} (n : Nat) (hm : P.follows .mixedOrders = true) (hB : Region.lexTailB .any l.toArray n = true)
    (h : wpQuiet P l.toArray (fun w' => ∃ s : Later w, w' = s.val) (fun a' => ∀ w', (∃ s : Later w, w' = s.val) → wpList P l.toArray Q (l.drop n) a' w') (l.take n) a) : (Code.region id l.toArray true).wp P Q a w := by
  simp only [Region.lexTailB, Bool.and_eq_true, decide_eq_true_eq] at hB
  obtain ⟨⟨⟨⟨hsel, hn⟩, hs⟩, hc⟩, hlex⟩ := hB
  have hn' : n < l.length := by simpa using hn
  have ht : (l.take n).length = n := List.length_take_of_le (Nat.le_of_lt hn')
  have hd : (l.drop n).length = l.toArray.size - n := by simp
  have inv : HeadInv .any l.toArray n (Array.replicate l.toArray.size false) :=
    ⟨by simp, fun j oj _ hl => (by rw [getD_replicate_false] at hl; cases hl), fun t _ h => getD_in (by simpa using h) (getD_replicate_false _ _)⟩
  have H := headQ.lex (md := .any) (g := l.toArray.size - n) hsel hs hc hn (l.take n) 0 _ a (fun j hj => by
    rw [ht] at hj
    simp [hj]) (by simpa using ht) inv (by rw [ht]; exact hlex) h
  have H2 := headQ.any (Q := Q) (g := l.toArray.size - n) (fun done a' w' hw hL => by
    have := wpAny_of_seq (md := .any) (Q' := Q) (l.drop n) n done a' w' (fun j => by simp [List.getElem?_drop]) (by rw [hd]; exact hL.1) (hL.2 w' hw)
    rwa [hd] at this) _ _ _ _ (show ∃ s : Later w, ({ w with drawn := w.drawn + 1 } : World) = s.val from ⟨⟨_, (Keep.refl _ w).drew⟩, rfl⟩) H
  rw [ht, show n + (l.toArray.size - n) = l.toArray.size by omega] at H2
  exact wp_region_any hm H2

/-! ### first operations that change nothing that was there, then a walk in the order of the text -/

theorem ahead_done {l : List Oper} {tbl : List Nat} (ht : tblOk l tbl = true) {done : Array Bool} (_hsz : done.size = l.length)
    (hcl : ∀ j oj, l[j]? = some oj → done.getD j false = true → ∀ e ∈ oj.after, Region.binds .any e = true → done.getD e.on false = true) (n : Nat) :
    ∀ (i j : Nat) (oi : Oper), i < n → j < i → l[i]? = some oi → (∀ e ∈ oi.after, Region.binds .any e = true → done.getD e.on false = true) → ahead tbl j i = true → done.getD j false = true := by
  induction n with
  | zero => intro i j oi hi; exact absurd hi (Nat.not_lt_zero _)
  | succ n ih =>
    intro i j oi hi hji hoi hall ha
    have hlt : i < l.length := (List.getElem?_eq_some_iff.1 hoi).1
    have h1 := List.all_eq_true.1 ht i (List.mem_range.2 hlt)
    simp only [hoi] at h1
    have h2 := List.all_eq_true.1 h1 j (List.mem_range.2 hji)
    simp only [ha, Bool.not_true, Bool.false_or] at h2
    obtain ⟨e, he, hb⟩ := Array.any_eq_true'.1 h2
    simp only [Bool.and_eq_true, Bool.or_eq_true, beq_iff_eq, decide_eq_true_eq] at hb
    obtain ⟨hb1, hb2⟩ := hb
    rcases hb2 with hb2 | ⟨⟨hb2, hje⟩, hb3⟩
    · rw [← hb2]; exact hall e he hb1
    · have hel := hall e he hb1
      obtain ⟨oe, hoe⟩ : ∃ oe, l[e.on]? = some oe := ⟨_, List.getElem?_eq_getElem (by omega)⟩
      exact ih e.on j oe (by omega) hje hoe (hcl _ _ hoe hel) hb3

def pairsFrom (fl : List Tmp) (l : List Oper) (tbl : List Nat) (n : Nat) : Bool :=
  (List.range l.length).all fun i => decide (i < n) || match l[i]? with
    | none => true
    | some oi => (oi.after.all fun e => !Region.binds .any e || decide (e.on < i)) && (List.range i).all fun j => decide (j < n) || match l[j]? with
      | none => true
      | some oj => ahead tbl j i || (oj.apart l.toArray oi && commKind (kindOf fl oj) (kindOf fl oi))
def headLex (ops : Array Oper) : Nat → Nat → Array Bool → Bool
  | 0, _, _ => true
  | f + 1, k, done => (Region.ready .any ops done).contains k && Region.free .any ops done k && headLex ops f (k + 1) (done.setIfInBounds k true)
/-- The check: each of the first n is ahead of number n, and that one is ahead of all that follow. -/
def mixB (fl : List Tmp) (l : List Oper) (n : Nat) : Bool :=
  Region.noSelect l.toArray && decide (n < l.length) && tblOk l (ancTable l []) && ((List.range n).all fun i => ahead (ancTable l []) i n) && ((List.range l.length).all fun t => decide (t ≤ n) || ahead (ancTable l []) n t) &&
    pairsFrom fl l (ancTable l []) n && headLex l.toArray n 0 (Array.replicate l.length false)

theorem wpAny_of_tail {P : Program} {fl : List Tmp} {Q : Exit → Act → World → Prop} {l : List Oper} (m : Nat) (hs : Region.noSelect l.toArray = true) (ht : tblOk l (ancTable l []) = true) (hp : pairsFrom fl l (ancTable l []) m = true) :
    ∀ (n : Nat) (r : List Nat) (listed : Array Bool) (a : Act) (w : World), r.length = n → (∀ i ∈ r, m ≤ i) → Inv l listed r →
      wpC P l.toArray fl Q (r.map fun k => l.getD k default) a w → wpAny P .any l.toArray Q n listed a w := by
  have hsel : ∀ (k : Nat) (o : Oper), l[k]? = some o → ∀ cs b, o.op ≠ .select cs b := fun k o hk cs b => Region.noSelect_spec hs k o cs b (by simpa using hk)
  have hpi : ∀ i oi, m ≤ i → l[i]? = some oi → (∀ e ∈ oi.after, Region.binds .any e = true → e.on < i) ∧ ∀ j oj, m ≤ j → j < i → l[j]? = some oj → ahead (ancTable l []) j i = true ∨ (oj.apart l.toArray oi = true ∧ commKind (kindOf fl oj) (kindOf fl oi) = true) := by
    intro i oi hmi hoi
    have hlt : i < l.length := (List.getElem?_eq_some_iff.1 hoi).1
    have h1 := List.all_eq_true.1 hp i (List.mem_range.2 hlt)
    rw [decide_eq_false (by omega), Bool.false_or, hoi] at h1
    simp only [Bool.and_eq_true] at h1
    refine ⟨fun e he hb => ?_, fun j oj hmj hji hoj => ?_⟩
    · have h2 := Array.all_eq_true_iff_forall_mem.1 h1.1 e he
      simpa [hb] using h2
    · have h2 := List.all_eq_true.1 h1.2 j (List.mem_range.2 hji)
      rw [decide_eq_false (by omega), Bool.false_or, hoj] at h2
      simpa only [Bool.or_eq_true, Bool.and_eq_true] using h2
  intro n
  induction n with
  | zero =>
    intro r listed a w hn _ inv h
    obtain rfl : r = [] := List.eq_nil_of_length_eq_zero hn
    refine ⟨List.eq_nil_iff_forall_not_mem.2 fun i hi => ?_, h⟩
    obtain ⟨hun, oi, hoi, _⟩ := mem_ready.1 hi
    have hlt : i < l.length := by simpa using (Array.getElem?_eq_some_iff.1 hoi).1
    simpa using (inv.mem i).2 ⟨hlt, hun⟩
  | succ n ih =>
    intro r listed a w hn hmr inv h
    refine ⟨fun hnil => ?_, fun i hi => ?_⟩
    · exfalso
      match r, hn with
      | i :: r', _ =>
        obtain ⟨hlt, hun⟩ := (inv.mem i).1 (by simp)
        have hoi : l[i]? = some l[i] := List.getElem?_eq_getElem hlt
        have hmem : i ∈ Region.ready .any l.toArray listed := by
          refine mem_ready.2 ⟨hun, l[i], by simp [hlt], fun e he hb => ?_⟩
          have h2 := (hpi i _ (hmr i (by simp)) hoi).1 e he hb
          cases hl : listed.getD e.on false with
          | true => rfl
          | false =>
            exfalso
            have hl' : listed.getD e.on true = false := by
              have hsz : e.on < listed.size := by rw [inv.size]; omega
              simp [hsz] at hl ⊢; exact hl
            have hin := (inv.mem e.on).2 ⟨by omega, hl'⟩
            have hso := inv.sorted
            rw [List.pairwise_cons] at hso
            rcases List.mem_cons.1 hin with h3 | h3
            · omega
            · have := hso.1 _ h3; omega
        rw [hnil] at hmem
        cases hmem
    · obtain ⟨hun, oi, hoi, hall⟩ := mem_ready.1 hi
      have hlt : i < l.length := by simpa using (Array.getElem?_eq_some_iff.1 hoi).1
      have hoi' : l[i]? = some oi := by simpa using hoi
      have hin := (inv.mem i).2 ⟨hlt, hun⟩
      obtain ⟨pre, post, rfl⟩ := List.append_of_mem hin
      rw [map_getD_append] at h
      rw [show l.getD i default = oi by simp [hoi']] at h
      have hso := inv.sorted
      rw [List.pairwise_append] at hso
      have hmv := wpC_move (hsel i oi hoi') (pre.map fun k => l.getD k default) (post.map fun k => l.getD k default) a w ?_ h
      · rw [← List.map_append] at hmv
        refine wpOp_mono (fun a' w' h' => ih (pre ++ post) _ a' w' ?_ (fun j hj => hmr j ?_) (inv.set hi) h') (wpOp_of_wpO hoi hmv)
        · simp at hn ⊢
          omega
        · rcases List.mem_append.1 hj with x | x <;> simp [x]
      · intro o ho
        obtain ⟨j, hj, rfl⟩ := List.mem_map.1 ho
        have hji : j < i := hso.2.2 j hj i (by simp)
        obtain ⟨hjl, hjun⟩ := (inv.mem j).1 (by simp [hj])
        have hoj : l[j]? = some l[j] := List.getElem?_eq_getElem hjl
        rw [show l.getD j default = l[j] by simp [hjl]]
        rcases (hpi i oi (hmr i hin) hoi').2 j _ (hmr j (by simp [hj])) hji hoj with h2 | h2
        · exfalso
          have h3 := ahead_done ht inv.size inv.closed (i + 1) i j oi (by omega) hji hoi' hall h2
          have hsz : j < listed.size := by rw [inv.size]; exact hjl
          simp [hsz] at h3 hjun
          rw [h3] at hjun
          cases hjun
        · exact ⟨h2.1, hsel j _ hoj, h2.2⟩

section
variable {P : Program} {C : World → Prop} {l : List Oper}

theorem mix_wait {n : Nat} (ht : tblOk l (ancTable l []) = true) (h1 : ((List.range n).all fun i => ahead (ancTable l []) i n) = true) (h2 : ((List.range l.length).all fun t => decide (t ≤ n) || ahead (ancTable l []) n t) = true) (hn : n < l.length)
    {done : Array Bool} (inv : HeadInv .any l.toArray n done) {i : Nat} (hi : i < n) (hun : done.getD i true = false) {t : Nat} (hr : t ∈ Region.ready .any l.toArray done) : t < n := by
  obtain ⟨_, ot, hot, hall⟩ := mem_ready.1 hr
  have hot' : l[t]? = some ot := by simpa using hot
  have htl : t < l.length := (List.getElem?_eq_some_iff.1 hot').1
  have hsz : done.size = l.length := by rw [inv.size]; simp
  have hcl : ∀ j oj, l[j]? = some oj → done.getD j false = true → ∀ e ∈ oj.after, Region.binds .any e = true → done.getD e.on false = true := fun j oj hj => inv.closed j oj (by simpa using hj)
  rcases Nat.lt_trichotomy t n with x | x | x
  · exact x
  · subst x
    have := ahead_done ht hsz hcl (t + 1) t i ot (Nat.lt_succ_self _) hi hot' hall (List.all_eq_true.1 h1 i (List.mem_range.2 hi))
    rw [getD_both hun] at this
    cases this
  · have h3 := List.all_eq_true.1 h2 t (List.mem_range.2 htl)
    rw [decide_eq_false (by omega), Bool.false_or] at h3
    have := ahead_done ht hsz hcl (t + 1) t n ot (Nat.lt_succ_self _) x hot' hall h3
    rw [getD_both (inv.tail n (Nat.le_refl _) (by simpa using hn))] at this
    cases this

theorem headQ.first2 {n i : Nat} {oi : Oper} {v : Value} {L : Array Bool → Act → Prop} (hi : l.toArray[i]? = some oi) (hsel : ∀ (j : Nat) (o : Oper) cs b, l.toArray[j]? = some o → o.op ≠ .select cs b)
    (hw : ∀ done, HeadInv .any l.toArray n done → ∀ i, i < n → done.getD i true = false → ∀ t, t ∈ Region.ready .any l.toArray done → t < n) (hin : i < n) (hend : ∀ done a, L done a → ∀ j ∈ Region.ready .any l.toArray done, n ≤ j) (f : Nat) :
    ∀ (done : Array Bool) (a : Act), HeadInv .any l.toArray n done →
      (∀ j oj, l.toArray[j]? = some oj → j ≠ i → done.getD j true = false → (∀ e ∈ oj.after, Region.binds .any e = true → e.on ≠ i) → oi.apart l.toArray oj = true) →
      i ∈ Region.ready .any l.toArray done → YieldsIn P l.toArray C oi v a → headQ P .any l.toArray C n L f (done.setIfInBounds i true) (a.put oi.dst v) → headQ P .any l.toArray C n L (f + 1) done a := by
  induction f with
  | zero =>
    intro done a inv _ hr hy H
    refine ⟨List.ne_nil_of_mem hr, fun j hj => ?_⟩
    have hjn := hw done inv i hin (mem_ready.1 hr).1 j hj
    refine ⟨hjn, ?_⟩
    rcases Nat.decEq j i with hji | hji
    · have := hend _ _ H j (ready_mono hj hji)
      omega
    · subst hji
      exact hy.qOp hi H
  | succ f ih =>
    intro done a inv hfree hr hy H
    refine ⟨List.ne_nil_of_mem hr, fun j hj => ?_⟩
    have hjn := hw done inv i hin (mem_ready.1 hr).1 j hj
    refine ⟨hjn, ?_⟩
    rcases Nat.decEq j i with hji | hji
    · obtain ⟨hjun, oj, hoj, hall⟩ := mem_ready.1 hj
      have h2 := qOp_put hoj (hfree j oj hoj hji hjun (waits_not hr hall)) (fun cs b => hsel i oi cs b hi) (fun cs b => hsel j oj cs b hoj) hy (H.2 j (ready_mono hj hji)).2
      refine qOp_mono (fun a' h3 => ih (done.setIfInBounds j true) a' (inv.set hj hjn) (fun k ok hk hki hun => hfree k ok hk hki ?_) (ready_mono hr (Ne.symm hji)) h3.1 ?_) h2
      · rcases Nat.decEq j k with hjk | hjk
        · rwa [getD_set_ne true hjk] at hun
        · exact hjk ▸ hjun
      · rw [Array.setIfInBounds_comm _ _ hji]
        exact h3.2
    · subst hji
      exact hy.qOp hi H

theorem headQ.lex2 {n : Nat} {R : Act → Prop} (hsel : Region.noSelect l.toArray = true) (hn : n < l.length)
    (hw : ∀ done, HeadInv .any l.toArray n done → ∀ i, i < n → done.getD i true = false → ∀ t, t ∈ Region.ready .any l.toArray done → t < n) (m : List Oper) :
    ∀ (k : Nat) (done : Array Bool) (a : Act), (∀ j, j < m.length → m[j]? = l[k + j]?) → k + m.length = n → HeadInv .any l.toArray n done → (∀ j, j < k → done.getD j false = true) → headLex l.toArray m.length k done = true → wpQuiet P l.toArray C R m a →
      headQ P .any l.toArray C n (fun done' a' => Inv l done' (List.range' n (l.length - n)) ∧ R a') m.length done a := by
  induction m with
  | nil =>
    intro k done a _ hk inv hd _ h
    obtain rfl : k = n := hk
    have hsz : done.size = l.length := by rw [inv.size]; simp
    refine ⟨⟨List.pairwise_lt_range', fun i => ?_, hsz, fun j oj hj => inv.closed j oj (by simpa using hj)⟩, h⟩
    rw [List.mem_range'_1]
    constructor
    · rintro ⟨x, y⟩
      exact ⟨by omega, inv.tail i x (by simp; omega)⟩
    · rintro ⟨x, y⟩
      refine ⟨?_, by omega⟩
      rcases Nat.lt_or_ge i k with z | z
      · have h1 := hd i z
        have h2 := getD_both y
        rw [h1] at h2
        cases h2
      · exact z
  | cons o m ih =>
    intro k done a hl hk inv hd hB h
    have h0 : l.toArray[k]? = some o := by simpa using (hl 0 (Nat.succ_pos _)).symm
    simp only [List.length_cons, headLex, Bool.and_eq_true, List.contains_iff_mem] at hB
    obtain ⟨⟨hr, hf⟩, hB'⟩ := hB
    rw [List.length_cons] at hk
    have hkn : k < n := by omega
    obtain ⟨v, hy, hK⟩ := yieldsIn_of_qOp (i := k) (K := wpQuiet P l.toArray C R m) h0 (by unfold qOp; simp only [h0]; exact h)
    refine headQ.first2 h0 (Region.noSelect_spec hsel) hw hkn (fun done' a' hL j hj => ?_) m.length done a inv (Region.free_spec h0 hf) hr hy
      (ih (k + 1) _ _ (fun j hj => ?_) (by omega) (inv.set hr hkn) (fun j hj => ?_) hB' hK)
    · obtain ⟨hun, oj, hoj, _⟩ := mem_ready.1 hj
      exact (List.mem_range'_1.1 ((hL.1.mem j).2 ⟨by simpa using (Array.getElem?_eq_some_iff.1 hoj).1, hun⟩)).1
    · have := hl (j + 1) (Nat.succ_lt_succ hj)
      rwa [List.getElem?_cons_succ, show k + (j + 1) = k + 1 + j by omega] at this
    · rcases Nat.lt_or_eq_of_le (Nat.le_of_lt_succ hj) with x | x
      · exact getD_set_true (hd j x)
      · subst x
        have hsz : j < done.size := by rw [inv.size]; simp; omega
        simp [hsz]
end

theorem wpC_newW {P : Program} {ops : Array Oper} {fl : List Tmp} {Q : Exit → Act → World → Prop} {a : Act} {w : World} {o : Oper} {rest : List Oper} (hk : kindOf fl o = 3) (hw : Region.wanted o (yielded ops a.tmps) = true)
    (h : ∀ K : Act → World → Prop, (∀ a' w', Pre w w' → wpC P ops fl Q rest a' w' → K a' w') → o.wp P a w K noQ) : wpC P ops fl Q (o :: rest) a w := by
  show wpO _ _ _ _ _ _ _
  unfold wpO
  rw [if_pos hw, if_neg (by omega)]
  exact Oper.wp_mono (fun a' w' hh => ⟨fun _ => hh.1, hh.2⟩) (h (fun a' w' => Pre w w' ∧ wpC P ops fl Q rest a' w') fun _ _ hp hh => ⟨hp, hh⟩)

theorem wp_region_mix {P : Program} {id : Nat} {Q : Exit → Act → World → Prop} {a : Act} {w : World} {l : List Oper} (fl : List Tmp) (n : Nat) (hm : P.follows .mixedOrders = true) (hB : mixB fl l n = true)
    (h : wpQuiet P l.toArray (fun w' => ∃ s : Later w, w' = s.val) (fun a' => ∀ w', (∃ s : Later w, w' = s.val) → wpC P l.toArray fl Q (l.drop n) a' w') (l.take n) a) : (Code.region id l.toArray true).wp P Q a w := by
  simp only [mixB, Bool.and_eq_true, decide_eq_true_eq] at hB
  obtain ⟨⟨⟨⟨⟨⟨hsel, hn⟩, ht⟩, h1⟩, h2⟩, hp⟩, hlex⟩ := hB
  have htk : (l.take n).length = n := List.length_take_of_le (Nat.le_of_lt hn)
  have inv : HeadInv .any l.toArray n (Array.replicate l.length false) :=
    ⟨by simp, fun j oj _ hl => (by rw [getD_replicate_false] at hl; cases hl), fun t _ h => getD_in (by simpa using h) (getD_replicate_false _ _)⟩
  have H := headQ.lex2 (R := fun a' => ∀ w', (∃ s : Later w, w' = s.val) → wpC P l.toArray fl Q (l.drop n) a' w') hsel hn (fun done inv i hi hun t hr => mix_wait ht h1 h2 hn inv hi hun hr) (l.take n) 0 _ a (fun j hj => by
    rw [htk] at hj
    simp [hj]) (by simpa using htk) inv (fun j hj => by omega) (by rw [htk]; exact hlex) h
  have hmap : (List.range' n (l.length - n)).map (fun k => l.getD k default) = l.drop n := by
    apply List.ext_getElem
    · simp
    · intro i a b
      simp at a
      simp [List.getElem_range', List.getElem?_eq_getElem (show n + i < l.length by omega)]
  have H2 := headQ.any (Q := Q) (g := l.length - n) (fun done a' w' hw hL => wpAny_of_tail n hsel ht hp (l.length - n) (List.range' n (l.length - n)) done a' w' (by simp) (fun i hi => (List.mem_range'_1.1 hi).1) hL.1 (by rw [hmap]; exact hL.2 w' hw)) _ _ _ _ (show ∃ s : Later w, ({ w with drawn := w.drawn + 1 } : World) = s.val from ⟨⟨_, (Keep.refl _ w).drew⟩, rfl⟩) H
  rw [htk, show n + (l.length - n) = l.length by omega] at H2
  exact wp_region_any hm (by simpa using H2)
end Go.Proofs.Ytmdonjadhkffiaa
