/- span: a contract for Split at a shape and a request that may be. Conditions: as the contract names them. -/
import Derived.Test.YtmbfglblkpipcaaSpanW
namespace Go.Proofs.Ytmbfglblkpipcaa
open Go.RowKit
open SM

/-- One cell of a row set, whatever an element's size. -/
theorem Row.setAny {w w' : World} {e : TypeId} {g n size cap : Nat} {xs : List Value} (h : Row w e size (.slice (.some ⟨g, 0, none⟩) n cap) n xs) (i : Nat) (u : Value) (hw : w' = w.setCell ⟨g, i, none⟩ u) :
    Row w' e size (.slice (.some ⟨g, 0, none⟩) n cap) n (xs.set i u) := by
  subst hw
  obtain ⟨h0, h⟩ := h
  rcases h with ⟨hv, _⟩ | ⟨g', cap', cur, fz, hv, hg, hf, h1, h2, h3, h4⟩
  · cases hv
  · cases hv
    refine ⟨by simpa using h0, .inr ⟨g, cap, cur.setIfInBounds i u, fz, rfl, ?_, by simpa using hf, h1, h2, by simpa using h3, ?_⟩⟩
    · simp [World.setCell]
      rw [Array.getElem?_modify]
      simp [hg]
    · rw [← h4]
      simp only [Array.toList_setIfInBounds]
      rw [List.take_set]

def pcV (p : Pc) : List Value := [.int .i64 (p.c : Int), .int .i64 (p.a : Int), .int .i64 (p.f : Int), .int .i64 (p.n : Int)]
def pcsV (l : List Pc) : List Value := l.flatMap pcV
theorem pcsV_length (l : List Pc) : (pcsV l).length = l.length * 4 := by
  induction l with
  | nil => rfl
  | cons p l ih => simp only [pcsV, List.flatMap_cons, List.length_append, List.length_cons] at *; rw [ih]; simp [pcV]; omega
theorem pcsV_append (l m : List Pc) : pcsV (l ++ m) = pcsV l ++ pcsV m := by simp [pcsV]
theorem pcsV_one (p : Pc) : pcsV [p] = pcV p := by simp [pcsV]
theorem pcsV_oneCell (l : List Pc) : ∀ u ∈ pcsV l, u.oneCell' = true := by
  intro u hu
  simp only [pcsV, List.mem_flatMap, pcV, List.mem_cons, List.not_mem_nil, or_false] at hu
  obtain ⟨p, _, rfl | rfl | rfl | rfl⟩ := hu <;> rfl
theorem pcsV_get (l : List Pc) (i : Nat) (hi : i < l.length) (j : Nat) (hj : j < 4) : (pcsV l)[i * 4 + j]? = (pcV l[i])[j]? := by
  have e : l = l.take i ++ [l[i]] ++ l.drop (i + 1) := by simp
  have hl : (pcsV (l.take i)).length = i * 4 := by rw [pcsV_length, List.length_take]; omega
  conv => lhs; rw [e]
  rw [pcsV_append, pcsV_append, List.append_assoc, List.getElem?_append_right (by omega), hl, pcsV_one, show i * 4 + j - i * 4 = j by omega]
  rw [List.getElem?_append_left (by simp [pcV]; omega)]
theorem pcsV_more (l : List Pc) (p : Pc) (m : Nat) : (pcsV (l ++ [p])).set (l.length * 4 + 3) (.int .i64 ((p.n : Int) + m)) = pcsV (l ++ [{ p with n := p.n + m }]) := by
  rw [pcsV_append, pcsV_append, pcsV_one, pcsV_one, List.set_append_right _ _ (by rw [pcsV_length]; omega), pcsV_length]
  simp [pcV]
def pcZero : Value := .agg #[.int .i64 0, .int .i64 0, .int .i64 0, .int .i64 0]
theorem ty_pieces : SliceTy Try.prog 28 34 pcZero 4 32 := ⟨by kernel_rfl, by kernel_rfl, rfl, by decide⟩

theorem Cov.few {C W U lba k : Nat} {l : List Pc} (h : Cov C W U lba l k) : l.length ≤ k := by
  have : ∀ m : List Pc, (∀ p ∈ m, 1 ≤ p.n) → m.length ≤ sumN m := by
    intro m
    induction m with
    | nil => intro _; simp
    | cons p m ih =>
      intro hm
      have h1 := ih fun q hq => hm q (by simp [hq])
      have h2 := hm p (by simp)
      simp only [sumN, List.map_cons, List.sum_cons, List.length_cons] at *
      omega
  have := this l fun p hp => (h.lies p hp).pos
  rwa [h.all] at this

theorem Boxed.beside {w w1 w2 : World} {B C W U : Nat} {F : Nat → Prop} (h : Boxed w B C W U w1) (hk : Keep F w1 w2) (hn : ∀ b, F b → w.heap.size < b) : Boxed w B C W U w2 :=
  ⟨hk.get h.at_ (fun x => by have := hn _ x; omega), h.keep.next hk (fun _ _ x => x) (fun i hi x => by have := hn _ x; omega)⟩

structure SplitRel (w : World) (B C W U lba : Nat) (from_ : Nat) (v : Value) (l : List Pc) (wr : World) : Prop where
  box : Boxed w B C W U wr
  row : Row wr 34 4 v l.length (pcsV l)
  cov : Cov C W U lba l from_
  few : Few l
  own : ∀ b, v.ownBlock = some b → w.heap.size < b

set_option maxRecDepth 20000 in
set_option maxHeartbeats 2000000 in
theorem split_ok (B C W U lba k : Nat) (h : ShOk B C W U) (hk : k ≤ 65536) (hl : lba + k ≤ B) (w : World) :
    Calls Try.prog 10 #[.agg #[.int .u64 B, .int .i64 C, .int .i64 W, .int .i64 U], .int .u64 lba, .int .i64 k] w fun e w' =>
      ∃ v l, e = .returned (.tuple #[v, .int .i64 0]) ∧ Row w' 34 4 v l.length (pcsV l) ∧ Cov C W U lba l k ∧ Few l ∧ Keep (fun _ => False) w w' ∧ (∀ b, v.ownBlock = some b → w.heap.size ≤ b) := by
  have u0 := h.u0
  have u1 := h.u1
  have w0 := h.w0
  have c0 := h.c0
  have c1 := h.c1
  have b1 := h.b1
  obtain ⟨m, hm⟩ : ∃ m, C = U * m := ⟨C / U, by have := Nat.div_add_mod C U; rw [h.cu] at this; omega⟩
  have hm0 : 0 < m := by rcases Nat.eq_zero_or_pos m with x | x; (subst x; omega); exact x
  have HM := hid hm
  clear hm
  go_enter Try.func10, Try.ntmps10
  go_wp2_with (at_builtin; refine stopAt ?_; intro q hq)
  (obtain ⟨w1, hbox⟩ : ∃ wbx, wbx = w.alloc (.cells #[.int .u64 B, .int .i64 C, .int .i64 W, .int .i64 U] 25) := ⟨_, rfl⟩; have X1 := Boxed.new w B C W U; rw [← hbox] at X1 ⊢; clear hbox)
  refine (check_ok B C W U h w1).mono ?_
  rintro e w2 ⟨rfl, hk2⟩
  have X2 := X1.step hk2
  obtain ⟨i0, i1, i2, i3, if1, ib1⟩ := cells4 X2.at_
  clear X1 hk2
  have d1 : decide ((k : Int) < 0) = false := by simp
  have d2 : decide (65536 < k) = false := by simp; omega
  have d3 : decide (B < lba) = false := by simp; omega
  have R1 := hid (SplitRel.mk (w := w) (B := B) (C := C) (W := W) (U := U) (lba := lba) (from_ := 0) (v := .slice none 0 0) (l := []) X2 (Row.nil _ _ _) (Cov.nil _ _ _ _) Few.nil (fun b e => by simp [Value.ownBlock] at e))
  clear X2
  go_wp2_with (at_builtin; refine stopAt ?_; intro q hq)
  clear i0 i1 i2 i3 if1 ib1 d1 d2 d3
  go_loopw [9, 10] (fun v fv wr => ∃ (fr : Nat) (l : List Pc), fr ≤ k ∧ fv = .int .i64 fr ∧ Hid (SplitRel w B C W U lba fr v l wr)) (fun _ fv _ => k - (intOf fv).toNat)
  case atStart => exact ⟨0, [], Nat.zero_le _, rfl, R1⟩
  case round =>
    clear R1
    obtain ⟨fr, l, hfr, rfl, HR⟩ := hrel
    by_cases hlt : fr < k
    · have h4 : (fr : Int) < k := by omega
      obtain ⟨i0, i1, i2, i3, if1, ib1⟩ := cells4 HR.out.box.at_
      go_wp2_with (at_builtin; refine stopAt ?_; intro q hq)
      rw [← Int.natCast_add]
      refine (where_any B C W U (lba + fr) h (by omega) wr).mono ?_
      rintro e w3 ⟨rfl, hk3⟩
      have a1 : (wh C W U (lba + fr)).2 < C := wh_at_lt w0 u0 HM.out hm0
      have a2 : (wh C W U (lba + fr)).1 < B := by
        obtain ⟨q, hq⟩ : ∃ q, B = q * (W * C) := ⟨B / (W * C), by have := Nat.div_add_mod' B (W * C); rw [h.bs] at this; omega⟩
        have h1 := wh_chunk_lt (C := C) (U := U) (q := q) (x := lba + fr) w0 (by rw [← hq]; omega)
        have h2 : q * W ≤ q * (W * C) := by rw [← Nat.mul_assoc]; exact Nat.le_mul_of_pos_right _ c0
        omega
      have HL := hid (fun n (hn : n ≤ U - (wh C W U (lba + fr)).2 % U) => step_lies u0 w0 hm0 HM.out hn)
      obtain ⟨ch, hch⟩ : ∃ c, c = (wh C W U (lba + fr)).1 := ⟨_, rfl⟩
      obtain ⟨a, ha⟩ : ∃ c, c = (wh C W U (lba + fr)).2 := ⟨_, rfl⟩
      rw [← hch] at a2
      rw [← ha] at a1
      rw [← hch, ← ha] at HL ⊢
      clear hch ha
      have a3 : a % U < U := Nat.mod_lt _ u0
      obtain ⟨r, hr⟩ : ∃ r, r = a % U := ⟨_, rfl⟩
      have r0 : (a : Int) % (U : Int) = (r : Int) := by rw [hr]; exact (Int.natCast_emod _ _).symm
      rw [← hr] at a3 HL
      have HR3 := hid (And.intro (HR.out.box.step hk3) (And.intro (HR.out.row.keep hk3 (fun _ _ x => x)) (And.intro HR.out.cov (And.intro HR.out.few HR.out.own))))
      clear i0 i1 i2 i3 if1 ib1 hk3 hr HR
      obtain ⟨i0, i1, i2, i3, if1, ib1⟩ := cells4 HR3.out.1.at_
      obtain ⟨ao, cap, rfl, hcap, hmax, -⟩ := HR3.out.2.1.form
      have hU : (U : Int) ≠ 0 := by omega
      have hlen : l.length ≤ fr := Cov.few HR3.out.2.2.1
      go_wp2_with (at_builtin; refine stopAt ?_; intro q hq)
      go_quiet (fail)
      obtain ⟨n, hn⟩ : ∃ n, n = min (U - r) (k - fr) := ⟨_, rfl⟩
      have hn1 : 1 ≤ n := by omega
      have hn2 : n ≤ U - r := by omega
      have hn3 : n ≤ k - fr := by omega
      have en : (if (k : Int) - (fr : Int) < (U : Int) - (r : Int) then (k : Int) - (fr : Int) else (U : Int) - (r : Int)) = (n : Int) := by split <;> omega
      rw [en]
      clear en hn
      have kS : Keep (fun _ => False) w3 (w3.drewN nq) := (Keep.refl _ _).drewN nq
      have HR4 := hid (And.intro (HR3.out.1.step kS) (And.intro (HR3.out.2.1.keep kS (fun _ _ x => x)) HR3.out.2.2))
      obtain ⟨wS, hwS⟩ : ∃ wS, wS = w3.drewN nq := ⟨_, rfl⟩
      rw [← hwS] at HR4 ⊢
      clear HR3 kS hwS i0 i1 i2 i3 if1 ib1
      obtain ⟨len, hle⟩ : ∃ n, n = l.length := ⟨_, rfl⟩
      rw [← hle] at hcap hlen HR4 ⊢
      rcases List.eq_nil_or_concat l with hnil | ⟨l', p, hcat⟩
      · obtain rfl : len = 0 := by rw [hle, hnil]; rfl
        have hlast : ∀ q, l.getLast? = some q → ¬ (q.c = ch ∧ q.a + q.n = a) := by rw [hnil]; intro q hq; simp at hq
        have Hle := hid hle
        clear hnil hle
        go_wp2_with (at_builtin; refine stopAt ?_; intro q hq)
        go_quiet (fail)
        have kT : Keep (fun _ => False) wS (wS.drewN nq) := (Keep.refl _ _).drewN nq
        have HR5 := hid (And.intro (HR4.out.1.step kT) (And.intro (HR4.out.2.1.keep kT (fun _ _ x => x)) HR4.out.2.2))
        obtain ⟨wT, hwT⟩ : ∃ wT, wT = wS.drewN nq := ⟨_, rfl⟩
        rw [← hwT] at HR5 ⊢
        clear HR4 kT hwT
        go_wp2_with (at_builtin; refine stopAt ?_; intro q hq)
        (refine hq.out ?_; clear hq q)
        obtain ⟨hbox, hrow, hcov, hfew, hown⟩ := HR5.out
        have hn4 := heap_alloc_new wT (.cells #[.int .i64 (ch : Int), .int .i64 (a : Int), .int .i64 (fr : Int), .int .i64 (n : Int)] 34)
        have hk4 : Keep (fun _ => False) wT (wT.alloc (.cells #[.int .i64 (ch : Int), .int .i64 (a : Int), .int .i64 (fr : Int), .int .i64 (n : Int)] 34)) := (Keep.refl _ _).alloc _
        obtain ⟨w5, hw5⟩ : ∃ w5, w5 = wT.alloc (.cells #[.int .i64 (ch : Int), .int .i64 (a : Int), .int .i64 (fr : Int), .int .i64 (n : Int)] 34) := ⟨_, rfl⟩
        rw [← hw5] at hn4 hk4 ⊢
        clear hw5
        refine wpList_plain rfl (fun K hK => ?_)
        refine wp_append ty_pieces (.tmp 102) (.tmp 108) rfl rfl (hrow.keep hk4 (fun _ _ x => x)) (some ⟨wT.heap.size, 0, none⟩) 1 1 (pcV ⟨ch, a, fr, n⟩) rfl
          ⟨rfl, fun _ => ⟨_, rfl, fun t u hu => by rw [addr_add, Nat.zero_add, cell_of_row _ _ _ _ _ _ hn4]; simpa [pcV] using hu⟩⟩ (by rw [← pcsV_one]; exact pcsV_oneCell _) (by unfold maxLen; omega) (by omega) ?_
        intro v6 w6 hr6 hk6 hv6
        refine hK _ _ ?_
        clear hK K
        have hl1 : ∀ j, j < n → wh C W U (lba + fr + j) = (ch, a + j) := HL.out n hn2
        have hsz := hbox.keep.size
        have hszS := hk4.size
        have hszb := heap_lt hbox.at_
        rw [← pcsV_one, ← pcsV_append] at hr6
        have R6 := hid (SplitRel.mk (w := w) (B := B) (C := C) (W := W) (U := U) (lba := lba) (from_ := fr + n) (v := v6) (l := l ++ [⟨ch, a, fr, n⟩]) ((hbox.step hk4).beside hk6 (fun b e => hown b e)) (by rw [List.length_append, List.length_singleton, ← Hle.out]; exact hr6) (hcov.push rfl ⟨hn1, hl1⟩) (hfew.push hlast)
          (fun b e => by
            rcases hv6 with ⟨_, h0⟩ | ⟨b', h1, h2⟩
            · omega
            · rw [e] at h1
              cases h1
              rcases h2 with h2 | h2
              · exact hown _ h2
              · omega))
        clear hr6 hk6 hv6 hn4 hk4 hbox hrow hcov hfew hown HR5 hl1
        go_wp2_with (at_builtin; refine stopAt ?_; intro q hq)
        go_roundw
        case rel => exact ⟨fr + n, _, by omega, by go_num, R6⟩
        case measure => simp [intOf]; omega

      · rw [List.concat_eq_append] at hcat
        obtain ⟨j, hj⟩ : ∃ j, j = l'.length := ⟨_, rfl⟩
        obtain rfl : len = j + 1 := by rw [hle, hcat, hj]; simp
        have Hle := hid hle
        have Hcat := hid hcat
        have Hj := hid hj
        have hpl := HR4.out.2.2.1.lies p (by rw [hcat]; simp)
        have hp1 := hpl.pos
        have hp2 : p.n ≤ fr := by
          have := HR4.out.2.2.1.all
          rw [hcat, sumN_append, sumN_one] at this
          omega
        have hp3 : p.a < C := by
          have h1 := hpl.lie 0 (by omega)
          have h2 := wh_at_lt (x := lba + p.f + 0) w0 u0 HM.out hm0
          rw [h1] at h2
          exact h2
        have gets : ∀ t u, (pcV p)[t]? = some u → ∃ g, ao = some ⟨g, 0, none⟩ ∧ wS.cell? ⟨g, j * 4 + t, none⟩ = some u := fun t u hu => by
          have ht : t < 4 := (List.getElem?_eq_some_iff.1 hu).1
          have h1 := pcsV_get l j (by rw [hcat, hj]; simp) t ht
          have h2 : l[j]'(by rw [hcat, hj]; simp) = p := by simp [hcat, hj]
          rw [h2, hu] at h1
          obtain ⟨g, cap', hv, hc⟩ := HR4.out.2.1.getCell h1
          cases hv
          exact ⟨g, rfl, hc⟩
        obtain ⟨g, rfl, k0⟩ := gets 0 _ rfl
        rw [Nat.add_zero] at k0
        obtain ⟨g1, hg1, k1⟩ := gets 1 _ rfl
        cases hg1
        obtain ⟨g3, hg3, k3⟩ := gets 3 _ rfl
        cases hg3
        clear hle hcat hj gets
        have hj1 : (j : Int) < ((j + 1 : Nat) : Int) := by omega
        by_cases hA : p.c = ch
        · by_cases hB : p.a + p.n = a
          · have q1 : ((p.c : Int) == (ch : Int)) = true := by rw [hA]; simp
            have q2 : ((p.a : Int) + (p.n : Int) == (a : Int)) = true := by rw [← hB]; simp
            go_wp2_with (at_builtin; refine stopAt ?_; intro q hq)
            go_quiet (fail)
            have kT : Keep (fun _ => False) wS (wS.drewN nq) := (Keep.refl _ _).drewN nq
            have HR5 := hid (And.intro (HR4.out.1.step kT) (And.intro (HR4.out.2.1.keep kT (fun _ _ x => x)) HR4.out.2.2))
            obtain ⟨wT, hwT⟩ : ∃ wT, wT = wS.drewN nq := ⟨_, rfl⟩
            have k3T : wT.cell? ⟨g, j * 4 + 3, none⟩ = some (.int .i64 (p.n : Int)) := by rw [hwT]; exact k3
            rw [← hwT] at HR5 ⊢
            clear HR4 kT hwT k0 k1 k3
            have f3T := HR5.out.2.1.frozen (j * 4 + 3) (by omega)
            go_wp2_with (at_builtin; refine stopAt ?_; intro q hq)
            obtain ⟨hbox, hrow, hcov, hfew, hown⟩ := HR5.out
            have hk6 : Keep (fun b => b = g) wT (wT.setCell ⟨g, j * 4 + 3, none⟩ (.int .i64 ((p.n : Int) + (n : Int)))) := by refine Keep.setCell (Keep.refl _ _) (.inl ?_) _; rfl
            have hgw := hown g rfl
            have hl1 : ∀ i, i < n → wh C W U (lba + fr + i) = (p.c, p.a + p.n + i) := by rw [hA, hB]; exact HL.out n hn2
            rw [Hcat.out] at hrow hcov hfew
            have hr6 := hrow.setAny (j * 4 + 3) (.int .i64 ((p.n : Int) + (n : Int))) rfl
            rw [Hj.out, pcsV_more l' p n, ← Hj.out] at hr6
            have R6 := hid (SplitRel.mk (w := w) (B := B) (C := C) (W := W) (U := U) (lba := lba) (from_ := fr + n) (v := .slice (some ⟨g, 0, none⟩) (j + 1) cap) (l := l' ++ [{ p with n := p.n + n }]) (hbox.beside hk6 (fun b e => by rw [e]; exact hgw)) (by rw [List.length_append, List.length_singleton, ← Hj.out]; exact hr6) (hcov.more hl1) (hfew.more n) hown)
            clear hbox hrow hcov hfew hown hk6 hl1 hr6 HR5
            go_roundw
            case rel => exact ⟨fr + n, _, by omega, by go_num, R6⟩
            case measure => simp [intOf]; omega
          · have q1 : ((p.c : Int) == (ch : Int)) = true := by rw [hA]; simp
            have q2 : ((p.a : Int) + (p.n : Int) == (a : Int)) = false := by simp; omega
            have hlast : ∀ q, l.getLast? = some q → ¬ (q.c = ch ∧ q.a + q.n = a) := by
              rw [Hcat.out]
              intro q hq
              simp at hq
              subst hq
              exact fun h => hB h.2
            go_wp2_with (at_builtin; refine stopAt ?_; intro q hq)
            go_quiet (fail)
            have kT : Keep (fun _ => False) wS (wS.drewN nq) := (Keep.refl _ _).drewN nq
            have HR5 := hid (And.intro (HR4.out.1.step kT) (And.intro (HR4.out.2.1.keep kT (fun _ _ x => x)) HR4.out.2.2))
            obtain ⟨wT, hwT⟩ : ∃ wT, wT = wS.drewN nq := ⟨_, rfl⟩
            rw [← hwT] at HR5 ⊢
            clear HR4 kT hwT
            go_wp2_with (at_builtin; refine stopAt ?_; intro q hq)
            (refine hq.out ?_; clear hq q)
            obtain ⟨hbox, hrow, hcov, hfew, hown⟩ := HR5.out
            have hn4 := heap_alloc_new wT (.cells #[.int .i64 (ch : Int), .int .i64 (a : Int), .int .i64 (fr : Int), .int .i64 (n : Int)] 34)
            have hk4 : Keep (fun _ => False) wT (wT.alloc (.cells #[.int .i64 (ch : Int), .int .i64 (a : Int), .int .i64 (fr : Int), .int .i64 (n : Int)] 34)) := (Keep.refl _ _).alloc _
            obtain ⟨w5, hw5⟩ : ∃ w5, w5 = wT.alloc (.cells #[.int .i64 (ch : Int), .int .i64 (a : Int), .int .i64 (fr : Int), .int .i64 (n : Int)] 34) := ⟨_, rfl⟩
            rw [← hw5] at hn4 hk4 ⊢
            clear hw5
            refine wpList_plain rfl (fun K hK => ?_)
            refine wp_append ty_pieces (.tmp 102) (.tmp 108) rfl rfl (hrow.keep hk4 (fun _ _ x => x)) (some ⟨wT.heap.size, 0, none⟩) 1 1 (pcV ⟨ch, a, fr, n⟩) rfl
              ⟨rfl, fun _ => ⟨_, rfl, fun t u hu => by rw [addr_add, Nat.zero_add, cell_of_row _ _ _ _ _ _ hn4]; simpa [pcV] using hu⟩⟩ (by rw [← pcsV_one]; exact pcsV_oneCell _) (by unfold maxLen; omega) (by omega) ?_
            intro v6 w6 hr6 hk6 hv6
            refine hK _ _ ?_
            clear hK K
            have hl1 : ∀ j, j < n → wh C W U (lba + fr + j) = (ch, a + j) := HL.out n hn2
            have hsz := hbox.keep.size
            have hszS := hk4.size
            have hszb := heap_lt hbox.at_
            rw [← pcsV_one, ← pcsV_append] at hr6
            have R6 := hid (SplitRel.mk (w := w) (B := B) (C := C) (W := W) (U := U) (lba := lba) (from_ := fr + n) (v := v6) (l := l ++ [⟨ch, a, fr, n⟩]) ((hbox.step hk4).beside hk6 (fun b e => hown b e)) (by rw [List.length_append, List.length_singleton, ← Hle.out]; exact hr6) (hcov.push rfl ⟨hn1, hl1⟩) (hfew.push hlast)
              (fun b e => by
                rcases hv6 with ⟨_, h0⟩ | ⟨b', h1, h2⟩
                · omega
                · rw [e] at h1
                  cases h1
                  rcases h2 with h2 | h2
                  · exact hown _ h2
                  · omega))
            clear hr6 hk6 hv6 hn4 hk4 hbox hrow hcov hfew hown HR5 hl1
            go_wp2_with (at_builtin; refine stopAt ?_; intro q hq)
            go_roundw
            case rel => exact ⟨fr + n, _, by omega, by go_num, R6⟩
            case measure => simp [intOf]; omega

        · have q1 : ((p.c : Int) == (ch : Int)) = false := by simp; omega
          have hlast : ∀ q, l.getLast? = some q → ¬ (q.c = ch ∧ q.a + q.n = a) := by
            rw [Hcat.out]
            intro q hq
            simp at hq
            subst hq
            exact fun h => hA h.1
          go_wp2_with (at_builtin; refine stopAt ?_; intro q hq)
          go_quiet (fail)
          have kT : Keep (fun _ => False) wS (wS.drewN nq) := (Keep.refl _ _).drewN nq
          have HR5 := hid (And.intro (HR4.out.1.step kT) (And.intro (HR4.out.2.1.keep kT (fun _ _ x => x)) HR4.out.2.2))
          obtain ⟨wT, hwT⟩ : ∃ wT, wT = wS.drewN nq := ⟨_, rfl⟩
          rw [← hwT] at HR5 ⊢
          clear HR4 kT hwT
          go_wp2_with (at_builtin; refine stopAt ?_; intro q hq)
          (refine hq.out ?_; clear hq q)
          obtain ⟨hbox, hrow, hcov, hfew, hown⟩ := HR5.out
          have hn4 := heap_alloc_new wT (.cells #[.int .i64 (ch : Int), .int .i64 (a : Int), .int .i64 (fr : Int), .int .i64 (n : Int)] 34)
          have hk4 : Keep (fun _ => False) wT (wT.alloc (.cells #[.int .i64 (ch : Int), .int .i64 (a : Int), .int .i64 (fr : Int), .int .i64 (n : Int)] 34)) := (Keep.refl _ _).alloc _
          obtain ⟨w5, hw5⟩ : ∃ w5, w5 = wT.alloc (.cells #[.int .i64 (ch : Int), .int .i64 (a : Int), .int .i64 (fr : Int), .int .i64 (n : Int)] 34) := ⟨_, rfl⟩
          rw [← hw5] at hn4 hk4 ⊢
          clear hw5
          refine wpList_plain rfl (fun K hK => ?_)
          refine wp_append ty_pieces (.tmp 102) (.tmp 108) rfl rfl (hrow.keep hk4 (fun _ _ x => x)) (some ⟨wT.heap.size, 0, none⟩) 1 1 (pcV ⟨ch, a, fr, n⟩) rfl
            ⟨rfl, fun _ => ⟨_, rfl, fun t u hu => by rw [addr_add, Nat.zero_add, cell_of_row _ _ _ _ _ _ hn4]; simpa [pcV] using hu⟩⟩ (by rw [← pcsV_one]; exact pcsV_oneCell _) (by unfold maxLen; omega) (by omega) ?_
          intro v6 w6 hr6 hk6 hv6
          refine hK _ _ ?_
          clear hK K
          have hl1 : ∀ j, j < n → wh C W U (lba + fr + j) = (ch, a + j) := HL.out n hn2
          have hsz := hbox.keep.size
          have hszS := hk4.size
          have hszb := heap_lt hbox.at_
          rw [← pcsV_one, ← pcsV_append] at hr6
          have R6 := hid (SplitRel.mk (w := w) (B := B) (C := C) (W := W) (U := U) (lba := lba) (from_ := fr + n) (v := v6) (l := l ++ [⟨ch, a, fr, n⟩]) ((hbox.step hk4).beside hk6 (fun b e => hown b e)) (by rw [List.length_append, List.length_singleton, ← Hle.out]; exact hr6) (hcov.push rfl ⟨hn1, hl1⟩) (hfew.push hlast)
            (fun b e => by
              rcases hv6 with ⟨_, h0⟩ | ⟨b', h1, h2⟩
              · omega
              · rw [e] at h1
                cases h1
                rcases h2 with h2 | h2
                · exact hown _ h2
                · omega))
          clear hr6 hk6 hv6 hn4 hk4 hbox hrow hcov hfew hown HR5 hl1
          go_wp2_with (at_builtin; refine stopAt ?_; intro q hq)
          go_roundw
          case rel => exact ⟨fr + n, _, by omega, by go_num, R6⟩
          case measure => simp [intOf]; omega

    · have h4 : decide ((fr : Int) < k) = false := by simp; omega
      obtain rfl : fr = k := by omega
      go_wp2_with (at_builtin; refine stopAt ?_; intro q hq)
      go_ret2
      exact ⟨_, l, rfl, HR.out.row, HR.out.cov, HR.out.few, HR.out.box.keep, fun b e => Nat.le_of_lt (HR.out.own b e)⟩
end Go.Proofs.Ytmbfglblkpipcaa
