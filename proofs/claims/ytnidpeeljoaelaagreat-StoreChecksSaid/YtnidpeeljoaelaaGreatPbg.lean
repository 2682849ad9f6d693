/- Texts StpP, StpN, StpQ in one. Conditions: as each law names them. -/
import Derived.Test.YtnidpeeljoaelaaGreatPah
import Derived.Test.YtnidpeeljoaelaaGreatPbf
/- Store: a store on a disk that is not armed: what the disk has is what the log has. Conditions: as each law names them. -/
namespace Go.Proofs.YtnidpeeljoaelaaGreat.SO
open Go.Proofs.YtnidpeeljoaelaaGreat MI BM DM WM

structure OnDisk (D : Dk) (G : Lg) : Prop where
  calm : Calm D
  ok : Ok D
  h6 : 6 ≤ D.safe.length
  dead : G.dead = false
  ep : WM.epoch D = G.ep
  epb : G.ep < 4611686018427387904
  small : ∀ r ∈ G.l, r.length ≤ 1024
  fit : (flat G.l).length ≤ 32 * half D
  area : ∀ i, i < half D → nowAt D (WM.first D G.ep + i) = secOf (areaH (half D) G.l) i
theorem OnDisk.gone {D : Dk} {G : Lg} (h : OnDisk D G) : WM.gone D G = false := by unfold WM.gone; rw [h.dead, h.calm.2]; rfl
theorem OnDisk.opens {D : Dk} {G : Lg} (h : OnDisk D G) : openW D = (0, some ⟨G.ep, G.l, G.l.length, false⟩, D) := open_known h.calm h.ok h.h6 h.ep h.small h.fit h.area
theorem opened_on {D : Dk} (hc : Calm D) (ok : Ok D) (h6 : 6 ≤ D.safe.length) : ∃ G D', openW D = (0, some G, D') ∧ OnDisk D' G ∧ G.safe = G.l.length := by
  obtain ⟨D', h⟩ := open_calm hc ok h6
  refine ⟨_, D', h.eq, ⟨h.calm, h.ok, by rw [h.size]; exact h6, rfl, ?_, ?_, h.small, by rw [half_eq h.size]; exact h.fit, fun i hi => ?_⟩, rfl⟩
  · exact epoch_eq hc.2 h.calm.2 (by omega) h.size fun i hi => h.rest i fun j _ => by have := first_ge D (epoch D); omega
  · rw [← epTo_two]; exact epTo_lt D 2
  · rw [half_eq h.size] at hi ⊢
    have hf : WM.first D' (epoch D) = WM.first D (epoch D) := by unfold WM.first; rw [half_eq h.size]
    rw [hf]
    exact h.area i hi
theorem OnDisk.sync {D : Dk} {G : Lg} (h : OnDisk D G) : WM.syncW D G = (0, { D with safe := now D, waits := [] }, { G with safe := G.l.length }) ∧ OnDisk { D with safe := now D, waits := [] } { G with safe := G.l.length } := by
  have hs := sync_calm h.calm
  have hl : ({ D with safe := now D, waits := [] } : Dk).safe.length = D.safe.length := now_length D
  have hn : ∀ p, nowAt { D with safe := now D, waits := [] } p = nowAt D p := fun p => nowAt_flat rfl rfl p
  have hh : half { D with safe := now D, waits := [] } = half D := half_eq hl
  have hf : ∀ e, WM.first { D with safe := now D, waits := [] } e = WM.first D e := fun e => by unfold WM.first; rw [hh]
  refine ⟨?_, ⟨h.calm, ?_, by rw [hl]; exact h.h6, h.dead, ?_, h.epb, h.small, by rw [hh]; exact h.fit, fun i hi => ?_⟩⟩
  · unfold WM.syncW
    rw [h.gone, hs]
    rfl
  · have := h.ok.sync
    rw [hs] at this
    exact this
  · have := epoch_eq (D := D) (E := { D with safe := now D, waits := [] }) h.calm.2 h.calm.2 (by have := h.h6; omega) hl (fun i _ => hn i)
    rw [this]; exact h.ep
  · rw [hh] at hi ⊢
    rw [hf, hn]
    exact h.area i hi
theorem lay_ok (ep : Nat) (b : List UInt8) : ∀ k i (D : Dk), Ok D → Ok (lay ep b i k D).2
  | 0, _, _, h => h
  | k + 1, i, D, h => by
    unfold lay
    simp only
    split
    · exact lay_ok ep b k (i + 1) _ (h.write _ _)
    · exact h.write _ _
theorem turn_ok (ep : Nat) (b : List UInt8) (D : Dk) (h : Ok D) : Ok (turnW ep b D).2 := by
  have h1 := lay_ok ep b (half D) 0 D h
  unfold turnW
  simp only
  split
  · exact h1
  · split
    · exact h1.sync
    · split
      · exact h1.sync.write _ _
      · exact (h1.sync.write _ _).sync
theorem OnDisk.append {D : Dk} {G : Lg} (h : OnDisk D G) {b : List UInt8} (hb : b.length ≤ 1024) :
    WM.append D G b = (5, D, G) ∨ ((WM.append D G b).1 = 0 ∧ (WM.append D G b).2.2 = { G with l := G.l ++ [b] } ∧ OnDisk (WM.append D G b).2.1 { G with l := G.l ++ [b] }) := by
  have hc := append_calm h.calm h.h6 h.dead h.fit hb
  split at hc
  · exact .inl hc
  · rename_i hr
    right
    obtain ⟨c1, c2, c3, c4⟩ := hc
    have hsn := flat_snoc G.l b
    unfold room at hr
    have hfit : (flat (G.l ++ [b])).length ≤ 32 * half D := by omega
    have hal : (areaH (half D) (G.l ++ [b])).length = 32 * half D := areaH_length hfit
    have hal0 : (areaH (half D) G.l).length = 32 * half D := areaH_length h.fit
    have hA : WM.area D (G.l ++ [b]) = areaH (half D) (G.l ++ [b]) := rfl
    obtain ⟨a1, -, -, a5⟩ := lay_waits_all G.ep (WM.area D (G.l ++ [b])) (((flat (G.l ++ [b])).length - 1) / 32 - (flat G.l).length / 32 + 1) ((flat G.l).length / 32) D h.h6 (by omega) hal
    have hr2 : (WM.append D G b).2.1 = (lay G.ep (WM.area D (G.l ++ [b])) ((flat G.l).length / 32) (((flat (G.l ++ [b])).length - 1) / 32 - (flat G.l).length / 32 + 1) D).2 ∧ (WM.append D G b).1 = (lay G.ep (WM.area D (G.l ++ [b])) ((flat G.l).length / 32) (((flat (G.l ++ [b])).length - 1) / 32 - (flat G.l).length / 32 + 1) D).1 := by
      unfold WM.append
      rw [h.gone, if_neg (by simp), if_neg (by omega), if_neg (by unfold room; omega)]
      exact ⟨rfl, rfl⟩
    obtain ⟨r, hr0⟩ : ∃ r, r = lay G.ep (WM.area D (G.l ++ [b])) ((flat G.l).length / 32) (((flat (G.l ++ [b])).length - 1) / 32 - (flat G.l).length / 32 + 1) D := ⟨_, rfl⟩
    rw [← hr0] at a1 a5 hr2
    have hz : r.1 = 0 := by rw [← hr2.2]; exact c1
    have hok : Ok (WM.append D G b).2.1 := by
      rw [hr2.1, hr0]
      exact lay_ok G.ep _ _ _ _ h.ok
    have hl : (WM.append D G b).2.1.safe.length = D.safe.length := by rw [c4]
    have hh : half (WM.append D G b).2.1 = half D := half_eq hl
    have hf : ∀ e, WM.first (WM.append D G b).2.1 e = WM.first D e := fun e => by unfold WM.first; rw [hh]
    have hnw : ∀ p, p < 2 → nowAt (WM.append D G b).2.1 p = nowAt D p := fun p hp => by
      rw [hr2.1]
      exact (a5 hz p).2 fun j _ _ => by have := first_ge D G.ep; omega
    refine ⟨c1, c2, c3, hok, by rw [hl]; exact h.h6, h.dead, ?_, h.epb, fun r hr => ?_, by rw [hh]; exact hfit, fun i hi => ?_⟩
    · rw [epoch_eq h.calm.2 c3.2 (by have := h.h6; omega) hl hnw]; exact h.ep
    · rcases List.mem_append.1 hr with x | x
      · exact h.small r x
      · simp at x; subst x; exact hb
    · rw [hh] at hi ⊢
      rw [hf, hr2.1]
      obtain ⟨b1, b2⟩ := a5 hz (WM.first D G.ep + i)
      by_cases hin : (flat G.l).length / 32 ≤ i ∧ i < (flat G.l).length / 32 + (((flat (G.l ++ [b])).length - 1) / 32 - (flat G.l).length / 32 + 1)
      · exact b1 i hin.1 hin.2 rfl
      · rw [b2 (fun j j1 j2 => by omega), h.area i hi]
        refine secOf_ext hal0 hal hi fun k hk => ?_
        have hin' : i < (flat G.l).length / 32 ∨ ((flat (G.l ++ [b])).length - 1) / 32 < i := by omega
        rcases hin' with q | q
        · have hq1 : 32 * i + k < (flat G.l).length := by omega
          have hq2 : 32 * i + k < (flat (G.l ++ [b])).length := by omega
          rw [area_get _ _ hq1, area_get _ _ hq2]
          have he : flat (G.l ++ [b]) = flat G.l ++ flat [b] := by simp [flat]
          rw [he, List.getElem?_append_left hq1]
        · have hq1 : (flat G.l).length ≤ 32 * i + k := by omega
          have hq2 : (flat (G.l ++ [b])).length ≤ 32 * i + k := by omega
          rw [area_nought _ _ hq1 (by omega), area_nought _ _ hq2 (by omega)]
/-- A head is found where it was written. -/
theorem head_new {D : Dk} (hd : D.down = false) (h2 : 2 ≤ D.safe.length) {n : Nat} (hn : n < 4611686018427387904) (h : nowAt D (n % 2) = headSec n) : WM.head D (n % 2) = some n := by
  have hlt : n % 2 < 2 := Nat.mod_lt _ (by decide)
  have hl : (putUint n).length ≤ 10 := putU_le 10 n
  rw [head_at hd (by omega) _ h]
  have hg := get_found [] (List.replicate (32 - (frame 1 (putUint n)).length) 0) 1 (putUint n) (by omega)
  simp only [List.nil_append, List.length_nil] at hg
  have he : headSec n = frame 1 (putUint n) ++ List.replicate (32 - (frame 1 (putUint n)).length) 0 := rfl
  rw [he, hg]
  have hu := put_uint (b := putUint n) (at_ := 0) (n := n) (rest := []) (by omega) (by simp) (Nat.zero_le _)
  simp only [Nat.zero_add] at hu
  simp only [hu]
  simp [hn]
theorem head_le {D : Dk} {i n : Nat} (hi : i < 2) (h : WM.head D i = some n) : n ≤ WM.epoch D := by
  unfold WM.epoch
  have : i = 0 ∨ i = 1 := by omega
  rcases this with rfl | rfl <;> rw [h] <;> simp <;> omega
theorem epoch_new {D : Dk} {n : Nat} (hd : D.down = false) (h2 : 2 ≤ D.safe.length) (hn : n < 4611686018427387904) (h : nowAt D (n % 2) = headSec n) (ho : (WM.head D ((n + 1) % 2)).getD 0 ≤ n) : WM.epoch D = n := by
  have hh := head_new hd h2 hn h
  unfold WM.epoch
  have : n % 2 = 0 ∨ n % 2 = 1 := by omega
  rcases this with h0 | h0
  · rw [h0] at hh
    rw [show (n + 1) % 2 = 1 by omega] at ho
    rw [hh]; simp; omega
  · rw [h0] at hh
    rw [show (n + 1) % 2 = 0 by omega] at ho
    rw [hh]; simp; omega
theorem OnDisk.reset {D : Dk} {G : Lg} (h : OnDisk D G) (L : List (List UInt8)) (hL : ∀ r ∈ L, r.length ≤ 1024) :
    WM.reset D G L = (5, D, G) ∨ ((WM.reset D G L).1 = 0 ∧ (WM.reset D G L).2.2 = ⟨G.ep + 1, L, L.length, false⟩ ∧ OnDisk (WM.reset D G L).2.1 ⟨G.ep + 1, L, L.length, false⟩) := by
  have hany : L.any (fun b => decide (1024 < b.length)) = false := by
    rw [List.any_eq_false]
    intro r hr
    have := hL r hr
    simp; omega
  by_cases hf : 32 * half D < (flat L).length ∨ G.ep + 1 = 4611686018427387904
  · left
    unfold WM.reset
    rw [h.gone, if_neg (by simp), hany, if_neg (by simp), if_pos hf]
  · right
    have hfit : (flat L).length ≤ 32 * half D := by omega
    have hal : (WM.area D L).length = 32 * half D := areaH_length hfit
    obtain ⟨c1, c2⟩ := turn_calm h.calm h.h6 (G.ep + 1) (WM.area D L) hal (headSec_len _)
    obtain ⟨-, t2⟩ := turn_all h.h6 (G.ep + 1) (WM.area D L) hal (headSec_len _)
    obtain ⟨-, t3, t4, t5⟩ := t2 c1
    have hr : WM.reset D G L = (0, (turnW (G.ep + 1) (WM.area D L) D).2, ⟨G.ep + 1, L, L.length, false⟩) := by
      unfold WM.reset
      rw [h.gone, if_neg (by simp), hany, if_neg (by simp), if_neg hf]
      simp only
      rw [if_pos c1]
    have hok := turn_ok (G.ep + 1) (WM.area D L) D h.ok
    have hl := turnW_len (G.ep + 1) (WM.area D L) D
    obtain ⟨E, hE⟩ : ∃ E, E = (turnW (G.ep + 1) (WM.area D L) D).2 := ⟨_, rfl⟩
    rw [← hE] at c2 t3 t4 t5 hok hl hr
    rw [hr]
    have hh : half E = half D := half_eq hl
    have hfi : ∀ e, WM.first E e = WM.first D e := fun e => by unfold WM.first; rw [hh]
    have hepb := h.epb
    refine ⟨rfl, rfl, ⟨c2, hok, by rw [hl]; exact h.h6, rfl, ?_, by simp only; omega, hL, by rw [hh]; exact hfit, fun i hi => ?_⟩⟩
    · have h6 := h.h6
      refine epoch_new c2.2 (show 2 ≤ E.safe.length by omega) (show G.ep + 1 < 4611686018427387904 by omega) t4 ?_
      have hp : (G.ep + 1 + 1) % 2 < 2 := Nat.mod_lt _ (by decide)
      have he : WM.head E ((G.ep + 1 + 1) % 2) = WM.head D ((G.ep + 1 + 1) % 2) := by
        refine head_eq h.calm.2 c2.2 (by omega) (by omega) (t5 _ (by omega) fun j _ => ?_)
        have := first_ge D (G.ep + 1)
        omega
      rw [he]
      cases hx : WM.head D ((G.ep + 1 + 1) % 2) with
      | none => exact Nat.zero_le _
      | some n =>
        have := head_le hp hx
        rw [h.ep] at this
        simp only [Option.getD_some]
        omega
    · rw [hh] at hi ⊢
      rw [hfi]
      exact t3 i hi
/-- A store on a disk that is not armed. -/
structure Sound (D : Dk) (S : St) : Prop where
  disk : OnDisk D S.g
  dead : S.dead = false
  okay : Okay S
  ok : PsOk S.ps
theorem cpL_small {ps : List (Str × Str)} (h : ∀ p ∈ ps, OkP p) : ∀ r ∈ cpL ps, r.length ≤ 1024 := fun r hr => by
  unfold cpL at hr
  obtain ⟨p, hp, rfl⟩ := List.mem_map.1 hr
  have := enc_len (right_one (h p hp))
  simp at this
  omega
theorem Sound.cp {D : Dk} {S : St} (h : Sound D S) : Sound (cpS D S).2.1 (cpS D S).2.2 ∧ (((cpS D S).1 = 5 ∧ (cpS D S).2 = (D, S)) ∨ ((cpS D S).1 = 0 ∧ (cpS D S).2.2.g.safe = (cpS D S).2.2.g.l.length)) := by
  have hk := okay_cp (D := D) h.disk.h6 h.okay h.ok
  rcases h.disk.reset (cpL S.ps) (cpL_small h.ok.each) with hr | ⟨h1, h2, h3⟩
  · have e : cpS D S = (5, D, S) := by
      unfold cpS
      rw [h.dead, if_neg (by simp), hr]
      show ((5 : Int), D, (⟨S.g, S.ps, decide ((5 : Int) = 6)⟩ : St)) = _
      rw [show decide ((5 : Int) = 6) = S.dead by rw [h.dead]; rfl]
    rw [e]
    exact ⟨h, .inl ⟨rfl, rfl⟩⟩
  · have e : cpS D S = (0, (WM.reset D S.g (cpL S.ps)).2.1, ⟨⟨S.g.ep + 1, cpL S.ps, (cpL S.ps).length, false⟩, S.ps, false⟩) := by
      unfold cpS
      rw [h.dead, if_neg (by simp), h2, h1]
      rfl
    rw [e] at hk ⊢
    exact ⟨⟨h3, rfl, hk, h.ok⟩, .inr ⟨rfl, rfl⟩⟩
theorem Sound.ap {D : Dk} {S : St} (h : Sound D S) {l : List Ch} (he : encE l = 0) :
    ((apS D S (enc l)).1 = 5 ∧ (apS D S (enc l)).2 = (D, S)) ∨ ((apS D S (enc l)).1 = 0 ∧ OnDisk (apS D S (enc l)).2.1 (apS D S (enc l)).2.2.g ∧ (apS D S (enc l)).2.2.dead = false) := by
  obtain ⟨hl, -⟩ := wbytes l he
  unfold apS
  rcases h.disk.append hl with hr | ⟨h1, h2, h3⟩
  · left
    rw [hr]
    refine ⟨rfl, ?_⟩
    show (D, (⟨S.g, S.ps, decide ((5 : Int) = 6)⟩ : St)) = _
    rw [show decide ((5 : Int) = 6) = S.dead by rw [h.dead]; rfl]
  · right
    refine ⟨h1, ?_, by simp only; rw [h1]; rfl⟩
    simp only
    rw [h2]
    exact h3
theorem Sound.do {D : Dk} {S : St} (h : Sound D S) (l : List Ch) : Sound (doS D S l).2.1 (doS D S l).2.2 := by
  have hk := okay_do h.disk.h6 h.okay h.ok l
  unfold doS at hk ⊢
  rw [h.dead] at hk ⊢
  simp only [Bool.false_eq_true, if_false] at hk ⊢
  by_cases he : encE l = 0
  · rw [if_neg (by omega)] at hk ⊢
    have hps := intoS_ps D S (enc l)
    have key : OnDisk (intoS D S (enc l)).2.1 (intoS D S (enc l)).2.2.g ∧ (intoS D S (enc l)).2.2.dead = false := by
      unfold intoS
      rcases h.ap he with ⟨a1, a2⟩ | ⟨a1, a2, a3⟩
      · rw [if_pos a1, a2]
        simp only
        obtain ⟨hc, hcc⟩ := h.cp
        split
        · rename_i h0
          rcases hc.ap he with ⟨b1, b2⟩ | ⟨b1, b2, b3⟩
          · rw [b2]
            exact ⟨hc.disk, hc.dead⟩
          · exact ⟨b2, b3⟩
        · exact ⟨hc.disk, hc.dead⟩
      · rw [if_neg (by omega)]
        exact ⟨a2, a3⟩
    have hps2 : PsOk (layL S.ps l) := h.ok.layL (right_all (wbytes l he).2).2
    unfold laidS at hk ⊢
    by_cases h0 : (intoS D S (enc l)).1 = 0
    · rw [if_pos h0] at hk ⊢
      rw [hps] at hk ⊢
      exact ⟨key.1, key.2, hk, hps2⟩
    · rw [if_neg h0] at hk ⊢
      exact ⟨key.1, key.2, hk, by rw [hps]; exact h.ok⟩
  · rw [if_pos he]
    exact h
theorem Sound.sy {D : Dk} {S : St} (h : Sound D S) : (syS D S).1 = 0 ∧ Sound (syS D S).2.1 (syS D S).2.2 ∧ (syS D S).2.1.waits = [] ∧ (syS D S).2.2.ps = S.ps := by
  obtain ⟨h1, h2⟩ := h.disk.sync
  have e : syS D S = (0, { D with safe := now D, waits := [] }, ⟨{ S.g with safe := S.g.l.length }, S.ps, false⟩) := by
    unfold syS
    rw [h.dead, if_neg (by simp), h1]
    rfl
  have hk := okay_sy D h.okay
  rw [e] at hk ⊢
  exact ⟨rfl, ⟨h2, rfl, hk, h.ok⟩, rfl, rfl⟩
theorem decL_ok : ∀ (L : List (List UInt8)) (ps q : List (Str × Str)), PsOk ps → decL L ps = some q → PsOk q
  | [], ps, q, h, e => by cases e; exact h
  | b :: L, ps, q, h, e => by
    unfold decL at e
    cases hd : dec b with
    | none => rw [hd] at e; cases e
    | some l =>
      rw [hd] at e
      exact decL_ok L _ q (h.layL (dec_len hd).2) e
theorem sound_op {D : Dk} (hc : Calm D) (ok : Ok D) (h6 : 6 ≤ D.safe.length) (S : St) (h : (opS D).2.1 = some S) : Sound (opS D).2.2 S := by
  obtain ⟨G, D', e, hg, -⟩ := opened_on hc ok h6
  have hk := okay_op D S h
  unfold opS at h ⊢
  rw [e] at h ⊢
  simp only at h ⊢
  cases hd : decL G.l [] with
  | none => rw [hd] at h; cases h
  | some ps =>
    rw [hd] at h
    cases h
    exact ⟨hg, rfl, hk, decL_ok _ _ _ PsOk.nil hd⟩
theorem sound_again {D : Dk} {S : St} (h : Sound D S) (hw : D.waits = []) (keep : List Int) : opS (DM.crash D keep) = (0, some ⟨⟨S.g.ep, S.g.l, S.g.l.length, false⟩, S.ps, false⟩, D) := by
  rw [crash_same h.disk.calm hw]
  unfold opS
  rw [h.disk.opens]
  simp only
  rw [h.okay h.dead]
end Go.Proofs.YtnidpeeljoaelaaGreat.SO
/- Store: what is asked of both behind an act; StorePlays' walk. Conditions: as the contracts name them. -/
namespace Go.Proofs.YtnidpeeljoaelaaGreat
open Go.RowKit Go.Maps
open MI SO BM DM WM

section
variable {P : Program} {o : Oper} {a : Act} {w : World} {K : Act → World → Prop} {Q : Exit → Act → World → Prop}
theorem wp_load_any (ty : TypeId) (x : Operand) (ho : o.op = .load ty x) (p : Addr) (hx : a.eval x = .pointer (some p)) (cs : List Value)
    (hc : ∀ j u, cs[j]? = some u → w.cell? (p.add j) = some u) (d : TypeDesc)
    (hu : P.underlying ty = some d) (hd : (match d with | .struct _ | .array _ _ => true | _ => false) = true) (hi : (P.info? ty).map (·.size) = some cs.length)
    (h : K (a.put o.dst (.agg cs.toArray)) w) : o.wp P a w K Q := by
  have hl := run_loadCells_list (P := P) w p cs hc
  cases hq : P.info? ty with
  | none => simp [hq] at hi
  | some i =>
    have hs : i.size = cs.length := by simpa [hq] using hi
    have hagg : (isAgg ty).run P w = .ok true w := by
      unfold isAgg
      rw [Sem.run_bind, run_underlying hu w]
      cases d <;> simp_all
    have hr : (loadVar ty p).run P w = .ok (.agg cs.toArray) w := by
      simp [loadVar, Sem.run_bind, hagg, sizeOf, typeInfo, hq, hs, hl]
    unfold Oper.wp execOp
    simp only [ho, hx, Instr.loadAt, Instr.sureAddr, Sem.run_bind, Sem.run_pure, Result.andThen_ok, hr]
    exact h
end
structure Facts2 (D : Dk) (S : St) : Prop where
  size : 6 ≤ D.safe.length
  ok : PsOk S.ps
  count : S.g.l.length ≤ 4000
  safe : S.g.safe ≤ S.g.l.length
  lg : LgOk (half D) S.g
theorem StoAt.facts {w : World} {b d : Nat} {F Fd : Nat → Prop} {D : Dk} {S : St} (h : StoAt w b d F Fd D S) : Facts2 D S := by
  have hok := h.ok
  obtain ⟨wb, mb, m, Fl, H⟩ := h
  have hl := H.log.ok
  exact ⟨by have := hl.two; unfold half at this; omega, hok, hl.count, hl.safe, hl⟩
theorem PairS.facts {W w : World} {p : Nat} {D : Dk} {o : Option St} (h : PairS W p D o w) : Ok D ∧ ∀ S, o = some S → Facts2 D S := by
  obtain ⟨o2, -, d, m, sv, rv, A, F, G, h⟩ := h
  refine ⟨?_, fun S e => ?_⟩
  · obtain ⟨F', h1, -⟩ := h.two.disk
    exact DiskAt.ok h1
  · subst e
    obtain ⟨b, -, F1, F2, h1, -⟩ := h.two
    exact h1.facts
theorem PairS.few {W w : World} {p : Nat} {D : Dk} {o : Option St} (h : PairS W p D o w) (ho : OkO o) : few o 128000 := fun S e => (ho S e).few (h.facts.2 S e).count
theorem PairS.step {W w : World} {p : Nat} {D : Dk} {o : Option St} (h : PairS W p D o w) (ho : OkO o) (x : SAct) : OkO (stepS D o x).2 ∧ (stepS D o x).1.waits.length ≤ D.waits.length + 5120 := by
  refine ⟨okay_step (fun hne => ?_) ho (fun S e => (h.facts.2 S e).ok) x, stepS_waits h.facts.1.few o x⟩
  cases o with
  | none => exact absurd rfl hne
  | some S => exact (h.facts.2 S rfl).size
set_option maxRecDepth 20000 in
set_option maxHeartbeats 1000000 in
theorem swait_up (w : World) (b d : Nat) (F Fd : Nat → Prop) (D : Dk) (S : St) (H : StoAt w b d F Fd D S) (hd : S.dead = false) (hg : gone D S.g = false) :
    Calls Tryz.prog 16 #[.pointer (some ⟨b, 0, none⟩)] w fun e w' => e = .returned (.int .i64 ((S.g.l.length - S.g.safe : Nat) : Int)) ∧ Keep (fun _ => False) w w' := by
  have hr := sready_st w b d F Fd D S H
  rw [hd] at hr
  simp only [Bool.false_eq_true, if_false] at hr
  have hf := H.facts
  obtain ⟨wb, mb, m, Fl, HI⟩ := H
  obtain ⟨i0, i1, i2, jf, jb⟩ := cells3i (show w.heap[b]? = some (.cells #[_, _, _] _ (0, 0)) from HI.head)
  obtain ⟨rl, hrl⟩ : ∃ rl, rl = S.g.l.length := ⟨_, rfl⟩
  obtain ⟨rs, hrs⟩ : ∃ rs, rs = S.g.safe := ⟨_, rfl⟩
  have h1 := hf.count
  have h2 := hf.safe
  rw [← hrl] at h1
  rw [← hrl, ← hrs] at h2
  have HX := hid (And.intro HI (And.intro hg (And.intro hrl hrs)))
  rw [← hrl, ← hrs]
  have e1 : (rl : Int) - (rs : Int) = ((rl - rs : Nat) : Int) := by omega
  have e2 : IntKind.i64.wrap ((rl - rs : Nat) : Int) = ((rl - rs : Nat) : Int) := by simp [IntKind.wrap, IntKind.signed, IntKind.bits]; omega
  clear HI hd hg hf hrl hrs h1 h2
  go_enter Tryz.func16, Tryz.ntmps16
  go_wp2_with (at_builtin; refine stopAt ?_; intro q hq)
  refine hr.mono ?_
  rintro e w1 ⟨rfl, rfl⟩
  clear hr
  go_wp2_with (at_builtin; refine stopAt ?_; intro q hq)
  have j0 := fun s : Later w1 => s.cell i0
  clear i0 i1 i2 jf jb
  refine wp_region_pool [(4, fun v _ => ∃ ao c, v = .slice ao rl c), (10, fun v _ => v = .int .i64 (rs : Nat))] (by kernel_rfl) (by kernel_rfl) ?_ ?_
  · intro q hq v w1 w3 hk hx
    simp only [List.mem_cons, List.not_mem_nil, or_false] at hq
    rcases hq with rfl | rfl
    all_goals exact hx
  repeat (apply wpT_pure (by rfl); (intro K s; go_simp; exact id))
  refine wpT_made (by rfl) (by kernel_rfl) (fun s hs => ?_) (fun v hv K hK => ?_)
  · go_simp
    obtain ⟨HI, hg, hrl, hrs⟩ := HX.out
    refine (records_up s.val wb d Fl Fd D S.g (HI.log.later s.keep) hg).mono ?_
    rintro e w' ⟨v, rfl, ⟨vs, hm⟩, hk⟩
    obtain ⟨ao, c, e, -⟩ := hm.row.form
    exact ⟨v, rfl, hk, ao, c, by rw [e, hrl]⟩
  obtain ⟨s1, -, ao, c, rfl⟩ := hv
  go_simp
  refine hK _ ?_
  clear hK K s1
  repeat (apply wpT_pure (by rfl); (intro K s; go_simp; exact id))
  refine wpT_made (by rfl) (by kernel_rfl) (fun s hs => ?_) (fun v hv K hK => ?_)
  · go_simp
    obtain ⟨HI, hg, hrl, hrs⟩ := HX.out
    refine (safe_up s.val wb d Fl Fd D S.g (HI.log.later s.keep) hg).mono ?_
    rintro e w' ⟨rfl, rfl⟩
    rw [hrs]
    exact ⟨rfl, Keep.refl _ _⟩
  obtain ⟨s1, -, rfl⟩ := hv
  go_simp
  refine hK _ ?_
  clear hK K s1
  repeat (apply wpT_pure (by rfl); (intro K s; go_simp; exact id))
  refine wpT_nil ?_
  intro s hs
  have hk := s.keep
  obtain ⟨w2, hw2⟩ : ∃ w2, w2 = s.val := ⟨_, rfl⟩
  rw [← hw2] at hk ⊢
  clear hw2 hs s j0
  go_wp2_with (at_builtin; refine stopAt ?_; intro q hq)
  go_ret
  exact ⟨rfl, hk⟩
end Go.Proofs.YtnidpeeljoaelaaGreat
/- Store: StoreChecks' walk. Conditions: as the contract names them. -/
namespace Go.Proofs.YtnidpeeljoaelaaGreat
open Go.RowKit Go.Maps
open MI SO BM DM WM

theorem SO.sound_step {D : Dk} {S : St} (h : Sound D S) {x : SAct} (hx : x.kind ≠ 6) {S' : St} (e : (stepS D (some S) x).2 = some S') : Sound (stepS D (some S) x).1 S' := by
  unfold stepS at e ⊢
  by_cases h5 : x.kind = 5
  · rw [if_pos h5] at e ⊢
    exact sound_op (crash_calm D x.keep) (h.disk.ok.crash x.keep) (by simp [DM.crash, tear_length]; exact h.disk.h6) S' e
  · rw [if_neg h5, if_neg hx] at e ⊢
    simp only at e ⊢
    by_cases h0 : x.kind = 0 ∨ x.kind = 1 ∨ x.kind = 2
    · rw [if_pos h0] at e ⊢; cases e; exact h.do _
    · rw [if_neg h0] at e ⊢
      by_cases h3 : x.kind = 3
      · rw [if_pos h3] at e ⊢; cases e; exact h.sy.2.1
      · rw [if_neg h3] at e ⊢
        by_cases h4 : x.kind = 4
        · rw [if_pos h4] at e ⊢; cases e; exact h.cp.1
        · rw [if_neg h4] at e ⊢; cases e; exact h
theorem c_open60 : opS (DM.new 60) = (0, some nS0, DM.new 60) := by kernel_rfl
/-- Behind k acts. -/
structure ChRel (W : World) (p k : Nat) (wr : World) : Prop where
  ex : ∃ D S, PairS W p D (some S) wr ∧ Sound D S ∧ D.waits.length ≤ 5120 * k
/-- Two numbers in a slice. -/
theorem ints_two (w : World) (x y : Int) : Cells (w.alloc (.cells #[.int .i64 x, .int .i64 y] 3)) (some ⟨w.heap.size, 0, none⟩) 2 1 (intsV [x, y]) :=
  Cells.of_row (cap := 2) (n := 2) (size := 1) (w := w.alloc (.cells #[.int .i64 x, .int .i64 y] 3)) (e := 3) ⟨rfl, .inr ⟨_, 2, _, (0, 0), rfl, heap_alloc_new w _, Free.zero _, Nat.le_refl _, by decide, rfl, rfl⟩⟩

set_option maxRecDepth 20000 in
set_option maxHeartbeats 4000000 in
theorem schecks_walk (w : World) (v : Value) (l : List SAct) (hl : SActs w v l) :
    Calls Tryz.prog 6 #[v] w fun e w' => e = .returned (.bool true) ∧ Keep (fun _ => False) w w' := by
  obtain ⟨ao, c, rfl, hlc, hcm⟩ := hl.form
  have HL := hid hl
  clear hl hcm
  obtain ⟨m, hm⟩ : ∃ m, m = l.length := ⟨_, rfl⟩
  rw [← hm] at HL hlc ⊢
  have Hm := hid hm
  clear hm
  go_enter Tryz.func6, Tryz.ntmps6
  go_wp2_with (at_builtin; refine stopAt ?_; intro q hq)
  refine (ststart_any w 60 (by decide) (by decide)).mono ?_
  rintro e w1 ⟨p, rfl, hP1⟩
  rw [c_open60] at hP1
  have hS0 : Sound (DM.new 60) nS0 := by
    have := sound_op (D := DM.new 60) ⟨rfl, rfl⟩ hP1.facts.1 (by decide) nS0 (by rw [c_open60])
    rw [c_open60] at this
    exact this
  have HR1 := hid (ChRel.mk (k := 0) ⟨_, _, hP1, hS0, by decide⟩)
  clear hP1 hS0
  go_wp2_with (at_builtin; refine stopAt ?_; intro q hq)
  go_loopw [5] (fun i wr => ∃ k : Nat, k ≤ m ∧ k ≤ 30 ∧ i = .int .i64 k ∧ Hid (ChRel w p k wr)) (fun i _ => 30 - (intOf i).toNat)
  case atStart => exact ⟨0, Nat.zero_le _, Nat.zero_le _, rfl, HR1⟩
  case round =>
    clear HR1
    obtain ⟨k, hk, hk30, rfl, HR⟩ := hrel
    by_cases hgo : k < m ∧ k < 30
    · have h2 : (k : Int) < m := by omega
      have h1 : (k : Int) < 30 := by omega
      have hkl : k < l.length := by rw [← Hm.out]; exact hgo.1
      obtain ⟨D, S, hP, hS, hw⟩ := HR.out.ex
      obtain ⟨ad, lv, kv, rfl, a0, a1, a2, a3, hrow, hlv, hkv, b0, b1⟩ := HL.out.get hP.keep k hkl
      have Hrow := hid hrow
      have hgo1 := hgo.1
      have hgo2 := hgo.2
      clear hgo hrow
      obtain ⟨aol, cl, rfl, -⟩ := hlv.form
      have hhe := sheavy_any wr aol _ cl _ (SliceOf.keepF hlv hP.keep (fun _ _ _ _ _ x => x)) rfl
      obtain ⟨ll, hll⟩ : ∃ ll, ll = (l[k]).list.length := ⟨_, rfl⟩
      have HQ := hid (And.intro hP (And.intro hw (And.intro hlv (And.intro hkv (And.intro b0 (And.intro b1 hS))))))
      have HE := hid hll
      rw [← hll] at hhe a2
      clear hP hw hlv hkv b0 b1 hll hS a1 a3
      go_wp2_with (at_builtin; refine stopAt ?_; intro q hq)
      refine hhe.mono ?_
      rintro e w3 ⟨x, rfl, hk3⟩
      have a0b := cell_old hk3 _ _ a0
      clear hhe a2 a0
      cases x with
      | true =>
        have HK3 := hid (HQ.out.1.keep.next hk3 (H := fun _ => False) (fun _ _ x => x) (fun _ _ x => x))
        clear hk3
        go_wp2_with (at_builtin; refine stopAt ?_; intro q hq)
        refine (sknown_any _).mono ?_
        rintro e w4 ⟨rfl, hk4⟩
        have HZ := hid (HK3.out.next hk4 (H := fun _ => False) (fun _ _ x => x) (fun _ _ x => x))
        clear hk4
        go_wp2_with (at_builtin; refine stopAt ?_; intro q hq)
        go_ret
        exact ⟨by rfl, HZ.out⟩
      | false =>
        have HK3 := hid hk3
        clear hk3
        obtain ⟨zk, hzk⟩ : ∃ zk, zk = (l[k]).kind := ⟨_, rfl⟩
        rw [← hzk] at a0b
        have Hzk := hid hzk
        clear hzk
        by_cases h6 : zk = 6
        · have q1 : (zk != 6) = false := by simp [h6]
          have q2 : (zk == 6) = true := by simp [h6]
          clear h6
          go_wp2_with (at_builtin; refine stopAt ?_; intro q hq)
          go_roundw
          case rel => exact ⟨k + 1, by omega, by omega, by go_num, hid ⟨_, _, HQ.out.1.later HK3.out, HQ.out.2.2.2.2.2.2, by have := HQ.out.2.1; omega⟩⟩
          case measure => simp [intOf]; omega
        · have q1 : (zk != 6) = true := by simp [h6]
          have q2 : (zk == 6) = false := by simp [h6]
          have h6' := hid h6
          clear h6
          go_wp2_with (first | (at_builtin; refine stopAt ?_; intro q hq) | (refine stopOp (.load 30 _) rfl ?_; intro q hq))
          (refine hq.out ?_; clear hq q)
          refine wpList_plain rfl (fun K hK => ?_)
          refine wp_load_any 30 (.tmp 48) rfl (ad.add (k * 4)) rfl _ (fun j u hu => cell_old HK3.out _ _ (Hrow.out j u hu)) _ Tryz.underlying30 rfl (by kernel_rfl) ?_
          refine hK _ _ ?_
          clear hK K
          obtain ⟨hP, hw, hlv, hkv, b0, b1, hS⟩ := HQ.out
          have hP3 := hP.later HK3.out
          have ho : OkO (some S) := fun S' e => by cases e; exact hS.okay
          have hpl := stplay_any w _ p D (some S) l[k] _ _ hP3 hlv hkv b1 (fun S' e h => by have := hP3.few ho S' e h; omega) (by omega)
          obtain ⟨-, s2⟩ := hP3.step ho l[k]
          have hso := fun S' => sound_step (x := l[k]) (S' := S') hS (by rw [← Hzk.out]; exact h6'.out)
          obtain ⟨R, hR⟩ : ∃ R, R = stepS D (some S) l[k] := ⟨_, rfl⟩
          rw [← hR] at s2 hpl hso
          obtain ⟨D5, o5⟩ := R
          have HW := hid (show D5.waits.length ≤ 5120 * (k + 1) ∧ ∀ S', o5 = some S' → Sound D5 S' from ⟨by simp only at s2; omega, hso⟩)
          clear hP hw hlv hkv b0 b1 s2 ho hP3 hR hso hS a0b
          go_wp2_with (at_builtin; refine stopAt ?_; intro q hq)
          refine hpl.mono ?_
          rintro e w5 ⟨rfl, hP5⟩
          clear hpl
          have hP5' := hid hP5
          obtain ⟨o2, hs, d, mm, sv, rv, A, F, G, h⟩ := hP5
          obtain ⟨h0, h1', h2', h3, hf, hb⟩ := cells4 h.one.1
          cases o5 with
          | none =>
            obtain ⟨rfl, -⟩ := h.two
            clear h hs
            go_wp2_with (at_builtin; refine stopAt ?_; intro q hq)
            refine (sknown_any _).mono ?_
            rintro e w6 ⟨rfl, hk6⟩
            have HZ := hid (hP5'.out.keep.next hk6 (H := fun _ => False) (fun _ _ x => x) (fun _ _ x => x))
            clear hk6
            go_wp2_with (at_builtin; refine stopAt ?_; intro q hq)
            go_ret
            exact ⟨by rfl, HZ.out⟩
          | some S5 =>
            obtain ⟨b, rfl, -⟩ := h.two
            clear h hs
            go_wp2_with (at_builtin; refine stopAt ?_; intro q hq)
            go_roundw
            case rel => exact ⟨k + 1, by omega, by omega, by go_num, hid ⟨_, _, hP5'.out, HW.out.2 _ rfl, HW.out.1⟩⟩
            case measure => simp [intOf]; omega
    · obtain ⟨D, S, hP, hS, hw⟩ := HR.out.ex
      have cut : (¬ (k : Int) < m) ∨ ((k : Int) < m ∧ ¬ (k : Int) < 30) := by omega
      have hw2 : D.waits.length ≤ 153600 := by omega
      have hfew := hP.few (fun S' e => by cases e; exact hS.okay) S rfl hS.dead
      obtain ⟨o2, hs, d, mm, sv, rv, A, F, G, h⟩ := hP
      obtain ⟨b, rfl, F1, F2, hst, hFe⟩ := h.two
      obtain ⟨h0, h1', h2', h3, hf, hb⟩ := cells4 h.one.1
      have ht : told S = S.ps := by unfold told; rw [hS.dead]; rfl
      have hprs := pairs_any wr b d F1 F2 D S hst (fun _ => by omega)
      rw [ht] at hprs
      have HC := hid (And.intro h (And.intro hst (And.intro hFe (And.intro hS (And.intro hw2 (And.intro hfew ht))))))
      clear h hst hFe hS hw2 hfew ht hgo hw hs h0 h2' h3 hf hb
      rcases cut with c1 | ⟨c0, c1⟩
      all_goals
        go_wp2_with (at_builtin; refine stopAt ?_; intro q hq)
        refine hprs.mono ?_
        rintro e w3 ⟨pv, rfl, hrow, hk3, hown⟩
        obtain ⟨wa, wc, rfl, -⟩ := hrow.form
        have hT := HC.out.1.fst.and (BoxT.lives _ _ _) (SideP.lives _ _ _ _) (RowT.of hrow) hown hk3
        obtain ⟨N, hN⟩ : ∃ N, N = S.ps.length := ⟨_, rfl⟩
        rw [← hN] at hT ⊢
        have h1b := cell_old hk3 _ _ h1'
        obtain ⟨hSc, hcc⟩ := HC.out.2.2.2.1.cp
        obtain ⟨z, D1, S1, hz⟩ : ∃ z D1 S1, cpS D S = (z, D1, S1) := ⟨_, _, _, rfl⟩
        have hps1 : S1.ps = S.ps := by have := cpS_ps D S; rw [hz] at this; exact this
        obtain ⟨b', e', F1', F2', hst3, hF3⟩ := hT.two
        cases e'
        have hck := scheck_any w3 b d F1' F2' D S hst3 (fun _ => by have := HC.out.2.2.2.2.2.1; omega) (by have := HC.out.2.2.2.2.1; omega)
        have hw1 := cpS_waits hT.two.disk.choose_spec.1.ok.few (S := S) (D := D)
        rw [hz] at hck hSc hcc hw1
        have hzz : z = 5 ∨ (z = 0 ∧ S1.g.safe = S1.g.l.length) := by
          rcases hcc with ⟨h1, -⟩ | ⟨h1, h2⟩
          · exact .inl h1
          · exact .inr ⟨h1, h2⟩
        have HD := hid (And.intro hT (And.intro hF3 (And.intro hN (And.intro hSc (And.intro hps1 hw1)))))
        clear hprs hrow hk3 hown hT hN hz hcc hst3 hF3 hSc hps1 hw1 h1'
        try simp only at hck
        go_wp2_with (at_builtin; refine stopAt ?_; intro q hq)
        refine hck.mono ?_
        rintro e w4 ⟨rfl, ht⟩
        have htt := ht.turns
        rw [← HD.out.2.1] at htt
        obtain ⟨F4, T4⟩ := HD.out.1.turn2 (BoxT.lives _ _ _) (RowT.lives _ _ _ _ _) htt
        have hps1 := HD.out.2.2.2.2.1
        have hSc := HD.out.2.2.2.1
        try simp only at hSc
        have hN := HD.out.2.2.1
        have hd1 := hSc.dead
        have ht1 : told S1 = S.ps := by unfold told; rw [hd1, if_neg (by simp), hps1]
        obtain ⟨b', e', G1, G2, hst4, hF4⟩ := T4.two
        cases e'
        obtain ⟨h0, h1, h2', h3, hf, hb⟩ := cells4 T4.one.1
        have hpr := pairs_any w4 b d G1 G2 D1 S1 hst4 (fun _ => by rw [hps1, ← hN]; have := HC.out.2.2.2.2.2.1; omega)
        rw [ht1, ← hN] at hpr
        have HE := hid (And.intro T4 (And.intro hst4 (And.intro hF4 ht1)))
        clear hck ht htt h1b T4 hst4 hF4 hps1 hSc hN ht1 hd1 h0 h2' h3 hf hb
        rcases hzz with rfl | ⟨rfl, hsf⟩
        · go_wp2_with (at_builtin; refine stopAt ?_; intro q hq)
          refine hpr.mono ?_
          rintro e w5 ⟨pv5, rfl, hrow5, hk5, -⟩
          obtain ⟨qa, qc, rfl, -⟩ := hrow5.form
          have hsm := rsame_any w5 qa wa N qc N wc S.ps S.ps hrow5 (HE.out.1.three.1.keep hk5 (fun _ _ x => x)) HD.out.2.2.1 HD.out.2.2.1
          rw [show decide (S.ps = S.ps) = true from decide_eq_true rfl] at hsm
          have h1b := cell_old hk5 _ _ h1
          have HK5 := hid hk5
          clear hpr hrow5 hk5 h1
          go_wp2_with (at_builtin; refine stopAt ?_; intro q hq)
          refine hsm.mono ?_
          rintro e w6 ⟨rfl, hk6⟩
          have h1 := cell_old hk6 _ _ h1b
          have HK6 := hid (HK5.out.next hk6 (H := fun _ => False) (fun _ _ x => x) (fun _ _ x => x))
          clear hsm hk6 h1b
          obtain ⟨w7, hw7⟩ : ∃ w7, w7 = w6 := ⟨_, rfl⟩
          have h1c := h1
          have HK7 := HK6
          rw [← hw7] at HK7 h1c ⊢
          clear hw7 h1
          have hsy := ssync_any w7 b d G1 G2 D1 S1 (HE.out.2.1.later HK7.out) (by have := HD.out.2.2.2.2.2; have := HC.out.2.2.2.2.1; omega)
          obtain ⟨y1, y2, y3, y4⟩ := HD.out.2.2.2.1.sy
          obtain ⟨z2, D2, S2, hz2⟩ : ∃ z2 D2 S2, syS D1 S1 = (z2, D2, S2) := ⟨_, _, _, rfl⟩
          rw [hz2] at hsy y1 y2 y3 y4
          try simp only at hsy y1 y2 y3 y4
          subst y1
          have HY := hid (And.intro y2 (And.intro y3 y4))
          clear y2 y3 y4 hz2
          go_wp2_with (at_builtin; refine stopAt ?_; intro q hq)
          refine hsy.mono ?_
          rintro e w8 ⟨rfl, ht⟩
          have htt := ht.turns
          rw [← HE.out.2.2.1] at htt
          obtain ⟨F8, T8⟩ := (HE.out.1.later (BoxT.lives _ _ _) (SideP.lives _ _ _ _) (RowT.lives _ _ _ _ _) HK7.out).turn2 (BoxT.lives _ _ _) (RowT.lives _ _ _ _ _) htt
          obtain ⟨F8', hd8, s8⟩ := T8.two.disk
          have T8 := T8.shrink T8.one hd8 T8.three (fun _ x => x) s8 (fun _ x => x)
          obtain ⟨h0, h1, h2', h3, hf, hb⟩ := cells4 T8.one.1
          have hk9 : Keep (fun _ => False) w8 (w8.alloc (.cells #[.int .i64 32, .int .i64 5] 3)) := (Keep.refl _ _).alloc _
          have T9 := T8.later (BoxT.lives _ _ _) (DkT.lives _ _) (RowT.lives _ _ _ _ _) hk9
          have hlt8 := (DkT.lives d D2).lt T8.two
          have hcr := crash_any _ d F8' D2 (some ⟨w8.heap.size, 0, none⟩) 2 2 [32, 5] T9.two (ints_two w8 32 5) (fun _ x hx hF => by cases hx; have : w8.heap.size < w8.heap.size := hlt8 _ hF; omega) (by decide) (by simp) (by rw [HY.out.2.1]; simp)
          have hop := sound_again HY.out.1 HY.out.2.1 [32, 5]
          have HT9 := hid T9
          have hop := hid hop
          clear hsy ht htt T8 hd8 s8 h1c hk9 T9 hlt8 h1 h2' h3 hf hb
          go_wp2_with (at_builtin; refine stopAt ?_; intro q hq)
          refine hcr.mono ?_
          rintro e w10 ⟨rfl, ht⟩
          obtain ⟨F10, T10⟩ := HT9.out.turn2 (U' := DkT d (DM.crash D2 [32, 5])) (BoxT.lives _ _ _) (RowT.lives _ _ _ _ _) ht
          clear h0
          obtain ⟨h0, h1, h2', h3, hf, hb⟩ := cells4 T10.one.1
          have ho := sopen_any w10 d F10 (DM.crash D2 [32, 5]) T10.two (by simp [DM.crash])
          rw [hop.out] at ho
          have HT10 := hid T10
          clear hcr ht T10 h1 h2' h3 hf hb
          go_wp2_with (at_builtin; refine stopAt ?_; intro q hq)
          refine ho.mono ?_
          intro e w11 hp
          obtain ⟨sv, rfl, ht⟩ := hp.side
          obtain ⟨F11, T11⟩ := HT10.out.turn2 (BoxT.lives _ _ _) (RowT.lives _ _ _ _ _) ht
          obtain ⟨t, rfl, H1, H2, hst11, hF11⟩ := T11.two
          have ht2 : told (⟨⟨S2.g.ep, S2.g.l, S2.g.l.length, false⟩, S2.ps, false⟩ : St) = S.ps := by show S2.ps = _; rw [HY.out.2.2, HD.out.2.2.2.2.1]
          have hpr2 := pairs_any w11 t d H1 H2 _ _ hst11 (fun _ => by show S2.ps.length ≤ _; rw [HY.out.2.2, HD.out.2.2.2.2.1]; have := HC.out.2.2.2.2.2.1; omega)
          rw [ht2, ← HD.out.2.2.1] at hpr2
          have HT11 := hid T11
          clear ho hp ht h0 T11 hst11 hF11 ht2
          go_wp2_with (at_builtin; refine stopAt ?_; intro q hq)
          refine hpr2.mono ?_
          rintro e w12 ⟨pv12, rfl, hrow12, hk12, -⟩
          obtain ⟨ra, rc, rfl, -⟩ := hrow12.form
          have hsm := rsame_any w12 ra wa N rc N wc S.ps S.ps hrow12 (HT11.out.three.1.keep hk12 (fun _ _ x => x)) HD.out.2.2.1 HD.out.2.2.1
          rw [show decide (S.ps = S.ps) = true from decide_eq_true rfl] at hsm
          have HK12 := hid (HT11.out.keep.next hk12 (H := fun _ => False) (fun _ _ x => x) (fun _ _ x => x))
          clear hpr2 hrow12 hk12
          go_wp2_with (at_builtin; refine stopAt ?_; intro q hq)
          refine hsm.mono ?_
          rintro e w13 ⟨rfl, hk13⟩
          have HK13 := hid (HK12.out.next hk13 (H := fun _ => False) (fun _ _ x => x) (fun _ _ x => x))
          clear hsm hk13
          go_wp2_with (at_builtin; refine stopAt ?_; intro q hq)
          refine (sknown_any _).mono ?_
          rintro e w14 ⟨rfl, hk14⟩
          have HZ := hid (HK13.out.next hk14 (H := fun _ => False) (fun _ _ x => x) (fun _ _ x => x))
          clear hk14
          go_wp2_with (at_builtin; refine stopAt ?_; intro q hq)
          go_ret
          exact ⟨by rfl, HZ.out⟩
        · go_wp2_with (at_builtin; refine stopAt ?_; intro q hq)
          refine hpr.mono ?_
          rintro e w5 ⟨pv5, rfl, hrow5, hk5, -⟩
          obtain ⟨qa, qc, rfl, -⟩ := hrow5.form
          have hsm := rsame_any w5 qa wa N qc N wc S.ps S.ps hrow5 (HE.out.1.three.1.keep hk5 (fun _ _ x => x)) HD.out.2.2.1 HD.out.2.2.1
          rw [show decide (S.ps = S.ps) = true from decide_eq_true rfl] at hsm
          have h1b := cell_old hk5 _ _ h1
          have HK5 := hid hk5
          clear hpr hrow5 hk5 h1
          go_wp2_with (at_builtin; refine stopAt ?_; intro q hq)
          refine hsm.mono ?_
          rintro e w6 ⟨rfl, hk6⟩
          have h1 := cell_old hk6 _ _ h1b
          have HK6 := hid (HK5.out.next hk6 (H := fun _ => False) (fun _ _ x => x) (fun _ _ x => x))
          clear hsm hk6 h1b
          have hwt := swait_up w6 b d G1 G2 D1 S1 (HE.out.2.1.later HK6.out) HD.out.2.2.2.1.dead HD.out.2.2.2.1.disk.gone
          rw [hsf, Nat.sub_self] at hwt
          clear hsf
          go_wp2_with (at_builtin; refine stopAt ?_; intro q hq)
          refine hwt.mono ?_
          rintro e w7 ⟨rfl, hk7⟩
          have h1c := cell_old hk7 _ _ h1
          have HK7 := hid (HK6.out.next hk7 (H := fun _ => False) (fun _ _ x => x) (fun _ _ x => x))
          clear hwt hk7 h1
          have hsy := ssync_any w7 b d G1 G2 D1 S1 (HE.out.2.1.later HK7.out) (by have := HD.out.2.2.2.2.2; have := HC.out.2.2.2.2.1; omega)
          obtain ⟨y1, y2, y3, y4⟩ := HD.out.2.2.2.1.sy
          obtain ⟨z2, D2, S2, hz2⟩ : ∃ z2 D2 S2, syS D1 S1 = (z2, D2, S2) := ⟨_, _, _, rfl⟩
          rw [hz2] at hsy y1 y2 y3 y4
          try simp only at hsy y1 y2 y3 y4
          subst y1
          have HY := hid (And.intro y2 (And.intro y3 y4))
          clear y2 y3 y4 hz2
          go_wp2_with (at_builtin; refine stopAt ?_; intro q hq)
          refine hsy.mono ?_
          rintro e w8 ⟨rfl, ht⟩
          have htt := ht.turns
          rw [← HE.out.2.2.1] at htt
          obtain ⟨F8, T8⟩ := (HE.out.1.later (BoxT.lives _ _ _) (SideP.lives _ _ _ _) (RowT.lives _ _ _ _ _) HK7.out).turn2 (BoxT.lives _ _ _) (RowT.lives _ _ _ _ _) htt
          obtain ⟨F8', hd8, s8⟩ := T8.two.disk
          have T8 := T8.shrink T8.one hd8 T8.three (fun _ x => x) s8 (fun _ x => x)
          obtain ⟨h0, h1, h2', h3, hf, hb⟩ := cells4 T8.one.1
          have hk9 : Keep (fun _ => False) w8 (w8.alloc (.cells #[.int .i64 32, .int .i64 5] 3)) := (Keep.refl _ _).alloc _
          have T9 := T8.later (BoxT.lives _ _ _) (DkT.lives _ _) (RowT.lives _ _ _ _ _) hk9
          have hlt8 := (DkT.lives d D2).lt T8.two
          have hcr := crash_any _ d F8' D2 (some ⟨w8.heap.size, 0, none⟩) 2 2 [32, 5] T9.two (ints_two w8 32 5) (fun _ x hx hF => by cases hx; have : w8.heap.size < w8.heap.size := hlt8 _ hF; omega) (by decide) (by simp) (by rw [HY.out.2.1]; simp)
          have hop := sound_again HY.out.1 HY.out.2.1 [32, 5]
          have HT9 := hid T9
          have hop := hid hop
          clear hsy ht htt T8 hd8 s8 h1c hk9 T9 hlt8 h1 h2' h3 hf hb
          go_wp2_with (at_builtin; refine stopAt ?_; intro q hq)
          refine hcr.mono ?_
          rintro e w10 ⟨rfl, ht⟩
          obtain ⟨F10, T10⟩ := HT9.out.turn2 (U' := DkT d (DM.crash D2 [32, 5])) (BoxT.lives _ _ _) (RowT.lives _ _ _ _ _) ht
          clear h0
          obtain ⟨h0, h1, h2', h3, hf, hb⟩ := cells4 T10.one.1
          have ho := sopen_any w10 d F10 (DM.crash D2 [32, 5]) T10.two (by simp [DM.crash])
          rw [hop.out] at ho
          have HT10 := hid T10
          clear hcr ht T10 h1 h2' h3 hf hb
          go_wp2_with (at_builtin; refine stopAt ?_; intro q hq)
          refine ho.mono ?_
          intro e w11 hp
          obtain ⟨sv, rfl, ht⟩ := hp.side
          obtain ⟨F11, T11⟩ := HT10.out.turn2 (BoxT.lives _ _ _) (RowT.lives _ _ _ _ _) ht
          obtain ⟨t, rfl, H1, H2, hst11, hF11⟩ := T11.two
          have ht2 : told (⟨⟨S2.g.ep, S2.g.l, S2.g.l.length, false⟩, S2.ps, false⟩ : St) = S.ps := by show S2.ps = _; rw [HY.out.2.2, HD.out.2.2.2.2.1]
          have hpr2 := pairs_any w11 t d H1 H2 _ _ hst11 (fun _ => by show S2.ps.length ≤ _; rw [HY.out.2.2, HD.out.2.2.2.2.1]; have := HC.out.2.2.2.2.2.1; omega)
          rw [ht2, ← HD.out.2.2.1] at hpr2
          have HT11 := hid T11
          clear ho hp ht h0 T11 hst11 hF11 ht2
          go_wp2_with (at_builtin; refine stopAt ?_; intro q hq)
          refine hpr2.mono ?_
          rintro e w12 ⟨pv12, rfl, hrow12, hk12, -⟩
          obtain ⟨ra, rc, rfl, -⟩ := hrow12.form
          have hsm := rsame_any w12 ra wa N rc N wc S.ps S.ps hrow12 (HT11.out.three.1.keep hk12 (fun _ _ x => x)) HD.out.2.2.1 HD.out.2.2.1
          rw [show decide (S.ps = S.ps) = true from decide_eq_true rfl] at hsm
          have HK12 := hid (HT11.out.keep.next hk12 (H := fun _ => False) (fun _ _ x => x) (fun _ _ x => x))
          clear hpr2 hrow12 hk12
          go_wp2_with (at_builtin; refine stopAt ?_; intro q hq)
          refine hsm.mono ?_
          rintro e w13 ⟨rfl, hk13⟩
          have HK13 := hid (HK12.out.next hk13 (H := fun _ => False) (fun _ _ x => x) (fun _ _ x => x))
          clear hsm hk13
          go_wp2_with (at_builtin; refine stopAt ?_; intro q hq)
          refine (sknown_any _).mono ?_
          rintro e w14 ⟨rfl, hk14⟩
          have HZ := hid (HK13.out.next hk14 (H := fun _ => False) (fun _ _ x => x) (fun _ _ x => x))
          clear hk14
          go_wp2_with (at_builtin; refine stopAt ?_; intro q hq)
          go_ret
          exact ⟨by rfl, HZ.out⟩
end Go.Proofs.YtnidpeeljoaelaaGreat
