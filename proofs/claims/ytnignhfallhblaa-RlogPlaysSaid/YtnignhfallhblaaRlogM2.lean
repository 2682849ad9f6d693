/- A log as plain data: next, holes, catch, trim, install. Conditions: none. -/
import Derived.Test.YtnignhfallhblaaRlogM
namespace Go.Proofs.Ytnignhfallhblaa.RM

/-- The first number from s on that no entry in a row has. -/
def run : List Ent → Nat → Nat
  | [], s => s
  | e :: l, s => if e.1 = s then run l (s + 1) else s
def next (g : Lg) : Nat := run (g.l.drop (below g.l (g.ap + 1))) (g.ap + 1)
/-- What lies between. -/
def gaps : List Ent → Nat → List Nat
  | [], _ => []
  | e :: l, s => List.range' s (e.1 - s) ++ gaps l (e.1 + 1)
def holes (g : Lg) (most : Int) : List Nat := (gaps (g.l.drop (below g.l (g.ap + 1))) (g.ap + 1)).take most.toNat
def train : List Ent → Nat → Nat → List Ent
  | [], _, _ => []
  | _ :: _, _, 0 => []
  | e :: l, s, k + 1 => if e.1 = s then e :: train l (s + 1) k else []
def catch_ (g : Lg) (s : Nat) (most : Int) : List Ent := train (g.l.drop (below g.l s)) s most.toNat
def trim (g : Lg) (s : Nat) : Nat × Lg := (below g.l (min s g.ap + 1), { g with l := g.l.drop (below g.l (min s g.ap + 1)) })
def install (g : Lg) (s : Nat) : Bool × Lg := if s ≤ g.ap ∨ s = 18446744073709551615 then (false, g) else (true, (trim { g with ap := s } s).2)
def top (g : Lg) : Nat := match g.l.getLast? with | none => g.ap | some e => max g.ap e.1

theorem Ok.drop {g : Lg} (h : Ok g) (i : Nat) : Ok { g with l := g.l.drop i } :=
  ⟨List.Pairwise.sublist (List.drop_sublist _ _) h.rising, fun e he => h.slots e (List.mem_of_mem_drop he), fun e he => h.vals e (List.mem_of_mem_drop he), by have := h.few; simp only [List.length_drop]; omega, h.ap⟩
theorem Ok.trim {g : Lg} (h : Ok g) (s : Nat) : Ok (trim g s).2 := h.drop _
theorem Ok.install {g : Lg} (h : Ok g) (s : Nat) (hs : s < 18446744073709551616) : Ok (install g s).2 := by
  unfold RM.install
  split
  · exact h
  · rename_i hc
    exact Ok.trim (g := { g with ap := s }) ⟨h.rising, h.slots, h.vals, h.few, show s < _ by omega⟩ s

theorem run_lt : ∀ {l : List Ent} {s : Nat}, (∀ e ∈ l, e.1 < 18446744073709551615) → s ≤ 18446744073709551615 → run l s ≤ 18446744073709551615
  | [], _, _, hs => hs
  | e :: l, s, h, hs => by
    unfold run
    split
    · rename_i he
      have := h e List.mem_cons_self
      exact run_lt (fun x hx => h x (List.mem_cons_of_mem _ hx)) (by omega)
    · exact hs
end Go.Proofs.Ytnignhfallhblaa.RM
