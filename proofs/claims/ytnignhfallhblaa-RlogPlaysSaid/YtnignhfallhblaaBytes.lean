/- Bytes in memory: as cells, as strings. Conditions: none. -/
import Derived.Test.YtnignhfallhblaaBase
import Derived.Laws.IdiomStrings
namespace Go.Proofs.Ytnignhfallhblaa
open Go.RowKit

def bytesV (l : List UInt8) : List Value := l.map fun b => Value.int .u8 (b.toNat : Int)
theorem bytesV_length (l : List UInt8) : (bytesV l).length = l.length := by simp [bytesV]
theorem bytesV_one (l : List UInt8) : ∀ u ∈ bytesV l, u.oneCell' = true := by simp [bytesV, Value.oneCell']
theorem bytesV_append (l m : List UInt8) : bytesV (l ++ m) = bytesV l ++ bytesV m := by simp [bytesV]
theorem splice_bytes (l b : List UInt8) (i : Nat) : splice (bytesV l) i (bytesV b) = bytesV (l.take i ++ (b ++ l.drop (i + b.length))) := by
  simp [splice, bytesV, List.map_take, List.map_drop]

/-- A string of bytes. -/
def str (l : List UInt8) : ByteArray := ⟨l.toArray⟩
theorem str_size (l : List UInt8) : (str l).size = l.length := by simp [str, ByteArray.size]
theorem str_toList (l : List UInt8) : (str l).toList = l := ByteArray.toList_mk l
theorem str_inj {l m : List UInt8} : str l = str m ↔ l = m := by
  constructor
  · intro h
    have := congrArg (fun s : ByteArray => s.data.toList) h
    simpa [str] using this
  · rintro rfl; rfl

/-- Bytes of a slice that is its owner's (u: the type uint8's number). -/
structure FreshU (u : TypeId) (w : World) (v : Value) (l : List UInt8) (w' : World) : Prop where
  row : Row w' u 1 v l.length (bytesV l)
  keep : Keep (fun _ => False) w w'
  own : ∀ k, v.ownBlock = some k → w.heap.size ≤ k

section
variable {P : Program} {w : World}
theorem run_str {src dst e : TypeId} (hs : P.underlying src = some (.slice e)) (he : P.underlying e = some (.int .u8)) (hd : P.underlying dst = some .string)
    {ao : Option Addr} {n c : Nat} {l : List UInt8} (h : Cells w ao n 1 (bytesV l)) : (convert src dst (.slice ao n c)).run P w = .ok (.string (str l)) w := by
  have hl : l.length = n := by have := h.1; rw [bytesV_length] at this; omega
  subst hl
  cases l with
  | nil =>
    cases ao with
    | none => rw [run_convert_bytes_nil w src e hs he _ _ dst hd]; rfl
    | some a => exact run_convert_bytes_back w src dst e a c [] hs he hd (by simp)
  | cons b l =>
    obtain ⟨ad, rfl, hc⟩ := h.2 (by simp)
    exact run_convert_bytes_back w src dst e ad c (b :: l) hs he hd fun j hj => hc j _ (by unfold bytesV; rw [List.getElem?_map, List.getElem?_eq_getElem hj]; rfl)
end
end Go.Proofs.Ytnignhfallhblaa
