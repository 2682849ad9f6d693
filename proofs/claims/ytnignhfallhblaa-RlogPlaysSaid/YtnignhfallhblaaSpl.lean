/- The statements' helper Spoil: it writes over a slice of bytes of the call's own. Conditions: as the contract names them. -/
import Derived.Test.YtnignhfallhblaaLists
namespace Go.Proofs.Ytnignhfallhblaa
open Go.RowKit

theorem bits_u8 (op : BinOp) (a b : Int) : ∃ u : UInt8, bits op .u8 a b = (u.toNat : Int) := by
  have h : ∀ x : Int, ∃ u : UInt8, IntKind.u8.wrap x = (u.toNat : Int) := fun x => by
    have hx : 0 ≤ IntKind.u8.wrap x ∧ IntKind.u8.wrap x ≤ 255 := by simp [IntKind.wrap, IntKind.signed, IntKind.bits]; omega
    refine ⟨UInt8.ofNat (IntKind.u8.wrap x).toNat, ?_⟩
    rw [UInt8.toNat_ofNat']
    omega
  unfold bits
  exact h _

structure SpoilRel (w : World) (v : Value) (n : Nat) (wr : World) : Prop where
  ex : ∃ l : List UInt8, Row wr 5 1 v n (bytesV l)
  keep : Keep (fun j => v.ownBlock = some j) w wr

set_option maxHeartbeats 400000 in
theorem spoil_any (w : World) (v : Value) (l : List UInt8) (hr : Row w 5 1 v l.length (bytesV l)) :
    Calls Try.prog 38 #[v] w fun e w' => e = .returned (.tuple #[]) ∧ Keep (fun j => v.ownBlock = some j) w w' := by
  obtain ⟨ad, cap, rfl, hcap, hmax, -⟩ := hr.form
  obtain ⟨n, hn⟩ : ∃ n, n = l.length := ⟨_, rfl⟩
  rw [← hn] at hr hcap ⊢
  clear hn
  have hn63 : (n : Int) ≤ 9223372036854775807 := by unfold maxLen at hmax; omega
  have HR := hid (SpoilRel.mk (w := w) ⟨l, hr⟩ (Keep.refl _ _))
  clear hr hmax
  go_enter Try.func38, Try.ntmps38
  go_wp2_with (at_builtin; refine stopAt ?_; intro q hq)
  go_loopw [2] (fun kv wr => ∃ k : Nat, k ≤ n ∧ kv = .int .i64 k ∧ Hid (SpoilRel w (.slice ad n cap) n wr)) (fun kv _ => n - (intOf kv).toNat)
  case atStart => exact ⟨0, Nat.zero_le _, rfl, HR⟩
  case round =>
    clear HR
    obtain ⟨k, hk, rfl, HR⟩ := hrel
    by_cases hkn : k < n
    · have h4 : (k : Int) < n := by omega
      obtain ⟨l', hr'⟩ := HR.out.ex
      have hll : l'.length = n := by have := hr'.1; rw [bytesV_length] at this; omega
      obtain ⟨g, cap', hv, c0⟩ := hr'.getCell (j := k) (u := .int .u8 ((l'[k]'(by omega)).toNat : Int)) (by simp [bytesV, hll, hkn])
      cases hv
      have f0 := hr'.frozen k (by omega)
      have Hr := hid hr'
      clear hr'
      go_wp2_with (at_builtin; refine stopAt ?_; intro q hq)
      obtain ⟨z, hz⟩ := bits_u8 BinOp.xor ((l'[k]'(by omega)).toNat : Int) 165
      have hk2 : Keep (fun j => (Value.slice (some ⟨g, 0, none⟩) n cap).ownBlock = some j) w (wr.setCell ⟨g, k, none⟩ (.int .u8 (z.toNat : Int))) := by
        refine Keep.setCell HR.out.keep (.inl ?_) _; rfl
      have hr2 := Hr.out.setOne k hkn (.int .u8 (z.toNat : Int)) rfl
      have hs : (bytesV l').set k (.int .u8 (z.toNat : Int)) = bytesV (l'.set k z) := by simp [bytesV, List.map_set]
      rw [hs] at hr2
      have HR2 := hid (SpoilRel.mk ⟨_, hr2⟩ hk2)
      rw [hz]
      go_roundw
      case rel => exact ⟨k + 1, by omega, by go_num, HR2⟩
      case measure => simp [intOf]; omega
    · have h4 : ¬ (k : Int) < n := by omega
      go_wp2_with (at_builtin; refine stopAt ?_; intro q hq)
      go_end0
      exact ⟨rfl, HR.out.keep⟩
end Go.Proofs.Ytnignhfallhblaa
