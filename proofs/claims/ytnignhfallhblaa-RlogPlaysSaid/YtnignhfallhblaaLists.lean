/- seawallref00: Same, Copy, Spoil. Conditions: as the contracts name them. -/
import Derived.Test.YtnignhfallhblaaChecked
import Derived.Test.YtnignhfallhblaaBase
import Derived.Test.YtnignhfallhblaaBytes
import Derived.Laws.IdiomStrings
import Derived.WalkLawsBesides
import Derived.WalkSpells
namespace Go.Proofs.Ytnignhfallhblaa
open Go.RowKit

theorem ty_bytes : SliceTy Try.prog 24 5 (.int .u8 0) 1 1 := ⟨by kernel_rfl, by kernel_rfl, rfl, by decide⟩
abbrev Fresh := FreshU 5

set_option maxHeartbeats 400000 in
theorem same_any (w : World) (ao bo : Option Addr) (n m c d : Nat) (l k : List UInt8) (h1 : Cells w ao n 1 (bytesV l)) (h2 : Cells w bo m 1 (bytesV k)) :
    Calls Try.prog 15 #[.slice ao n c, .slice bo m d] w fun e w' => e = .returned (.bool (decide (l = k))) ∧ w = w' := by
  have hs1 := run_str (P := Try.prog) Try.underlying24 Try.underlying5 Try.underlying9 (c := c) h1
  have hs2 := run_str (P := Try.prog) Try.underlying24 Try.underlying5 Try.underlying9 (c := d) h2
  have he : Value.bool ((str l).toList == (str k).toList) = .bool (decide (l = k)) := by
    rw [str_toList, str_toList]
    congr 1
    rw [Bool.eq_iff_iff]
    simp
  have He := hid he
  clear he
  go_enter Try.func15, Try.ntmps15
  go_wp2
  go_ret
  exact ⟨congrArg Ending.returned He.out, rfl⟩

set_option maxHeartbeats 400000 in
theorem copy_any (w : World) (ao : Option Addr) (n c : Nat) (l : List UInt8) (h1 : Cells w ao n 1 (bytesV l)) (hn : n ≤ 140737488355328) :
    Calls Try.prog 48 #[.slice ao n c] w fun e w' => ∃ v, e = .returned v ∧ Fresh w v l w' := by
  have hl : l.length = n := by have := h1.1; rw [bytesV_length] at this; omega
  have Hl := hid hl
  clear hl
  go_enter Try.func48, Try.ntmps48
  go_wp2_with (at_builtin; refine stopAt ?_; intro q hq)
  (refine hq.out ?_; clear hq q)
  refine wpList_plain rfl (fun K hK => ?_)
  refine wp_append (v := .slice none 0 0) (n := 0) ty_bytes (.tmp 4) (.tmp 5) rfl rfl (Row.nil _ _ _) ao n c (bytesV l) rfl h1 (bytesV_one _) (by unfold maxLen; omega) (by omega) ?_
  intro v2 w2 hr2 hk2 hv2
  rw [Nat.zero_add, List.nil_append] at hr2
  refine hK _ _ ?_
  clear hK K
  have hF : Fresh w v2 l w2 := by
    refine ⟨by rw [Hl.out]; exact hr2, hk2.mono (fun i hi x => by simp [Value.ownBlock] at x), fun k hk => ?_⟩
    rcases hv2 with ⟨h0, _⟩ | ⟨k', h1, h2⟩
    · rw [h0] at hk; simp [Value.ownBlock] at hk
    · rw [hk] at h1; cases h1
      rcases h2 with h2 | h2
      · simp [Value.ownBlock] at h2
      · omega
  have HF := hid hF
  clear hF hr2 hk2 hv2
  go_wp2_with (at_builtin; refine stopAt ?_; intro q hq)
  go_ret
  exact ⟨_, rfl, HF.out⟩
end Go.Proofs.Ytnignhfallhblaa
