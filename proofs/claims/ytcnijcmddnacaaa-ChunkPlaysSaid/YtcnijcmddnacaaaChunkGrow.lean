/- slices.Grow of nil: an empty slice with room. Conditions: room for one at least, for fewer than 10^9. (Turned to this dump from the shelf's walk of Grow.) -/
import Derived.Test.YtcnijcmddnacaaaChunkMem
import Derived.Lib.AppendZerosOnto
namespace Go.Proofs.Ytcnijcmddnacaaa.Chunk
open Go.RowKit
set_option linter.unusedVariables false
set_option maxRecDepth 100000 in
set_option maxHeartbeats 2000000 in
theorem grow_any (n : Nat) (w : World) (h0 : 0 < n) (hn : n < 1000000000) :
    Calls Try.prog 34 #[.slice none 0 0, .int .i64 (n : Int)] w fun e w' => ∃ c, e = .returned (.slice (some ⟨w.heap.size, 0, none⟩) 0 c) ∧ n ≤ c ∧ w'.ownsRow w.heap.size 5 1 (.slice (some ⟨w.heap.size, 0, none⟩) 0 c) 0 [] ∧ Below w.heap.size w w' := by
  obtain ⟨i0, hi0, hz0, hz1, hz2⟩ := info_parts info5
  have hold : (Builtin.firstCells i0.size 0 (.slice none 0 0)).run Try.prog w.drew = .ok ([] : List Value).toArray w.drew := run_firstCells_none w.drew i0.size 0 0 0
  have hrz := fun ty => Lib.run_append_grow_zeros w 25 3 ty 5 i0 (.int .u8 0) .i64 .i64 Try.underlying25 Try.underlying3 hi0 hz0 none 0 0 [] hold n (by omega) (by rw [hz1]; omega) (by omega) (by omega) (by rw [hz2]; omega) (by rw [hz2]; exact growslice_fits (by omega) (by omega))
  obtain ⟨G, hG⟩ : ∃ G, G = grownCap w (0 + n) 0 5 := ⟨_, rfl⟩
  have hGn : 0 + n ≤ grownCap w (0 + n) 0 5 := grownCap_ge w _ _ _
  have hGm : grownCap w (0 + n) 0 5 ≤ maxLen := grownCap_le_maxLen w (0 + n) 0 5 (by have := max_big; omega)
  rw [← hG] at hrz hGn hGm
  have HG := Lib.hid hG
  clear hG hold
  go_enter Try.func34, Try.ntmps34
  go_wp2_with (at_builtin; refine Lib.wpList_append_run _ rfl _ _ _ _ rfl _ _ rfl rfl _ _ (hrz _) ?_)
  go_ret
  refine ⟨G, rfl, by omega, (World.ownsRow_made w _ G (Nat.le_refl _) hGm ?_).drew, ((Below.refl _ w).alloc (Nat.le_refl _) _).drew⟩
  rw [Array.size_append, size_zeroCells, size_zeroCells]
  simp
  omega
end Go.Proofs.Ytcnijcmddnacaaa.Chunk
