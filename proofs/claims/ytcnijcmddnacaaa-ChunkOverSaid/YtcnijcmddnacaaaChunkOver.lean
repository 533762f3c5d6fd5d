/- ChunkOver's walk: true, whatever comes. Conditions: the size is a byte. -/
import Derived.Test.YtcnijcmddnacaaaChunkAwake
namespace Go.Proofs.Ytcnijcmddnacaaa.Chunk
open Go.RowKit Go.Shelf
set_option linter.unusedVariables false
theorem feeds_over (m s : Nat) (h : s < 7) : Feeds m ([] ++ [s, 0, 0, 0]) [] [] true :=
  .bad _ (by simp) (.inl (by simp [num4, numk]; omega))
set_option maxRecDepth 100000 in
set_option maxHeartbeats 1000000 in
theorem over_law (x y : Int) (s : Nat) (vb : Value) (w : World) (hs : s < 256) :
    Calls Try.prog 7 #[.agg #[.int .i64 x, .int .i64 y], .int .u8 s, vb] w fun e w' => e = .returned (.bool true) ∧ Below w.heap.size w w' := by
  have hm7 : s % 7 < 7 := by omega
  go_enter Try.func7, Try.ntmps7
  go_wp2_with fail
  refine (awake_any _).mono ?_
  rintro e w1 ⟨rfl, hb1⟩
  have hb1' : Below w.heap.size w w1 := ((Below.refl _ w).alloc (Nat.le_refl _) _).trans (hb1.mono (by simp))
  have hA1 := (At.new w 43 #[.int .i64 x, .int .i64 y]).below hb1 (by simp)
  have c0 : w1.cell? ⟨w.heap.size, 0, none⟩ = some (.int .i64 x) := At.cell hA1 0
  have hs1 : w.heap.size < w1.heap.size := hA1.lt
  have HA1 := Lib.hid hA1
  have HB1 := Lib.hid hb1'
  clear hb1 hb1' hA1
  go_wp2_with fail
  refine (new_feed x w1).mono ?_
  rintro e w2 ⟨rfl, hF2, hb2⟩
  have hA2 := HA1.out.below hb2 hs1
  have c1 : w2.cell? ⟨w.heap.size, 1, none⟩ = some (.int .i64 y) := At.cell hA2 1
  have hs2 := hF2.lt
  have hb2' : Below w.heap.size w w2 := HB1.out.trans (hb2.mono (by omega))
  have HF2 := Lib.hid hF2
  have HA2 := Lib.hid hA2
  have HB2 := Lib.hid hb2'
  clear hF2 hA2 hb2 hb2' c0
  go_wp2_with fail
  refine (take_feed w1.heap.size (mostN x) none _ [] [s % 7, 0, 0, 0] [] [] true _ (HF2.out.alloc _) (.inr ⟨w2.heap.size, 0, 4, rfl, by simp, new_bytes w2 _ (by intro k hk; simp at hk; omega) _ _ rfl⟩) (mostN_hi x) (by simp) (feeds_over _ _ hm7)).mono ?_
  rintro e w3 ⟨n3, ao3, co3, gs3, a3, rfl, ht3⟩
  have hF3 := ht3.feed
  have hA3 := (HA2.out.alloc _).grown ht3.grown (by simp; omega)
  have c1 : w3.cell? ⟨w.heap.size, 1, none⟩ = some (.int .i64 y) := At.cell hA3 1
  have hb3 : Below w.heap.size w w3 := below_only (b := w2.alloc _) (HB2.out.alloc (by omega) _) ht3.grown (by simp; omega) (by omega)
  have HF3 := Lib.hid hF3
  have HB3 := Lib.hid hb3
  clear hF3 hA3 hb3 ht3
  go_wp2_with fail
  refine (setmost_feed _ _ _ _ _ y _ HF3.out).mono ?_
  rintro e w4 ⟨rfl, hF4, hg4⟩
  have hb4 : Below w.heap.size w w4 := below_only HB3.out hg4 HB3.out.size (by omega)
  have HF4 := Lib.hid hF4
  have HB4 := Lib.hid hb4
  have HS4 := Lib.hid hb4.size
  clear hF4 hg4 hb4
  go_wp2_with (first
    | (go_at_call 17; refine (over_feed _ _ _ _ _ _ HF4.out).mono ?_; rintro e w5 ⟨rfl, rfl⟩)
    | (go_at_call 13; refine (take_shut _ _ _ _ _ _ HF4.out).mono ?_; rintro e w5 ⟨rfl, rfl⟩)
    | (go_at_call 14; refine (left_feed _ _ _ _ _ _ HF4.out).mono ?_; rintro e w5 ⟨rfl, rfl⟩)
    | (go_at_call 21; refine (next_feed _ _ _ _ _ _ HF4.out (by simp)).mono ?_; rintro e w5 ⟨rfl, hb5⟩))
  go_ret
  exact ⟨rfl, HB4.out.trans (hb5.mono HS4.out)⟩
end Go.Proofs.Ytcnijcmddnacaaa.Chunk
