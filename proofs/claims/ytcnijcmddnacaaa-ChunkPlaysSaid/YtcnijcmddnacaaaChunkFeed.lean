/- The feed's small functions: SetMost, New, Over, Left. No conditions beside the feed's lying as told. -/
import Derived.Test.YtcnijcmddnacaaaChunkWhole
namespace Go.Proofs.Ytcnijcmddnacaaa.Chunk
open Go.RowKit
set_option linter.unusedVariables false
def mostN (x : Int) : Nat := (min (max x 7) 65536).toNat
theorem setmost_any (fb m : Nat) (v : Value) (o : Bool) (x : Int) (w : World) (hF : FeedAt w fb m v o) :
    Calls Try.prog 18 #[.pointer (some ⟨fb, 0, none⟩), .int .i64 x] w fun e w' => e = .returned (.tuple #[]) ∧ FeedAt w' fb (mostN x) v o ∧ w.grownBy w' (some fb) := by
  have c0 : w.cell? ⟨fb, 0, none⟩ = some (.int .i64 (m : Int)) := At.cell hF 0
  have f0 : w.frozen? ⟨fb, 0, none⟩ = false := At.free hF 0
  have HF := Lib.hid hF
  clear hF
  go_enter Try.func18, Try.ntmps18
  go_wp2_with fail
  · go_end0
    refine ⟨rfl, ?_, only_set (g := fb) (p := ⟨fb, 0, none⟩) (World.grownBy.refl w _) (.inl rfl) _⟩
    rw [show (7 : Int) = ((mostN x : Nat) : Int) from by unfold mostN; omega]
    exact HF.out.put 0 _
  · go_end0
    refine ⟨rfl, ?_, only_set (g := fb) (p := ⟨fb, 0, none⟩) (World.grownBy.refl w _) (.inl rfl) _⟩
    rw [show (65536 : Int) = ((mostN x : Nat) : Int) from by unfold mostN; omega]
    exact HF.out.put 0 _
  · go_end0
    refine ⟨rfl, ?_, only_set (g := fb) (p := ⟨fb, 0, none⟩) (World.grownBy.refl w _) (.inl rfl) _⟩
    have e : FeedAt (w.setCell ⟨fb, 0, none⟩ (.int .i64 ((mostN x : Nat) : Int))) fb (mostN x) v o := HF.out.put 0 _
    rw [show ((mostN x : Nat) : Int) = x from by unfold mostN; omega] at e
    exact e
theorem over_any (fb m : Nat) (v : Value) (o : Bool) (w : World) (hF : FeedAt w fb m v o) :
    Calls Try.prog 17 #[.pointer (some ⟨fb, 0, none⟩)] w fun e w' => e = .returned (.bool o) ∧ w = w' := by
  have c2 : w.cell? ⟨fb, 2, none⟩ = some (.bool o) := At.cell hF 2
  clear hF
  go_enter Try.func17, Try.ntmps17
  go_wp2_with fail
  go_ret
  exact ⟨rfl, rfl⟩
theorem left_any (fb m n c : Nat) (a : Option Addr) (o : Bool) (w : World) (hF : FeedAt w fb m (.slice a n c) o) :
    Calls Try.prog 14 #[.pointer (some ⟨fb, 0, none⟩)] w fun e w' => e = .returned (.int .i64 n) ∧ w = w' := by
  have c1 : w.cell? ⟨fb, 1, none⟩ = some (.slice a n c) := At.cell hF 1
  clear hF
  go_enter Try.func14, Try.ntmps14
  go_wp2_with fail
  go_ret
  exact ⟨rfl, rfl⟩
theorem new_any (x : Int) (w : World) :
    Calls Try.prog 12 #[.int .i64 x] w fun e w' => e = .returned (.pointer (some ⟨w.heap.size, 0, none⟩)) ∧ FeedAt w' w.heap.size (mostN x) (.slice none 0 0) false ∧ Below w.heap.size w w' ∧ w.heap.size < w'.heap.size := by
  go_enter Try.func12, Try.ntmps12
  go_wp2_with fail
  have h : FeedAt (w.alloc (.cells #[.int .i64 ((0 : Nat) : Int), .slice none 0 0, .bool false] 50)) w.heap.size 0 (.slice none 0 0) false := At.new _ _ _
  refine (setmost_any w.heap.size 0 (.slice none 0 0) false x _ h).mono ?_
  rintro e w1 ⟨rfl, h1, hg⟩
  have hb : Below w.heap.size w w1 := below_only ((Below.refl _ w).alloc (Nat.le_refl _) _) hg (by rw [size_alloc]; omega) (Nat.le_refl _)
  have hs := hg.size
  rw [size_alloc] at hs
  have H1 := Lib.hid h1
  have HB := Lib.hid hb
  clear h h1 hg hb
  go_wp2_with fail
  go_ret
  exact ⟨rfl, H1.out, HB.out, by omega⟩
end Go.Proofs.Ytcnijcmddnacaaa.Chunk
