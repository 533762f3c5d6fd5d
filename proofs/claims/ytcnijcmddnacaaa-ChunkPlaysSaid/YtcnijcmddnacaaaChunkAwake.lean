/- The laws' own look at a feed (awake): true. No conditions. -/
import Derived.Test.YtcnijcmddnacaaaChunkState
namespace Go.Proofs.Ytcnijcmddnacaaa.Chunk
open Go.RowKit Go.Shelf
set_option linter.unusedVariables false
theorem feeds1 : Feeds 100 ([] ++ [9, 0, 0]) [] [9, 0, 0] false := .short _ (by decide)
theorem feeds2 : Feeds 100 ([9, 0, 0] ++ [0, 108, 1, 0, 5, 0, 7]) [[9, 0, 0, 0, 108, 1, 0, 5, 0]] [7] false := by
  have h : num4 ([9, 0, 0] ++ [0, 108, 1, 0, 5, 0, 7]) = 9 := by decide
  have := Feeds.take (m := 100) ([9, 0, 0] ++ [0, 108, 1, 0, 5, 0, 7]) [] [7] false (by decide) (by rw [h]; decide) (by rw [h]; decide) (by rw [h]; decide) (by rw [h]; exact .short _ (by decide))
  rw [h] at this
  exact this
theorem OutAt.elem {w : World} {n₀ : Nat} {v : Value} {ms : List (List Nat)} {gs : List (Nat × Nat)} (h : OutAt w n₀ v ms gs) {g0 n c : Nat} (hv : v = .slice (some ⟨g0, 0, none⟩) n c) (i : Nat) (hi : i < ms.length) :
    w.cell? ⟨g0, i, none⟩ = some (.slice (some ⟨(gs.getD i (0, 0)).1, 0, none⟩) (ms.getD i []).length (gs.getD i (0, 0)).2) := by
  have hb : v.ownBlock = some g0 := by rw [hv]; rfl
  have hl := h.len
  have := h.own.cells hb i (rowV (ms.getD i []) (gs.getD i (0, 0))) (by
    rw [List.getElem?_zipWith, List.getElem?_eq_getElem hi, List.getElem?_eq_getElem (by omega), List.getD_eq_getElem?_getD, List.getD_eq_getElem?_getD, List.getElem?_eq_getElem hi, List.getElem?_eq_getElem (by omega)]
    rfl)
  rw [add_plain, Nat.zero_add] at this
  exact this
theorem OutAt.block {w : World} {n₀ : Nat} {a : Option Addr} {n c : Nat} {ms : List (List Nat)} {gs : List (Nat × Nat)} (h : OutAt w n₀ (.slice a n c) ms gs) (h0 : 0 < ms.length) : ∃ g0, a = some ⟨g0, 0, none⟩ ∧ n₀ ≤ g0 ∧ g0 < w.heap.size := by
  obtain ⟨g, cap, hv, h1, h2⟩ := h.own.form h0
  cases hv
  exact ⟨g, rfl, h1, h2⟩
theorem new_bytes (w : World) (l : List Nat) (hl : bytes l) (t : TypeId) (cs : Array Value) (hcs : cs.toList = u8L l) : BytesAt (w.alloc (.cells cs t)) w.heap.size 0 l :=
  ⟨fun i v hv => by
    rw [Nat.zero_add, (At.new w t cs).cell i, ← Array.getElem?_toList, hcs]
    exact hv, hl⟩
set_option maxRecDepth 100000 in
set_option maxHeartbeats 1000000 in
theorem awake_any (w : World) : Calls Try.prog 11 #[] w fun e w' => e = .returned (.bool true) ∧ Below w.heap.size w w' := by
  go_enter Try.func11, Try.ntmps11
  go_wp2_with fail
  refine (new_feed 100 w).mono ?_
  rintro e w1 ⟨rfl, hF1, hb1⟩
  have HF1 := Lib.hid hF1
  have HB1 := Lib.hid hb1
  have hs1 := hb1.size
  have hfl := hF1.lt
  clear hF1 hb1
  go_wp2_with fail
  refine (take_feed w.heap.size 100 none _ [] [9, 0, 0] [] [9, 0, 0] false _ (HF1.out.alloc _) (.inr ⟨w1.heap.size, 0, 3, rfl, by simp, new_bytes w1 _ (by unfold bytes; decide) _ _ rfl⟩) (by omega) (by simp) feeds1).mono ?_
  rintro e w2 ⟨n2, ao2, co2, gs2, a2, rfl, ht2⟩
  have hF2 := ht2.feed
  have hb2 : Below w.heap.size w w2 := below_only (b := w1.alloc _) (HB1.out.alloc (by omega) _) ht2.grown (by simp; omega) (Nat.le_refl _)
  have HF2 := Lib.hid hF2
  have HB2 := Lib.hid hb2
  have hs2 := hb2.size
  clear hF2 hb2 ht2
  go_wp2_with fail
  refine (take_feed w.heap.size 100 a2 _ [9, 0, 0] [0, 108, 1, 0, 5, 0, 7] _ _ false _ (HF2.out.alloc _) (.inr ⟨w2.heap.size, 0, 7, rfl, by simp, new_bytes w2 _ (by unfold bytes; decide) _ _ rfl⟩) (by omega) (by simp) feeds2).mono ?_
  rintro e w3 ⟨n3, ao3, co3, gs3, a3, rfl, ht3⟩
  have hF3 := ht3.feed
  have hb3 : Below w.heap.size w w3 := below_only (b := w2.alloc _) (HB2.out.alloc (by omega) _) ht3.grown (by simp; omega) (Nat.le_refl _)
  have HF3 := Lib.hid hF3
  have HB3 := Lib.hid hb3
  obtain ⟨g3, rfl, _, _⟩ := ht3.out.block (by simp)
  have hc30 := ht3.out.elem rfl 0 (by simp)
  simp only [List.getD_cons_zero, List.length_cons, List.length_nil] at hc30
  clear hF3 hb3 ht3
  go_wp2_with (first
    | (go_at_call 14; refine (left_feed _ _ _ _ _ _ HF3.out).mono ?_; rintro e w4 ⟨rfl, rfl⟩)
    | (go_at_call 17; refine (over_feed _ _ _ _ _ _ HF3.out).mono ?_; rintro e w4 ⟨rfl, rfl⟩))
  go_ret
  exact ⟨rfl, HB3.out⟩
end Go.Proofs.Ytcnijcmddnacaaa.Chunk
