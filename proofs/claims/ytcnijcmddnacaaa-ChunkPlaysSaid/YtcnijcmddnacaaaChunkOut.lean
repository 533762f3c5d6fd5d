/- The row of messages that Take gathers: what it is, what it abides. No conditions. -/
import Derived.Test.YtcnijcmddnacaaaChunkFeed
import Derived.Test.YtcnijcmddnacaaaChunkConcat
namespace Go.Proofs.Ytcnijcmddnacaaa.Chunk
open Go.RowKit Go.Shelf
set_option linter.unusedVariables false
def rowV (x : List Nat) (gc : Nat × Nat) : Value := .slice (some ⟨gc.1, 0, none⟩) x.length gc.2
/-- The messages gathered so far: a row of slices, each of which lies in a block of its own. -/
structure OutAt (W : World) (n₀ : Nat) (v : Value) (ms : List (List Nat)) (gs : List (Nat × Nat)) : Prop where
  len : gs.length = ms.length
  own : W.ownsRow n₀ 25 1 v ms.length (List.zipWith rowV ms gs)
  nil : v = .slice none 0 0 ↔ ms = []
  each : ∀ i, i < ms.length → BytesAt W (gs.getD i (0, 0)).1 0 (ms.getD i []) ∧ n₀ ≤ (gs.getD i (0, 0)).1 ∧ (gs.getD i (0, 0)).1 < W.heap.size ∧ v.ownBlock ≠ some (gs.getD i (0, 0)).1 ∧ ∃ t cs, At W (gs.getD i (0, 0)).1 t cs
theorem OutAt.start (W : World) (n₀ : Nat) : OutAt W n₀ (.slice none 0 0) [] [] :=
  ⟨rfl, World.ownsRow_nil _ _ _ _, ⟨fun _ => rfl, fun _ => rfl⟩, fun i h => by simp at h⟩
/-- It abides the turn of a block that lies below n₀, or is no cells. -/
theorem OutAt.turned {A B : World} {row : Option Nat} {n₀ : Nat} {v : Value} {ms : List (List Nat)} {gs : List (Nat × Nat)} (h : OutAt A n₀ v ms gs) (hg : A.grownBy B row)
    (hr : ∀ r, row = some r → r < n₀ ∨ ∃ o : Obj, A.heap[r]? = some o ∧ o.isCells = false) : OutAt B n₀ v ms gs := by
  refine ⟨h.len, ?_, h.nil, fun i hi => ?_⟩
  · refine ⟨h.own.1, ?_⟩
    rcases h.own.2 with hn | ⟨g, cap, cur, hv, hb, hgg, rest⟩
    · exact .inl hn
    · refine .inr ⟨g, cap, cur, hv, hb, ?_, rest⟩
      rw [hg.block g (Array.getElem?_eq_some_iff.1 hgg).1 (fun e => ?_)]
      · exact hgg
      · rcases hr g e.symm with hlt | ⟨o, ho, hc⟩
        · omega
        · rw [hgg] at ho; cases ho; cases hc
  · obtain ⟨h1, h2, h3, h4, t, cs, h5⟩ := h.each i hi
    refine ⟨⟨fun j u hu => ?_, h1.small⟩, h2, by have := hg.size; omega, h4, t, cs, h5.grown hg (fun e => ?_)⟩
    rotate_left
    · rcases hr _ e.symm with hlt | ⟨o, ho, hcl⟩
      · omega
      · rw [show A.heap[_]? = _ from h5] at ho; cases ho; cases hcl
    have hc := h1.lies j u hu
    by_cases he : some (gs.getD i (0, 0)).1 = row
    · rcases hr _ he.symm with hlt | ⟨o, ho, hcl⟩
      · omega
      · obtain ⟨o', ho', hc'⟩ := cells_of_cell hc
        rw [ho] at ho'; cases ho'; rw [hcl] at hc'; cases hc'
    · exact (hg.cell_far ⟨(gs.getD i (0, 0)).1, 0 + j, none⟩ h3 he).trans hc
theorem at_turned {A B : World} {row : Option Nat} {g : Nat} {t : TypeId} {cs : Array Value} (h : At A g t cs) (hg : A.grownBy B row) (hr : ∀ r, row = some r → r ≠ g ∨ ∃ o : Obj, A.heap[r]? = some o ∧ o.isCells = false) : At B g t cs := by
  refine h.grown hg (fun e => ?_)
  rcases hr g e.symm with hne | ⟨o, ho, hc⟩
  · exact hne rfl
  · rw [show A.heap[g]? = _ from h] at ho; cases ho; cases hc
theorem grown_turned {w A B : World} {fb : Nat} {row : Option Nat} (h : w.grownBy A (some fb)) (hg : A.grownBy B row) (hr : ∀ r, row = some r → r = fb ∨ w.heap.size ≤ r) : w.grownBy B (some fb) :=
  ⟨hg.os.trans h.os, hg.tape.trans h.tape, hg.output.trans h.output, Nat.le_trans h.size hg.size, fun i hi hne =>
    (hg.block i (Nat.lt_of_lt_of_le hi h.size) (fun e => by
      rcases hr i e.symm with he | he
      · exact hne (by rw [he])
      · omega)).trans (h.block i hi hne)⟩
theorem keeps_below {W W' : World} (h : Below W.heap.size W W') : KeepsOthers W W' :=
  ⟨h.size, fun k o hk _ => (h.block k (Array.getElem?_eq_some_iff.1 hk).1).trans hk⟩
/-- One message more. -/
theorem OutAt.more {A B C : World} {n₀ : Nat} {v : Value} {ms : List (List Nat)} {gs : List (Nat × Nat)} {x : List Nat} {g c g' cap : Nat} (h : OutAt A n₀ v ms gs) (hAB : Below A.heap.size A B) (hx : BytesAt B g 0 x) (hxa : ∃ t cs, At B g t cs) (hg0 : A.heap.size ≤ g) (hgB : g < B.heap.size) (hn : n₀ ≤ A.heap.size)
    (hgrow : B.grownBy C v.ownBlock) (hown : C.ownsRow n₀ 25 1 (.slice (some ⟨g', 0, none⟩) (ms.length + 1) cap) (ms.length + 1) (List.zipWith rowV ms gs ++ [rowV x (g, c)])) (hat : v.ownBlock = some g' ∨ B.heap.size ≤ g') :
    OutAt C n₀ (.slice (some ⟨g', 0, none⟩) (ms.length + 1) cap) (ms ++ [x]) (gs ++ [(g, c)]) := by
  have hl := h.len
  have hvlt : ∀ k, v.ownBlock = some k → k < A.heap.size := fun k e => (h.own.lt k e).2
  refine ⟨by simp [hl], ?_, by simp, fun i hi => ?_⟩
  · rw [List.zipWith_append hl.symm]
    simpa using hown
  · rw [List.length_append, List.length_singleton] at hi
    by_cases hlt : i < ms.length
    · obtain ⟨h1, h2, h3, h4, t, cs, h5⟩ := h.each i hlt
      have e1 : (gs ++ [(g, c)]).getD i (0, 0) = gs.getD i (0, 0) := by
        rw [List.getD_eq_getElem?_getD, List.getD_eq_getElem?_getD, List.getElem?_append_left (by omega)]
      have e2 : (ms ++ [x]).getD i [] = ms.getD i [] := by
        rw [List.getD_eq_getElem?_getD, List.getD_eq_getElem?_getD, List.getElem?_append_left hlt]
      rw [e1, e2]
      have hb := h1.below hAB h3
      have hs := hAB.size
      refine ⟨hb.grown hgrow (by omega) (fun e => h4 e.symm), h2, by have := hgrow.size; omega, ?_, t, cs, (h5.below hAB h3).grown hgrow (fun e => h4 e.symm)⟩
      simp only [Value.ownBlock]
      intro e
      rcases hat with hat | hat
      · exact h4 (by rw [hat]; exact e)
      · cases e; omega
    · have hie : i = ms.length := by omega
      have e1 : (gs ++ [(g, c)]).getD i (0, 0) = (g, c) := by
        rw [List.getD_eq_getElem?_getD, List.getElem?_append_right (by omega), hie, hl, Nat.sub_self]; rfl
      have e2 : (ms ++ [x]).getD i [] = x := by
        rw [List.getD_eq_getElem?_getD, List.getElem?_append_right (by omega), hie, Nat.sub_self]; rfl
      rw [e1, e2]
      obtain ⟨t, cs, hxa⟩ := hxa
      refine ⟨hx.grown hgrow hgB (fun e => by have := hvlt g e.symm; omega), by show n₀ ≤ g; omega, by have := hgrow.size; show g < _; omega, ?_, t, cs, hxa.grown hgrow (fun e => by have := hvlt g e.symm; omega)⟩
      simp only [Value.ownBlock]
      intro e
      rcases hat with hat | hat
      · have := hvlt g' hat; cases e; omega
      · cases e; omega
end Go.Proofs.Ytcnijcmddnacaaa.Chunk
