/-
  ChunkCuts: for every greatest message, all bytes and all cuts the law answers true, and all arguments read behind the call as before. No condition.
-/
import Derived.Test.YtcnijcmddnacaaaChunkCutsLaw
import Derived.Test.YtcnijcmddnacaaaChunkOpen
namespace Go.Proofs.Ytcnijcmddnacaaa.chunkCuts
open Go.ChangeShapes Go.WideShapes Go.ChangeAt Go.RowKit
set_option linter.unusedVariables false
set_option maxRecDepth 100000 in
theorem lifted (os : Os) (started : os.Started) (H : Type) (enc : TypeId × Value → H) :
    ReturnsInHanded {} Try.checked os 4 .any (Rows.chunkCutsSpec.pre6 enc Try.prog Try.f4 Rows.chunkCutsRow.domain false) (Rows.chunkCutsSpec.post enc Try.prog Try.f4 false true false false) := by
  refine returnsInHanded_of_change (C := Try.checked) Chunk.own started (by kernel_rfl) Try.func4
    (ChangeSpec.witness6 (enc := enc) (C := Try.checked) false ⟨#[], #[.int .i64 0, .slice none 0 0, .slice none 0 0], []⟩ 8 (by kernel_rfl) (by kernel_rfl) (by kernel_rfl) (by kernel_rfl)) ?_
  intro W base args ds gs before hval0 hW hcnd _
  have hval : ∀ (j : Nat) t v, Try.f4.params[j]? = some t → args[j]? = some v → Value.okWide Try.prog W .any base t v := hval0
  have hW' := hW
  obtain ⟨p, q, hA0, hV, rfl, hfz, hnd⟩ := hW
  have hA : DataW.TrodAll enc Try.prog W 0 (fun _ => true) true Try.f4.params.toList args.toList ds p := hA0
  rw [Try.params4] at hA hval
  obtain ⟨v0, v1, v2, d0, d1, d2, p0, p1, p2, rfl, rfl, rfl, h0, h1, h2⟩ := trodAll_three hA
  obtain ⟨rfl, rfl⟩ := trodVars_none hV
  have h0k := h0
  have h1k := h1
  have h2k := h2
  obtain ⟨x, rfl, _, _, _⟩ := open_int Try.underlying3 (hval 0 3 v0 rfl rfl) h0
  obtain ⟨l1, a1, k1, rfl, hb1, hn1, hc1, hm1⟩ := Chunk.open_bytes (hval 1 25 v1 rfl rfl) h1
  obtain ⟨l2, a2, k2, rfl, hb2, _, hc2, hm2⟩ := Chunk.open_bytes (hval 2 25 v2 rfl rfl) h2
  clear hA0 hval0 h0 h1 h2
  simp only [List.append_nil] at hW'
  have hlt : ∀ z ∈ p0 ++ p1 ++ p2, z.block < W.heap.size := fun z hz => hW'.lt z hz
  refine (Chunk.cuts_law x a1 a2 k1 k2 l1 l2 W hb1 hb2 hn1 hc1 hm1 (by omega)).mono fun e W' ⟨he, hb⟩ => ?_
  subst he
  refine ⟨_, rfl, _, _, _, [], p0 ++ (p1 ++ p2), [], hW', ?_, ?_, rfl, hb.frame _, fun h => by cases h⟩
  · exact trodAll_cons_mk (shut_bool Try.underlying4 _) trodAll_mk0
  · exact trodAll_mk3 (Below.trod Chunk.laidOut (by kernel_rfl) (of_decide_eq_true (by kernel_rfl)) h0k hb (fun z hz => hlt z (by simp [hz])))
      (Below.trod Chunk.laidOut (by kernel_rfl) (of_decide_eq_true (by kernel_rfl)) h1k hb (fun z hz => hlt z (by simp [hz])))
      (Below.trod Chunk.laidOut (by kernel_rfl) (of_decide_eq_true (by kernel_rfl)) h2k hb (fun z hz => hlt z (by simp [hz])))
theorem over : Rows.chunkCutsRow.holds Try.pinned (OpenSpec.ofChange Rows.chunkCutsSpec) :=
  OpenClaim.holds_of_wide 4 Try.f4 rfl rfl rfl rfl rfl rfl rfl ⟨rfl, rfl, rfl, rfl, rfl⟩ rfl rfl rfl rfl rfl (by kernel_rfl) Try.func4 (by kernel_rfl)
    (of_decide_eq_true (by kernel_rfl)) (by unfold Func.isWrapper; first | (rw [if_pos (by decide +kernel)]; kernel_rfl) | (rw [if_neg (by decide +kernel)]; exact ⟨rfl, rfl⟩))
    (fun os started H enc _ => lifted os started H enc)
/-- THE STATEMENT. -/
theorem proved : Rows.ChunkCutsSaid :=
  over
#print axioms proved
end Go.Proofs.Ytcnijcmddnacaaa.chunkCuts
