/-
  ChunkOver: for every pair of greatest messages, every byte and all bytes the law answers true, and all arguments read behind the call as before. No condition.
-/
import Derived.Test.YtcnijcmddnacaaaChunkOver
import Derived.Test.YtcnijcmddnacaaaChunkOpen
namespace Go.Proofs.Ytcnijcmddnacaaa.chunkOver
open Go.ChangeShapes Go.WideShapes Go.ChangeAt Go.RowKit
set_option linter.unusedVariables false
set_option maxRecDepth 100000 in
theorem lifted (os : Os) (started : os.Started) (H : Type) (enc : TypeId × Value → H) :
    ReturnsInHanded {} Try.checked os 7 .any (Rows.chunkOverSpec.pre6 enc Try.prog Try.f7 Rows.chunkOverRow.domain false) (Rows.chunkOverSpec.post enc Try.prog Try.f7 false true false false) := by
  refine returnsInHanded_of_change (C := Try.checked) Chunk.own started (by kernel_rfl) Try.func7
    (ChangeSpec.witness6 (enc := enc) (C := Try.checked) false ⟨#[], #[.agg #[.int .i64 0, .int .i64 0], .int .u8 0, .slice none 0 0], []⟩ 8 (by kernel_rfl) (by kernel_rfl) (by kernel_rfl) (by kernel_rfl)) ?_
  intro W base args ds gs before hval0 hW hcnd _
  have hval : ∀ (j : Nat) t v, Try.f7.params[j]? = some t → args[j]? = some v → Value.okWide Try.prog W .any base t v := hval0
  have hW' := hW
  obtain ⟨p, q, hA0, hV, rfl, hfz, hnd⟩ := hW
  have hA : DataW.TrodAll enc Try.prog W 0 (fun _ => true) true Try.f7.params.toList args.toList ds p := hA0
  rw [Try.params7] at hA hval
  obtain ⟨v0, v1, v2, d0, d1, d2, p0, p1, p2, rfl, rfl, rfl, h0, h1, h2⟩ := trodAll_three hA
  obtain ⟨rfl, rfl⟩ := trodVars_none hV
  obtain ⟨x, y, rfl⟩ := Chunk.open_pair (hval 0 43 v0 rfl rfl) h0
  have h1k := h1
  obtain ⟨s, rfl, _, _, ws⟩ := open_int Try.underlying5 (hval 1 5 v1 rfl rfl) h1
  have hs := Chunk.wf8 s ws
  obtain ⟨s, rfl⟩ := Int.eq_ofNat_of_zero_le hs.1
  clear hA0 hval0 h1
  simp only [List.append_nil] at hW'
  have hlt : ∀ z ∈ p0 ++ p1 ++ p2, z.block < W.heap.size := fun z hz => hW'.lt z hz
  refine (Chunk.over_law x y s v2 W (by omega)).mono fun e W' ⟨he, hb⟩ => ?_
  subst he
  refine ⟨_, rfl, _, _, _, [], p0 ++ (p1 ++ p2), [], hW', ?_, ?_, rfl, hb.frame _, fun h => by cases h⟩
  · exact trodAll_cons_mk (shut_bool Try.underlying4 _) trodAll_mk0
  · exact trodAll_mk3 (Below.trod Chunk.laidOut (by kernel_rfl) (of_decide_eq_true (by kernel_rfl)) h0 hb (fun z hz => hlt z (by simp [hz])))
      (Below.trod Chunk.laidOut (by kernel_rfl) (of_decide_eq_true (by kernel_rfl)) h1k hb (fun z hz => hlt z (by simp [hz])))
      (Below.trod Chunk.laidOut (by kernel_rfl) (of_decide_eq_true (by kernel_rfl)) h2 hb (fun z hz => hlt z (by simp [hz])))
theorem over : Rows.chunkOverRow.holds Try.pinned (OpenSpec.ofChange Rows.chunkOverSpec) :=
  OpenClaim.holds_of_wide 7 Try.f7 rfl rfl rfl rfl rfl rfl rfl ⟨rfl, rfl, rfl, rfl, rfl⟩ rfl rfl rfl rfl rfl (by kernel_rfl) Try.func7 (by kernel_rfl)
    (of_decide_eq_true (by kernel_rfl)) (by unfold Func.isWrapper; first | (rw [if_pos (by decide +kernel)]; kernel_rfl) | (rw [if_neg (by decide +kernel)]; exact ⟨rfl, rfl⟩))
    (fun os started H enc _ => lifted os started H enc)
/-- THE STATEMENT. -/
theorem proved : Rows.ChunkOverSaid :=
  over
#print axioms proved
end Go.Proofs.Ytcnijcmddnacaaa.chunkOver
