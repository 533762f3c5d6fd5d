/-
  ChunkPlays: for every greatest message and all steps the law answers true, and both arguments read behind the call as before. No condition.
-/
import Derived.Test.YtcnijcmddnacaaaChunkPlaysLaw
import Derived.Test.YtcnijcmddnacaaaChunkPlayOpen
namespace Go.Proofs.Ytcnijcmddnacaaa.chunkPlays
open Go.ChangeShapes Go.WideShapes Go.ChangeAt Go.RowKit
set_option linter.unusedVariables false
set_option maxRecDepth 100000 in
theorem lifted (os : Os) (started : os.Started) (H : Type) (enc : TypeId × Value → H) :
    ReturnsInHanded {} Try.checked os 5 .any (Rows.chunkPlaysSpec.pre6 enc Try.prog Try.f5 Rows.chunkPlaysRow.domain false) (Rows.chunkPlaysSpec.post enc Try.prog Try.f5 false true false false) := by
  refine returnsInHanded_of_change_sized (C := Try.checked) Chunk.own started (by kernel_rfl) Try.func5
    (ChangeSpec.witness6 (enc := enc) (C := Try.checked) false ⟨#[], #[.int .i64 0, .slice none 0 0], []⟩ 8 (by kernel_rfl) (by kernel_rfl) (by kernel_rfl) (by kernel_rfl)) ?_
  intro W base args ds gs before hval0 hW hcnd hsz0 _
  have hval : ∀ (j : Nat) t v, Try.f5.params[j]? = some t → args[j]? = some v → Value.okWide Try.prog W .any base t v := hval0
  have hsz : (DataW.weightsEach Try.prog (Try.f5.params.toList ++ Rows.chunkPlaysSpec.plain.varTypes Try.prog) (ds ++ gs)).all (· ≤ reachBytes) = true := hsz0
  have hW' := hW
  obtain ⟨p, q, hA0, hV, rfl, hfz, hnd⟩ := hW
  have hA : DataW.TrodAll enc Try.prog W 0 (fun _ => true) true Try.f5.params.toList args.toList ds p := hA0
  rw [Try.params5] at hA hval hsz
  obtain ⟨v0, v1, d0, d1, p0, p1, rfl, rfl, rfl, h0, h1⟩ := trodAll_two hA
  obtain ⟨rfl, rfl⟩ := trodVars_none hV
  have h0k := h0
  have h1k := h1
  have hwd : ∀ n ∈ d1.weights Try.prog 34, n ≤ reachBytes := fun n hn => by
    have := List.all_eq_true.1 hsz n (DataW.weights_mem_each (j := 1) (t := 34) (d := d1) rfl rfl n hn)
    simpa using this
  obtain ⟨x, rfl, _, _, _⟩ := open_int Try.underlying3 (hval 0 3 v0 rfl rfl) h0
  obtain ⟨ss, a1, k1, rfl, hb1, hm1⟩ := Chunk.open_steps (hval 1 34 v1 rfl rfl) h1 hwd
  clear hA0 hval0 hsz0 h0 h1
  simp only [List.append_nil] at hW'
  have hlt : ∀ z ∈ p0 ++ p1, z.block < W.heap.size := fun z hz => hW'.lt z hz
  refine (Chunk.plays_law x a1 k1 ss W hb1 hm1).mono fun e W' ⟨he, hb⟩ => ?_
  subst he
  refine ⟨_, rfl, _, _, _, [], p0 ++ p1, [], hW', ?_, ?_, rfl, hb.frame _, fun h => by cases h⟩
  · exact trodAll_cons_mk (shut_bool Try.underlying4 _) trodAll_mk0
  · exact trodAll_mk2 (Below.trod Chunk.laidOut (by kernel_rfl) (of_decide_eq_true (by kernel_rfl)) h0k hb (fun z hz => hlt z (by simp [hz])))
      (Below.trod Chunk.laidOut (by kernel_rfl) (of_decide_eq_true (by kernel_rfl)) h1k hb (fun z hz => hlt z (by simp [hz])))
theorem over : Rows.chunkPlaysRow.holds Try.pinned (OpenSpec.ofChange Rows.chunkPlaysSpec) :=
  OpenClaim.holds_of_wide 5 Try.f5 rfl rfl rfl rfl rfl rfl rfl ⟨rfl, rfl, rfl, rfl, rfl⟩ rfl rfl rfl rfl rfl (by kernel_rfl) Try.func5 (by kernel_rfl)
    (of_decide_eq_true (by kernel_rfl)) (by unfold Func.isWrapper; first | (rw [if_pos (by decide +kernel)]; kernel_rfl) | (rw [if_neg (by decide +kernel)]; exact ⟨rfl, rfl⟩))
    (fun os started H enc _ => lifted os started H enc)
/-- THE STATEMENT. -/
theorem proved : Rows.ChunkPlaysSaid :=
  over
#print axioms proved
end Go.Proofs.Ytcnijcmddnacaaa.chunkPlays
