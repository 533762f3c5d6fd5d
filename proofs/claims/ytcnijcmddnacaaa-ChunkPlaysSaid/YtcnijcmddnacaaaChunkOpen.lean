/- What comes in, opened: rows of bytes, pairs of numbers; what a law's answer wants behind the call. No conditions. -/
import Derived.Test.YtcnijcmddnacaaaRows
import Derived.Test.YtcnijcmddnacaaaChunkAwake
import Derived.WalkKit
import Derived.ProofKit
import Derived.OpenShut
import Derived.Carry
namespace Go.Proofs.Ytcnijcmddnacaaa.Chunk
open Go.ChangeShapes Go.WideShapes Go.ChangeAt Go.RowKit
set_option linter.unusedVariables false
theorem own : ownKnob Try.prog.godebug = none := by kernel_rfl
theorem laidOut : laidOutB Try.prog = true := by kernel_rfl
theorem c5 : Try.prog.cellsOf 5 = 1 := by kernel_rfl
theorem c3 : Try.prog.cellsOf 3 = 1 := by kernel_rfl
theorem wf8 (n : Int) (h : (Lit.int .u8 n).wf = true) : 0 ≤ n ∧ n ≤ 255 := by simpa [Lit.wf, IntKind.min, IntKind.max, IntKind.signed, IntKind.bits] using h
section
variable {H : Type} {enc : TypeId × Value → H} {W : World} {base : Nat}
/-- A row of bytes that comes in. -/
theorem open_bytes {v : Value} {d : DataW H} {p : List MemPlace} (hv : Value.okWide Try.prog W .any base 25 v) (h : DataW.Trod enc Try.prog W 0 (fun _ => true) true 25 v d p) :
    ∃ (l : List Nat) (a : Option Addr) (c : Nat), v = .slice a l.length c ∧ BytesV W W.heap.size v l ∧ (a = none → c = 0) ∧ l.length ≤ c ∧ c ≤ maxLen := by
  obtain ⟨a0, n0, k0, rfl⟩ := okWide_slice Try.underlying25 hv
  obtain ⟨fuel, hf⟩ := h
  rcases open_ints Try.underlying25 Try.underlying5 c5 hf with ⟨hcs, _⟩ | ⟨a, len, cap, zs, hcs, _, hl, hm, hz, _, hcell, hw⟩
  · simp [Value.cells] at hcs
    obtain ⟨rfl, rfl, rfl⟩ := hcs
    exact ⟨[], none, 0, rfl, .inl ⟨.inl rfl, rfl⟩, fun _ => rfl, by simp, Nat.zero_le _⟩
  · simp [Value.cells] at hcs
    obtain ⟨rfl, rfl, rfl⟩ := hcs
    simp only [if_true] at hz
    have hbytes : ∀ i, i < zs.length → 0 ≤ zs.getD i 0 ∧ zs.getD i 0 ≤ 255 := fun i hi => wf8 _ (hw _ (by
      rw [List.getD_eq_getElem?_getD, List.getElem?_eq_getElem hi]; exact List.getElem_mem hi))
    let l := (List.range n0).map fun i => (zs.getD i 0).toNat
    have hll : l.length = n0 := by simp [l]
    refine ⟨l, some a, k0, by rw [hll], ?_, fun h => (by cases h), by rw [hll]; exact hl, hm⟩
    by_cases h0 : n0 = 0
    · subst h0
      exact .inl ⟨.inr ⟨a, k0, rfl⟩, List.eq_nil_of_length_eq_zero hll⟩
    · have hc0 := hcell 0 (by omega)
      have hsp : a.spot = none := by
        cases hsp : a.spot with
        | none => rfl
        | some s =>
          simp only [World.cell?, Addr.add, if_true] at hc0
          split at hc0
          · simp [hsp] at hc0
          · cases hc0
      obtain ⟨b, o, sp⟩ := a
      simp only at hsp
      subst hsp
      rw [show ((⟨b, o, none⟩ : Addr).add 0) = ⟨b, o, none⟩ from rfl] at hc0
      refine .inr ⟨b, o, k0, by rw [hll], ?_, ⟨fun i u hu => ?_, fun x hx => ?_⟩⟩
      · obtain ⟨ob, hob, _⟩ := cells_of_cell hc0
        exact (Array.getElem?_eq_some_iff.1 hob).1
      · have hi : i < n0 := by
          rcases Nat.lt_or_ge i n0 with hi | hi
          · exact hi
          · rw [List.getElem?_eq_none (by rw [u8L_len, hll]; exact hi)] at hu; cases hu
        rw [u8L_get l i (by rw [hll]; exact hi)] at hu
        cases hu
        have hc := hcell i (by omega)
        rw [add_plain] at hc
        rw [hc]
        have hb := hbytes i (by omega)
        have hg : l.getD i 0 = (zs.getD i 0).toNat := by
          simp only [l, List.getD_eq_getElem?_getD, List.getElem?_map, List.getElem?_range hi]; rfl
        rw [hg, Int.toNat_of_nonneg hb.1]
      · obtain ⟨i, hi, rfl⟩ := List.mem_map.1 hx
        have hb := hbytes i (by have := List.mem_range.1 hi; omega)
        omega
/-- A pair of whole numbers that comes in. -/
theorem open_pair {v : Value} {d : DataW H} {p : List MemPlace} (hv : Value.okWide Try.prog W .any base 43 v) (h : DataW.Trod enc Try.prog W 0 (fun _ => true) true 43 v d p) :
    ∃ x y : Int, v = .agg #[.int .i64 x, .int .i64 y] := by
  simp only [Value.okWide, Try.underlying43] at hv
  obtain ⟨cs, rfl, hn, _⟩ := hv
  rw [show Try.prog.cellsOf 43 = 2 by kernel_rfl] at hn
  obtain ⟨fuel, hf⟩ := h
  obtain ⟨xs, m, rfl, _, _, hl, hi⟩ := DataW.trod_array Try.underlying43 hf
  have h0 := hi 0 (by omega)
  have h1 := hi 1 (by omega)
  rw [c3, List.getElem?_eq_getElem (by omega)] at h0 h1
  obtain ⟨x, hx, _, _⟩ := DataW.trod_int Try.underlying3 h0
  obtain ⟨y, hy, _, _⟩ := DataW.trod_int Try.underlying3 h1
  refine ⟨x, y, ?_⟩
  obtain ⟨l⟩ := cs
  match l, hn with
  | [u, z], _ =>
    simp [Value.cells] at hx hy
    rw [hx, hy]
end
end Go.Proofs.Ytcnijcmddnacaaa.Chunk
