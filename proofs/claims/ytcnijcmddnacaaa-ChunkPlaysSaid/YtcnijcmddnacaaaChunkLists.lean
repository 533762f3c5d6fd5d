/- The references' comparisons: of two like rows of bytes, of two like rows of such rows: true. Conditions: fewer than 10^9 each. -/
import Derived.Test.YtcnijcmddnacaaaChunkAwake
import Derived.Deep.QuietTactic
import Derived.BigQuiet
namespace Go.Proofs.Ytcnijcmddnacaaa.Chunk
open Go.RowKit Go.Shelf
set_option linter.unusedVariables false
theorem BytesV.drewN {w : World} {v : Value} {l : List Nat} (h : BytesV w w.heap.size v l) (n : Nat) : BytesV (w.drewN n) (w.drewN n).heap.size v l := by
  rcases h with h | ⟨b, o, c, h, hlt, hbs⟩
  · exact .inl h
  · exact .inr ⟨b, o, c, h, hlt, ⟨fun i v hv => hbs.lies i v hv, hbs.small⟩⟩
/-- The cell of a row of bytes. -/
theorem BytesV.at_ {w : World} {v : Value} {l : List Nat} (h : BytesV w w.heap.size v l) (h0 : 0 < l.length) : ∃ b o c, v = .slice (some ⟨b, o, none⟩) l.length c ∧ BytesAt w b o l := by
  rcases h with ⟨_, rfl⟩ | ⟨b, o, c, h, hlt, hbs⟩
  · simp at h0
  · exact ⟨b, o, c, h, hbs⟩
set_option maxRecDepth 100000 in
set_option maxHeartbeats 1000000 in
theorem bytes_same (v1 v2 : Value) (l : List Nat) (w : World) (h1 : BytesV w w.heap.size v1 l) (h2 : BytesV w w.heap.size v2 l) (hl : l.length < 1000000000) :
    Calls Try.prog 28 #[v1, v2] w fun e w' => e = .returned (.bool true) ∧ ∃ n, w' = w.drewN n := by
  obtain ⟨a1, c1, rfl⟩ := h1.form
  obtain ⟨a2, c2, rfl⟩ := h2.form
  have H1 := Lib.hid h1
  have H2 := Lib.hid h2
  clear h1 h2
  go_enter Try.func28, Try.ntmps28
  go_wp2_with fail
  go_loopw [5] (fun i wr => ∃ k n : Nat, k ≤ l.length ∧ i = .int .i64 k ∧ wr = w.drewN n) (fun i _ => l.length - (intOf i).toNat)
  case atStart => exact ⟨0, 0, by omega, rfl, rfl⟩
  case round =>
    obtain ⟨k, n, hk, rfl, hwr⟩ := hrel
    have g1 := H1.out.drewN n
    have g2 := H2.out.drewN n
    rw [← hwr] at g1 g2
    have HWR := Lib.hid hwr
    clear hwr
    by_cases hlt : k < l.length
    · obtain ⟨b1, o1, k1, e1, hb1⟩ := g1.at_ (by omega)
      obtain ⟨b2, o2, k2, e2, hb2⟩ := g2.at_ (by omega)
      cases e1
      cases e2
      have x1 := hb1.cell k hlt
      have x2 := hb2.cell k hlt
      have hx := bytes_getD hb1.small k
      generalize l.getD k 0 = x at *
      have d1 : decide (k < l.length) = true := decide_eq_true hlt
      have j0 : (0 : Int) ≤ (k : Int) := by omega
      have j1 : (k : Int) < (l.length : Int) := by omega
      clear g1 g2 hb1 hb2
      go_wp2_with fail
      go_quiet (fail)
      go_wp2_with fail
      go_roundw
      case rel => exact ⟨k + 1, n + nq, by omega, by go_num, by rw [HWR.out, World.drewN_drewN]⟩
      case measure => simp [intOf]; omega
    · have d1 : decide (k < l.length) = false := decide_eq_false hlt
      clear g1 g2
      go_wp2_with fail
      go_ret
      exact ⟨rfl, n, HWR.out⟩
/-- A row of rows of bytes. -/
def RowsV (w : World) (v : Value) (ms : List (List Nat)) : Prop :=
  (v = .slice none 0 0 ∧ ms = []) ∨ ∃ g c, v = .slice (some ⟨g, 0, none⟩) ms.length c ∧ ∀ i, i < ms.length → ∃ u, w.cell? ⟨g, i, none⟩ = some u ∧ BytesV w w.heap.size u (ms.getD i [])
theorem RowsV.form {w : World} {v : Value} {ms : List (List Nat)} (h : RowsV w v ms) : ∃ a c, v = .slice a ms.length c := by
  rcases h with ⟨rfl, rfl⟩ | ⟨g, c, rfl, _⟩
  · exact ⟨none, 0, rfl⟩
  · exact ⟨_, c, rfl⟩
theorem RowsV.drewN {w : World} {v : Value} {ms : List (List Nat)} (h : RowsV w v ms) (n : Nat) : RowsV (w.drewN n) v ms := by
  rcases h with h | ⟨g, c, h, hx⟩
  · exact .inl h
  · refine .inr ⟨g, c, h, fun i hi => ?_⟩
    obtain ⟨u, hu, hb⟩ := hx i hi
    exact ⟨u, hu, hb.drewN n⟩
theorem RowsV.at_ {w : World} {v : Value} {ms : List (List Nat)} (h : RowsV w v ms) {k : Nat} (hk : k < ms.length) : ∃ g c u, v = .slice (some ⟨g, 0, none⟩) ms.length c ∧ w.cell? ⟨g, k, none⟩ = some u ∧ BytesV w w.heap.size u (ms.getD k []) := by
  rcases h with ⟨_, rfl⟩ | ⟨g, c, h, hx⟩
  · simp at hk
  · obtain ⟨u, hu, hb⟩ := hx k hk
    exact ⟨g, c, u, h, hu, hb⟩
theorem OutAt.rows {w : World} {n₀ : Nat} {v : Value} {ms : List (List Nat)} {gs : List (Nat × Nat)} (h : OutAt w n₀ v ms gs) : RowsV w v ms := by
  by_cases h0 : 0 < ms.length
  · obtain ⟨a, c, rfl⟩ := h.form
    obtain ⟨g, rfl, _, _⟩ := h.block h0
    refine .inr ⟨g, c, rfl, fun i hi => ⟨_, h.elem rfl i hi, ?_⟩⟩
    obtain ⟨h1, _, h3, _⟩ := h.each i hi
    exact .inr ⟨_, 0, _, rfl, h3, h1⟩
  · have : ms = [] := List.eq_nil_of_length_eq_zero (by omega)
    exact .inl ⟨h.nil.2 this, this⟩
set_option maxRecDepth 100000 in
set_option maxHeartbeats 1000000 in
theorem lists_same (v1 v2 : Value) (ms : List (List Nat)) (w : World) (h1 : RowsV w v1 ms) (h2 : RowsV w v2 ms) (hl : ms.length < 1000000000) (hb : ∀ x ∈ ms, x.length < 1000000000) :
    Calls Try.prog 16 #[v1, v2] w fun e w' => e = .returned (.bool true) ∧ ∃ n, w' = w.drewN n := by
  obtain ⟨a1, c1, rfl⟩ := h1.form
  obtain ⟨a2, c2, rfl⟩ := h2.form
  have H1 := Lib.hid h1
  have H2 := Lib.hid h2
  have HB := Lib.hid hb
  clear h1 h2 hb
  go_enter Try.func16, Try.ntmps16
  go_wp2_with fail
  go_loopw [5] (fun i wr => ∃ k n : Nat, k ≤ ms.length ∧ i = .int .i64 k ∧ wr = w.drewN n) (fun i _ => ms.length - (intOf i).toNat)
  case atStart => exact ⟨0, 0, by omega, rfl, rfl⟩
  case round =>
    obtain ⟨k, n, hk, rfl, hwr⟩ := hrel
    have g1 := H1.out.drewN n
    have g2 := H2.out.drewN n
    rw [← hwr] at g1 g2
    have HWR := Lib.hid hwr
    clear hwr
    by_cases hlt : k < ms.length
    · obtain ⟨b1, k1, u1, e1, x1, hb1⟩ := g1.at_ hlt
      obtain ⟨b2, k2, u2, e2, x2, hb2⟩ := g2.at_ hlt
      cases e1
      cases e2
      have hml : (ms.getD k []).length < 1000000000 := HB.out _ (by rw [List.getD_eq_getElem?_getD, List.getElem?_eq_getElem hlt]; exact List.getElem_mem hlt)
      have d1 : decide (k < ms.length) = true := decide_eq_true hlt
      have j0 : (0 : Int) ≤ (k : Int) := by omega
      have j1 : (k : Int) < (ms.length : Int) := by omega
      have X1 := Lib.hid hb1
      have X2 := Lib.hid hb2
      have XM := Lib.hid hml
      clear g1 g2 hb1 hb2 hml
      go_wp2_with fail
      go_quiet ((go_at_call 28; exact Calls.quiet_of (bytes_same _ _ _ _ (X1.out.drewN _) (X2.out.drewN _) XM.out)))
      go_wp2_with fail
      go_roundw
      case rel => exact ⟨k + 1, n + nq, by omega, by go_num, by rw [HWR.out, World.drewN_drewN]⟩
      case measure => simp [intOf]; omega
    · have d1 : decide (k < ms.length) = false := decide_eq_false hlt
      clear g1 g2
      go_wp2_with fail
      go_ret
      exact ⟨rfl, n, HWR.out⟩
end Go.Proofs.Ytcnijcmddnacaaa.Chunk
