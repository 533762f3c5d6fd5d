/- What wire's New, Take and Num make of four bytes: their number, least byte first. Conditions: the four bytes lie where the slice says. -/
import Derived.Test.YtcnijcmddnacaaaChunkMem
namespace Go.Proofs.Ytcnijcmddnacaaa.Chunk
open Go.RowKit
set_option linter.unusedVariables false
/-- A cursor: its bytes, and that it is not bad. -/
def CurAt (w : World) (p g c : Nat) : Prop := At w p 65 #[.slice (some ⟨g, 0, none⟩) 4 c, .bool false]
theorem wirenew_any (b o c0 : Nat) (l : List Nat) (w : World) (hb : BytesAt w b o l) (h4 : l.length = 4) (hlt : b < w.heap.size) :
    Calls Try.prog 29 #[.slice (some ⟨b, o, none⟩) 4 c0] w fun e w' => ∃ p g c, e = .returned (.pointer (some ⟨p, 0, none⟩)) ∧ CurAt w' p g c ∧ BytesAt w' g 0 l ∧ 4 ≤ c ∧ g < p ∧ w.heap.size ≤ g ∧ Below w.heap.size w w' := by
  have HB := Lib.hid hb
  have H4 := Lib.hid h4
  clear hb h4
  go_enter Try.func29, Try.ntmps29
  go_wp2_with fail
  have hc := clone_any b o c0 l w HB.out hlt (by rw [H4.out]; omega)
  rw [H4.out] at hc
  refine hc.mono ?_
  rintro e w1 ⟨g, c, rfl, hb1, hc4, hg, hg1, b1⟩
  have HB1 := Lib.hid hb1
  have HX := Lib.hid b1
  clear hb1 b1 hc
  go_wp2_with fail
  go_ret
  refine ⟨w1.heap.size, g, c, rfl, At.new _ _ _, HB1.out.alloc hg1 _, by omega, hg1, hg, HX.out.alloc HX.out.size _⟩
set_option maxRecDepth 100000 in
set_option maxHeartbeats 1000000 in
theorem curtake_any (p g c : Nat) (l : List Nat) (w : World) (hc : CurAt w p g c) (hb : BytesAt w g 0 l) (h4 : l.length = 4) (h4c : 4 ≤ c) (hgp : g < p) :
    Calls Try.prog 37 #[.pointer (some ⟨p, 0, none⟩), .int .i64 4] w fun e w' => ∃ g2 c2, e = .returned (.slice (some ⟨g2, 0, none⟩) 4 c2) ∧ BytesAt w' g2 0 l ∧ g2 < w'.heap.size ∧ w.grownBy w' (some p) := by
  have c0 : w.cell? ⟨p, 0, none⟩ = some (.slice (some ⟨g, 0, none⟩) 4 c) := (At.cell hc 0)
  have c1 : w.cell? ⟨p, 1, none⟩ = some (.bool false) := (At.cell hc 1)
  have f0 : w.frozen? ⟨p, 0, none⟩ = false := At.free hc 0
  have hlt : p < w.heap.size := At.lt hc
  have HC := Lib.hid hc
  have HB := Lib.hid hb
  have H4 := Lib.hid h4
  have j4 : (4 : Int) ≤ (c : Int) := by omega
  clear hc hb h4
  go_enter Try.func37, Try.ntmps37
  go_wp2_with fail
  have hcl := clone_any g 0 c l w HB.out (by omega) (by rw [H4.out]; omega)
  rw [H4.out] at hcl
  refine hcl.mono ?_
  rintro e w1 ⟨g2, c2, rfl, hb1, hc4, hg, hg1, b1⟩
  have c0 := (b1.cell (p := ⟨p, 0, none⟩) hlt).trans c0
  have f0 := (World.frozen?_of_block (a := ⟨p, 0, none⟩) (b1.block p hlt)).trans f0
  have HB1 := Lib.hid hb1
  have HX := Lib.hid b1
  clear hb1 b1 hcl
  go_wp2_with fail
  all_goals go_ret
  all_goals refine ⟨g2, ⟨c2, rfl⟩, ?_, by simpa using hg1, only_set (g := p) (p := ⟨p, 0, none⟩) (only_below HX.out _) (.inl rfl) _⟩
  all_goals exact HB1.out.grown (only_set (g := p) (p := ⟨p, 0, none⟩) (World.grownBy.refl w1 _) (.inl rfl) _) hg1 (by simp; omega)
def numk (l : List Nat) : Nat → Nat
  | 0 => 0
  | k + 1 => numk l k + l.getD k 0 * 256 ^ k
def num4 (l : List Nat) : Nat := numk l 4
theorem numk_lt (l : List Nat) (h : bytes l) : ∀ k, numk l k < 256 ^ k
  | 0 => by simp [numk]
  | k + 1 => by
    have ih := numk_lt l h k
    have hx := bytes_getD h k
    have : l.getD k 0 * 256 ^ k ≤ 255 * 256 ^ k := Nat.mul_le_mul_right _ (by omega)
    rw [numk, Nat.pow_succ]
    omega
theorem or_step (v x k : Nat) (hk : k < 4) (hv : v < 256 ^ k) (hx : x < 256) : bits .or .u64 (v : Int) (IntKind.u64.wrap ((x : Int) * 2 ^ (8 * k))) = ((v + x * 256 ^ k : Nat) : Int) := by
  have h2 : (2 : Nat) ^ (8 * k) = 256 ^ k := by rw [Nat.pow_mul]
  have hlt : x * 256 ^ k < 4294967296 := by
    have h1 : 256 ^ k ≤ 16777216 := Nat.le_trans (Nat.pow_le_pow_right (by omega) (show k ≤ 3 by omega)) (by decide)
    have h3 : x * 256 ^ k ≤ 255 * 16777216 := Nat.mul_le_mul (by omega) h1
    omega
  have hvl : v < 4294967296 := by
    have h1 : 256 ^ k ≤ 16777216 := Nat.le_trans (Nat.pow_le_pow_right (by omega) (show k ≤ 3 by omega)) (by decide)
    omega
  have e : (x : Int) * 2 ^ (8 * k) = ((x * 256 ^ k : Nat) : Int) := by rw [← h2]; push_cast; rfl
  rw [e, IntWalk.u64_in _ (by omega), u64_or_nat _ _ (by omega) (by omega), Nat.or_comm, nat_join (8 * k) (x * 256 ^ k) v (by rw [h2]; exact Nat.mul_mod_left _ _) (by rw [h2]; exact hv), Nat.add_comm]
set_option maxRecDepth 100000 in
set_option maxHeartbeats 1000000 in
theorem curnum_any (p g c : Nat) (l : List Nat) (w : World) (hc : CurAt w p g c) (hb : BytesAt w g 0 l) (h4 : l.length = 4) (h4c : 4 ≤ c) (hgp : g < p) :
    Calls Try.prog 30 #[.pointer (some ⟨p, 0, none⟩), .int .i64 4] w fun e w' => e = .returned (.int .u64 (num4 l : Nat)) ∧ w.grownBy w' (some p) := by
  have HC := Lib.hid hc
  have HB := Lib.hid hb
  have H4 := Lib.hid h4
  clear hc hb h4
  go_enter Try.func30, Try.ntmps30
  go_wp2_with fail
  refine (width4 w).mono ?_
  rintro e w0 ⟨rfl, rfl⟩
  go_wp2_with fail
  refine (curtake_any p g c l w HC.out HB.out H4.out h4c hgp).mono ?_
  rintro e w1 ⟨g2, c2, rfl, hb1, hg2, hg⟩
  have HB1 := Lib.hid hb1
  have HG := Lib.hid hg
  clear hb1 hg
  go_wp2_with fail
  go_loopw [5, 6, 7, 15] (fun v _ _ i wr => ∃ k : Nat, k ≤ 4 ∧ i = .int .i64 k ∧ v = .int .u64 (numk l k : Nat) ∧ wr = w1) (fun _ _ _ i _ => 4 - (intOf i).toNat)
  case atStart => exact ⟨0, by omega, rfl, rfl, rfl⟩
  case round =>
    obtain ⟨k, hk, rfl, rfl, rfl⟩ := hrel
    by_cases hlt : k < 4
    · have cx := HB1.out.cell k (by rw [H4.out]; exact hlt)
      rw [Nat.zero_add] at cx
      have hx := bytes_getD HB1.out.small k
      have HN := Lib.hid (show numk l (k + 1) = numk l k + l.getD k 0 * 256 ^ k from rfl)
      have hl := numk_lt l HB1.out.small k
      have HL := Lib.hid hl
      generalize l.getD k 0 = x at *
      generalize hv : numk l k = v at *
      have jk : (k : Int) < 4 := by omega
      clear hl hv
      go_wp2_with fail
      go_roundw
      case rel =>
        refine ⟨k + 1, by omega, by go_num, ?_, by first | trivial | rfl⟩
        rw [or_step v x k hlt HL.out hx, HN.out]
      case measure => simp [intOf]; omega
    · have hd : decide ((k : Int) < 4) = false := by simp; omega
      have hk4 : k = 4 := by omega
      have H5 := Lib.hid hk4
      clear hk4
      go_wp2_with fail
      go_ret
      exact ⟨by rw [H5.out]; rfl, HG.out⟩
end Go.Proofs.Ytcnijcmddnacaaa.Chunk
