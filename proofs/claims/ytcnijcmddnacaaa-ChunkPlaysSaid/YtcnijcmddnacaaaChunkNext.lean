/- The feed's Next, and Take of a feed that is over. Conditions: the feed lies as told. -/
import Derived.Test.YtcnijcmddnacaaaChunkTake
import Derived.Deep.RegionHeld3
namespace Go.Proofs.Ytcnijcmddnacaaa.Chunk
open Go.RowKit Go.Shelf
set_option linter.unusedVariables false
theorem take_over (fb m : Nat) (v v2 : Value) (w : World) (hF : FeedAt w fb m v true) :
    Calls Try.prog 13 #[.pointer (some ⟨fb, 0, none⟩), v2] w fun e w' => e = .returned (.slice none 0 0) ∧ w = w' := by
  have c2 : w.cell? ⟨fb, 2, none⟩ = some (.bool true) := At.cell hF 2
  clear hF
  go_enter Try.func13, Try.ntmps13
  go_wp2_with fail
  go_ret
  exact ⟨rfl, rfl⟩
theorem next_max (x n : Nat) : (if (1 : Int) < (x : Int) - (n : Int) then (x : Int) - (n : Int) else 1) = ((max 1 (x - n) : Nat) : Int) := by
  split <;> omega
def nextN (l : List Nat) (o : Bool) : Nat := if o then 0 else if l.length < 4 then 4 - l.length else max 1 (num4 l - l.length)
set_option maxRecDepth 100000 in
set_option maxHeartbeats 1000000 in
theorem next_any (fb m : Nat) (v : Value) (l : List Nat) (o : Bool) (w : World) (hF : FeedAt w fb m v o) (hL : LeftAt w.heap.size w v l) (hl : l.length < 900000000) :
    Calls Try.prog 21 #[.pointer (some ⟨fb, 0, none⟩)] w fun e w' => e = .returned (.int .i64 (nextN l o : Nat)) ∧ Below w.heap.size w w' := by
  have hfb := hF.lt
  have HF := Lib.hid hF
  obtain ⟨a1, k1, rfl⟩ : ∃ a c, v = .slice a l.length c := by
    rcases hL with ⟨rfl, rfl⟩ | ⟨b, o, c, rfl, _⟩
    · exact ⟨none, 0, rfl⟩
    · exact ⟨_, c, rfl⟩
  have c1 : w.cell? ⟨fb, 1, none⟩ = some (.slice a1 l.length k1) := At.cell hF 1
  clear hF
  cases o with
  | true =>
    go_enter Try.func21, Try.ntmps21
    go_wp2_with fail
    refine (over_any fb m _ true w HF.out).mono ?_
    rintro e w' ⟨rfl, rfl⟩
    go_wp2_with fail
    go_ret
    exact ⟨rfl, Below.refl _ _⟩
  | false =>
    by_cases h4 : l.length < 4
    · have hd : decide ((l.length : Int) < 4) = true := by simp; omega
      have hn : nextN l false = 4 - l.length := by unfold nextN; rw [if_neg (by simp), if_pos h4]
      have HN := Lib.hid hn
      have hi : (4 : Int) - (l.length : Int) = ((4 - l.length : Nat) : Int) := by omega
      have HI := Lib.hid hi
      clear hn hi
      go_enter Try.func21, Try.ntmps21
      go_wp2_with fail
      refine (over_any fb m _ false w HF.out).mono ?_
      rintro e w' ⟨rfl, rfl⟩
      go_wp2_with fail
      go_ret
      exact ⟨by rw [HN.out, ← HI.out]; rfl, Below.refl _ _⟩
    · rcases hL with ⟨h, rfl⟩ | ⟨b, o, c, h, hlc, hbn, hbs⟩
      · exact absurd (by simp) h4
      cases h
      have hd : decide ((l.length : Int) < 4) = false := by simp; omega
      have h4l : (l.take 4).length = 4 := by rw [List.length_take]; omega
      have hd2 : (4 : Int) ≤ (l.length : Int) := by omega
      have hc4 : (4 : Int) ≤ (k1 : Int) := by omega
      have HBS := Lib.hid (hbs.take 4)
      have H4L := Lib.hid h4l
      have hnum := num4_lt l hbs.small
      have HN4 := Lib.hid (num4_take l)
      clear hbs h4l
      go_enter Try.func21, Try.ntmps21
      go_wp2_with fail
      refine (over_any fb m _ false w HF.out).mono ?_
      rintro e w' ⟨rfl, rfl⟩
      go_wp2_with fail
      go_region_held3 (fun w' => w'.cell? ⟨fb, 1, none⟩ = some (.slice (some ⟨b, o, none⟩) l.length k1))
        (first | assumption | go_keep)
        ((first
          | (go_at_call 29; refine (wirenew_any b o k1 (l.take 4) _ HBS.out.drew H4L.out hbn).mono ?_; rintro e w1 ⟨p, g, cc, rfl, hcur, hb1, hc41, hgp, hgw, bl1⟩; have cS1 := (bl1.cell (p := ⟨fb, 1, none⟩) hfb).trans c1)
          | (go_at_call 30; refine (curnum_any _ _ _ (l.take 4) _ (by assumption) (by assumption) H4L.out (by assumption) (by assumption)).mono ?_; rintro e w2 ⟨rfl, hg2⟩; have bl2 : Below w.heap.size w w2 := below_only (a := w) (b := w1) ⟨bl1.os, bl1.tape, bl1.output, bl1.size, bl1.block⟩ hg2 bl1.size (by have : w.heap.size ≤ g := hgw; omega); have cS2 := (bl2.cell (p := ⟨fb, 1, none⟩) hfb).trans c1)))
      have e0 : IntKind.i64.wrap (IntKind.i64.wrap ((num4 (l.take 4) : Nat) : Int) - (l.length : Int)) = (num4 l : Int) - (l.length : Int) := by
        rw [HN4.out, IntWalk.i64_in ((num4 l : Nat) : Int) (by omega), IntWalk.i64_in _ (by omega)]
      have e1 : (if (1 : Int) < (num4 l : Int) - (l.length : Int) then (num4 l : Int) - (l.length : Int) else 1) = ((nextN l false : Nat) : Int) := by
        have hn : nextN l false = max 1 (num4 l - l.length) := by unfold nextN; rw [if_neg (by simp), if_neg h4]
        rw [hn]
        exact next_max _ _
      rw [e0, e1]
      have BL2 := Lib.hid bl2
      clear e0 e1 bl1 bl2 cS1 cS2 hg2 hcur hb1 hd
      go_wp2_with fail
      go_ret
      exact ⟨rfl, BL2.out⟩
end Go.Proofs.Ytcnijcmddnacaaa.Chunk
