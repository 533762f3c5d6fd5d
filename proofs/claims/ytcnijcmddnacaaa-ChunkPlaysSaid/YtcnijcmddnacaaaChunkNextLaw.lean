/- ChunkNext's walk: true, whatever comes. Conditions: the rows lie as told. -/
import Derived.Test.YtcnijcmddnacaaaChunkAwake
namespace Go.Proofs.Ytcnijcmddnacaaa.Chunk
open Go.RowKit Go.Shelf
set_option linter.unusedVariables false
theorem most_any (x : Int) (w : World) : Calls Try.prog 15 #[.int .i64 x] w fun e w' => e = .returned (.int .i64 (mostN x : Nat)) ∧ w = w' := by
  by_cases h1 : x < 7
  · have e : ((mostN x : Nat) : Int) = 7 := by unfold mostN; omega
    rw [e]
    go_enter Try.func15, Try.ntmps15
    go_wp2_with fail
    go_ret
    exact ⟨rfl, rfl⟩
  · by_cases h2 : 65536 < x
    · have e : ((mostN x : Nat) : Int) = 65536 := by unfold mostN; omega
      rw [e]
      have h1' : decide (x < 7) = false := decide_eq_false (by omega)
      go_enter Try.func15, Try.ntmps15
      go_wp2_with fail
      go_ret
      exact ⟨rfl, rfl⟩
    · have e : ((mostN x : Nat) : Int) = x := by unfold mostN; omega
      rw [e]
      have h1' : decide (x < 7) = false := decide_eq_false (by omega)
      have h2' : decide (65536 < x) = false := decide_eq_false (by omega)
      go_enter Try.func15, Try.ntmps15
      go_wp2_with fail
      go_ret
      exact ⟨rfl, rfl⟩
theorem nextN_lack (r : List Nat) : nextN r false = lack r := by unfold nextN lack; simp
theorem nextN_over (r : List Nat) : nextN r true = 0 := by unfold nextN; simp
/-- Bytes that lie below n keep lying so. -/
theorem BytesV.below {w w' : World} {v : Value} {l : List Nat} (h : BytesV w w.heap.size v l) (hb : Below w.heap.size w w') : BytesV w' w'.heap.size v l := by
  rcases h with h | ⟨b, o, c, h, hlt, hbs⟩
  · exact .inl h
  · exact .inr ⟨b, o, c, h, by have := hb.size; omega, hbs.below hb hlt⟩
set_option maxRecDepth 100000 in
set_option maxHeartbeats 4000000 in
theorem next_law (x : Int) (a1 a2 : Option Addr) (k1 k2 : Nat) (l1 l2 : List Nat) (w : World) (h1 : BytesV w w.heap.size (.slice a1 l1.length k1) l1) (h2 : BytesV w w.heap.size (.slice a2 l2.length k2) l2)
    (hc1 : l1.length ≤ k1) (hm1 : l1.length ≤ maxLen) (hm2 : l2.length ≤ maxLen) :
    Calls Try.prog 6 #[.int .i64 x, .slice a1 l1.length k1, .slice a2 l2.length k2] w fun e w' => e = .returned (.bool true) ∧ Below w.heap.size w w' := by
  unfold maxLen at hm1 hm2
  have H1 := Lib.hid h1
  have H2 := Lib.hid h2
  clear h1 h2
  by_cases hlong : 32768 < l1.length
  · go_enter Try.func6, Try.ntmps6
    go_wp2_with fail
    refine (awake_any w).mono ?_
    rintro e w1 ⟨rfl, hb1⟩
    have HB1 := Lib.hid hb1
    clear hb1
    have hd : decide (32768 < (l1.length : Int)) = true := decide_eq_true (by omega)
    go_wp2_with fail
    go_ret
    exact ⟨rfl, HB1.out⟩
  go_enter Try.func6, Try.ntmps6
  go_wp2_with fail
  refine (awake_any w).mono ?_
  rintro e w1 ⟨rfl, hb1⟩
  have HB1 := Lib.hid hb1
  have hs1 := hb1.size
  clear hb1
  have hd : decide (32768 < (l1.length : Int)) = false := decide_eq_false (by omega)
  go_wp2_with fail
  refine (new_feed x w1).mono ?_
  rintro e w2 ⟨rfl, hF2, hb2⟩
  have hb2' : Below w.heap.size w w2 := HB1.out.trans (hb2.mono (by omega))
  have HF2 := Lib.hid hF2
  have HB2 := Lib.hid hb2'
  clear hF2 hb2 hb2' hd
  have hM7 := mostN_lo x
  have hMh := mostN_hi x
  go_wp2_with fail
  go_loopw [1, 8, 9, 10, 11] (fun b i _ _ _ wr => ∃ (j : Nat) (a : Option Addr) (c : Nat) (l : List Nat) (fa : Option Addr) (r : List Nat) (o : Bool), j ≤ 200 ∧ i = .int .i64 j ∧ b = .slice a l.length c ∧ l.length ≤ c ∧
      BytesV w w.heap.size (.slice a l.length c) l ∧ FeedS wr w1.heap.size (mostN x) fa r o ∧ (o = false → Stuck (mostN x) r) ∧ r.length + l.length ≤ 32768 ∧ Below w.heap.size w wr) (fun _ i _ _ _ _ => 200 - (intOf i).toNat)
  case atStart => exact ⟨0, a1, k1, l1, none, [], false, by omega, rfl, rfl, hc1, H1.out, HF2.out, fun _ => Stuck.nil, by simp; omega, HB2.out⟩
  case round =>
    obtain ⟨j, a, c, l, fa, r, o, hj, rfl, rfl, hlc, hV, hF, hS, hsum, hb⟩ := hrel
    have HV := Lib.hid hV
    have HF := Lib.hid hF
    have HS := Lib.hid hS
    have HB := Lib.hid hb
    have hsz := hb.size
    have hfl := hF.lt
    clear hV hF hS hb
    by_cases hj2 : j < l2.length
    case neg =>
      have d1 : decide (j < l2.length) = false := decide_eq_false (by omega)
      go_wp2_with fail
      go_ret
      exact ⟨rfl, HB.out⟩
    by_cases hj3 : j < 200
    case neg =>
      have d1 : decide (j < l2.length) = true := decide_eq_true (by omega)
      have d2 : decide ((j : Int) < 200) = false := decide_eq_false (by omega)
      go_wp2_with fail
      go_ret
      exact ⟨rfl, HB.out⟩
    by_cases hl0 : 0 < l.length
    case neg =>
      have d1 : decide (j < l2.length) = true := decide_eq_true (by omega)
      have d2 : decide ((j : Int) < 200) = true := decide_eq_true (by omega)
      have d3 : decide (0 < l.length) = false := decide_eq_false (by omega)
      go_wp2_with fail
      go_ret
      exact ⟨rfl, HB.out⟩
    have d1 : decide (j < l2.length) = true := decide_eq_true (by omega)
    have d2 : decide ((j : Int) < 200) = true := decide_eq_true (by omega)
    have d3 : decide (0 < l.length) = true := decide_eq_true (by omega)
    cases o with
    | true =>
      have HNX := Lib.hid (nextN_over r)
      go_wp2_with fail
      refine (next_feed _ _ _ r _ _ HF.out (by omega)).mono ?_
      rintro e w3 ⟨rfl, hb3⟩
      rw [HNX.out]
      have HF3 := Lib.hid (HF.out.below hb3)
      have HB3 := Lib.hid (HB.out.trans (hb3.mono hsz))
      clear hb3
      go_wp2_with fail
      refine (over_feed _ _ _ _ _ _ HF3.out).mono ?_
      rintro e w5 ⟨rfl, rfl⟩
      go_wp2_with fail
      refine (take_shut _ _ _ _ _ _ HF3.out).mono ?_
      rintro e w6 ⟨rfl, rfl⟩
      go_wp2_with fail
      go_ret
      exact ⟨rfl, HB3.out⟩
    | false =>
      have hst := HS.out rfl
      have HNX := Lib.hid (nextN_lack r)
      have hnx1 := hst.lack_pos
      have hnxm := hst.lack_le hM7
      have HST := Lib.hid hst
      clear hst HS
      go_wp2_with fail
      refine (next_feed _ _ _ r _ _ HF.out (by omega)).mono ?_
      rintro e w3 ⟨rfl, hb3⟩
      rw [HNX.out]
      have HF3 := Lib.hid (HF.out.below hb3)
      have hb3' := HB.out.trans (hb3.mono hsz)
      have hs3 := hb3'.size
      have HB3 := Lib.hid hb3'
      clear hb3 hb3'
      generalize hnx : lack r = nx at *
      have HLX := Lib.hid hnx
      clear hnx
      go_wp2_with fail
      refine (over_feed _ _ _ _ _ _ HF3.out).mono ?_
      rintro e w5 ⟨rfl, rfl⟩
      have e1 : decide (nx < 1) = false := decide_eq_false (by omega)
      have e2 : decide (mostN x < nx) = false := decide_eq_false (by omega)
      go_wp2_with fail
      refine (most_any x _).mono ?_
      rintro e w5 ⟨rfl, rfl⟩
      obtain ⟨sb, so, sc, hsv, hsb, hsbs⟩ : ∃ sb so sc, (Value.slice a2 l2.length k2) = .slice (some ⟨sb, so, none⟩) l2.length sc ∧ sb < w.heap.size ∧ BytesAt w sb so l2 := by
        rcases H2.out with ⟨_, h⟩ | h
        · rw [h] at hj2; simp at hj2
        · exact h
      cases hsv
      have cS := (hsbs.below HB3.out hsb).cell j hj2
      have hsx := bytes_getD hsbs.small j
      generalize l2.getD j 0 = s at *
      have e3 : (0 : Int) ≤ (j : Int) := by omega
      have e4 : (j : Int) < (l2.length : Int) := by omega
      clear hsbs
      obtain ⟨ab, ao, rfl, hab, habs⟩ : ∃ ab ao, a = some ⟨ab, ao, none⟩ ∧ ab < w.heap.size ∧ BytesAt w ab ao l := by
        rcases HV.out with ⟨_, h⟩ | ⟨b, o, c', h, hb, hbs⟩
        · rw [h] at hl0; simp at hl0
        · cases h; exact ⟨b, o, rfl, hb, hbs⟩
      have HBY := Lib.hid habs
      clear habs
      go_upto_region 15 with fail
      obtain ⟨k0, hk0, hk01, hk02⟩ : ∃ k0 : Nat, (if (l.length : Int) < 1 + (s : Int) then (l.length : Int) else 1 + (s : Int)) = (k0 : Int) ∧ 1 ≤ k0 ∧ k0 ≤ l.length := by
        by_cases hc : (l.length : Int) < 1 + (s : Int)
        · exact ⟨l.length, by rw [if_pos hc], by omega, by omega⟩
        · exact ⟨1 + s, by rw [if_neg hc]; push_cast; rfl, by omega, by omega⟩
      rw [hk0]
      clear hk0 cS e1 e2 d1 d2 d3
      by_cases hge : nx ≤ k0
      · have d5 : decide (nx ≤ k0) = true := decide_eq_true (by omega)
        have hlen : (l.take nx).length = nx := by rw [List.length_take]; omega
        have HLEN := Lib.hid hlen
        obtain ⟨ms, r', o', hfd, hms⟩ := HST.out.just (l.take nx) (by rw [HLEN.out, HLX.out])
        have HFD := Lib.hid hfd
        have g1 : (nx : Int) ≤ (l.length : Int) := by omega
        have g2 : (nx : Int) ≤ (c : Int) := by omega
        have g3 : (0 : Int) ≤ (nx : Int) := by omega
        clear hlen hfd
        go_wp2_with fail
        refine (take_feed w1.heap.size (mostN x) fa (.slice (some ⟨ab, ao, none⟩) nx c) r (l.take nx) ms r' o' w3 HF3.out (.inr ⟨ab, ao, c, by rw [HLEN.out], by omega, (HBY.out.below HB3.out hab).take nx⟩) hMh (by rw [HLEN.out]; omega) HFD.out).mono ?_
        rintro e w4 ⟨n4, ao4, co4, gs4, fa', rfl, ht4⟩
        have hF4 := ht4.feed
        have hb4 : Below w.heap.size w w4 := below_only HB3.out ht4.grown hs3 hs1
        have HF4 := Lib.hid hF4
        have HB4 := Lib.hid hb4
        have hs4 := hb4.size
        clear hF4 hb4 ht4
        have d6 : decide (1 < ms.length) = false := decide_eq_false (by omega)
        go_upto_region 20 with fail
        have hsz2 := HFD.out.sizes
        rw [List.length_append, HLEN.out] at hsz2
        have HSZ2 := Lib.hid hsz2
        clear hsz2
        by_cases hcn : c = nx
        · have q1 : c - nx = 0 := by omega
          have q2 : c ≤ nx := by omega
          have q3 : l.length - nx = 0 := by omega
          have HDR := Lib.hid (show l.drop nx = [] from List.drop_eq_nil_of_le (by omega))
          clear hcn
          go_wp2_with fail
          go_roundw
          case rel =>
            exact ⟨j + 1, some ⟨ab, ao, none⟩, 0, l.drop nx, fa', r', o', by omega, by go_num, by rw [HDR.out]; rfl, by rw [HDR.out]; simp, by rw [HDR.out]; exact .inl ⟨.inr ⟨_, _, rfl⟩, rfl⟩, HF4.out, HFD.out.stuck, by rw [HDR.out]; have := HSZ2.out; simp at this ⊢; omega, HB4.out⟩
          case measure => simp [intOf]; omega
        · have q1 : ¬ c - nx = 0 := by omega
          have q2 : ¬ c ≤ nx := by omega
          have HDL := Lib.hid (show (l.drop nx).length = l.length - nx from List.length_drop)
          clear hcn
          go_wp2_with fail
          go_roundw
          case rel =>
            exact ⟨j + 1, some ⟨ab, ao + nx, none⟩, c - nx, l.drop nx, fa', r', o', by omega, by go_num, by rw [HDL.out], by rw [HDL.out]; omega, .inr ⟨ab, ao + nx, c - nx, rfl, hab, HBY.out.drop nx⟩, HF4.out, HFD.out.stuck, by rw [HDL.out]; have := HSZ2.out; simp at this ⊢; omega, HB4.out⟩
          case measure => simp [intOf]; omega
      · have d5 : decide (nx ≤ k0) = false := decide_eq_false (by omega)
        have hlen : (l.take k0).length = k0 := by rw [List.length_take]; omega
        have HLEN := Lib.hid hlen
        have hfw := HST.out.fewer (l.take k0) (by rw [HLEN.out, HLX.out]; omega)
        have HFW := Lib.hid hfw
        clear hfw
        have hfd := HFW.out.1.feeds
        have HFD := Lib.hid hfd
        have g1 : (k0 : Int) ≤ (l.length : Int) := by omega
        have g2 : (k0 : Int) ≤ (c : Int) := by omega
        have g3 : (0 : Int) ≤ (k0 : Int) := by omega
        clear hlen hfd
        go_wp2_with fail
        refine (take_feed w1.heap.size (mostN x) fa (.slice (some ⟨ab, ao, none⟩) k0 c) r (l.take k0) [] (r ++ l.take k0) false w3 HF3.out (.inr ⟨ab, ao, c, by rw [HLEN.out], by omega, (HBY.out.below HB3.out hab).take k0⟩) hMh (by rw [HLEN.out]; omega) HFD.out).mono ?_
        rintro e w4 ⟨n4, ao4, co4, gs4, fa', rfl, ht4⟩
        have hF4 := ht4.feed
        have hb4 : Below w.heap.size w w4 := below_only HB3.out ht4.grown hs3 hs1
        have HF4 := Lib.hid hF4
        have HB4 := Lib.hid hb4
        have hs4 := hb4.size
        clear hF4 hb4 ht4
        have HNX2 := Lib.hid (show nextN (r ++ l.take k0) false = nx - k0 by rw [nextN_lack, HFW.out.2, HLX.out, HLEN.out])
        have d6 : decide (k0 < nx) = true := decide_eq_true (by omega)
        go_upto_region 20 with (first
          | (go_at_call 17; refine (over_feed _ _ _ _ _ _ HF4.out).mono ?_; rintro e w5 ⟨rfl, rfl⟩)
          | (go_at_call 21; refine (next_feed _ _ _ (r ++ l.take k0) _ _ HF4.out (by rw [List.length_append, HLEN.out]; omega)).mono ?_; rintro e w5 ⟨rfl, hb5⟩; rw [HNX2.out]))
        have HF5 := Lib.hid (HF4.out.below hb5)
        have HB5 := Lib.hid (HB4.out.trans (hb5.mono hs4))
        clear hb5
        have hsz2 := HFD.out.sizes
        rw [List.length_append, HLEN.out] at hsz2
        have HSZ2 := Lib.hid hsz2
        clear hsz2
        by_cases hcn : c = k0
        · have q1 : c - k0 = 0 := by omega
          have q2 : c ≤ k0 := by omega
          have q3 : l.length - k0 = 0 := by omega
          have HDR := Lib.hid (show l.drop k0 = [] from List.drop_eq_nil_of_le (by omega))
          clear hcn
          go_wp2_with fail
          go_roundw
          case rel =>
            exact ⟨j + 1, some ⟨ab, ao, none⟩, 0, l.drop k0, fa', (r ++ l.take k0), false, by omega, by go_num, by rw [HDR.out]; rfl, by rw [HDR.out]; simp, by rw [HDR.out]; exact .inl ⟨.inr ⟨_, _, rfl⟩, rfl⟩, HF5.out, fun _ => HFW.out.1, by rw [HDR.out]; have := HSZ2.out; simp at this ⊢; omega, HB5.out⟩
          case measure => simp [intOf]; omega
        · have q1 : ¬ c - k0 = 0 := by omega
          have q2 : ¬ c ≤ k0 := by omega
          have HDL := Lib.hid (show (l.drop k0).length = l.length - k0 from List.length_drop)
          clear hcn
          go_wp2_with fail
          go_roundw
          case rel =>
            exact ⟨j + 1, some ⟨ab, ao + k0, none⟩, c - k0, l.drop k0, fa', (r ++ l.take k0), false, by omega, by go_num, by rw [HDL.out], by rw [HDL.out]; omega, .inr ⟨ab, ao + k0, c - k0, rfl, hab, HBY.out.drop k0⟩, HF5.out, fun _ => HFW.out.1, by rw [HDL.out]; have := HSZ2.out; simp at this ⊢; omega, HB5.out⟩
          case measure => simp [intOf]; omega
end Go.Proofs.Ytcnijcmddnacaaa.Chunk
