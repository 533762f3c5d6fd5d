/- ChunkPlays' walk: true, whatever comes. Conditions: the steps lie as told. -/
import Derived.Test.YtcnijcmddnacaaaChunkPlayMem
namespace Go.Proofs.Ytcnijcmddnacaaa.Chunk
open Go.RowKit Go.Shelf
set_option linter.unusedVariables false
set_option maxRecDepth 200000 in
set_option maxHeartbeats 8000000 in
theorem plays_law (x : Int) (a1 : Option Addr) (k1 : Nat) (ss : List StepV) (w : World) (h1 : ss = [] ∨ ∃ b o, a1 = some ⟨b, o, none⟩ ∧ b < w.heap.size ∧ StepsAt w b o ss) (hm1 : ss.length ≤ maxLen) :
    Calls Try.prog 5 #[.int .i64 x, .slice a1 ss.length k1] w fun e w' => e = .returned (.bool true) ∧ Below w.heap.size w w' := by
  unfold maxLen at hm1
  have H1 := Lib.hid h1
  clear h1
  go_enter Try.func5, Try.ntmps5
  go_wp2_with fail
  refine (awake_any w).mono ?_
  rintro e w1 ⟨rfl, hb1⟩
  have HB1 := Lib.hid hb1
  have hs1 := hb1.size
  clear hb1
  go_wp2_with fail
  refine (new_feed x w1).mono ?_
  rintro e w2 ⟨rfl, hF2, hb2⟩
  have hb2' : Below w.heap.size w w2 := HB1.out.trans (hb2.mono (by omega))
  have HF2 := Lib.hid hF2
  have HB2 := Lib.hid hb2'
  clear hF2 hb2 hb2'
  have hM7 := mostN_lo x
  have hMh := mostN_hi x
  go_wp2_with fail
  refine (most_any x _).mono ?_
  rintro e w3 ⟨rfl, rfl⟩
  go_wp2_with fail
  go_loopg [4, 6, 7, 8, 9, 10, 11, 12, 13, 14, 15, 16, 17, 18, 19, 20] 200 (fun gk _ mv lv ov nv iv _ _ _ _ _ _ _ _ _ _ wr => ∃ (j nn m : Nat) (fa la : Option Addr) (lc : Nat) (r : List Nat) (o : Bool), gk + j = 200 ∧ iv = .int .i64 j ∧ nv = .int .i64 nn ∧ nn ≤ 32768 ∧ mv = .int .i64 m ∧ lv = .slice la r.length lc ∧ ov = .bool o ∧ r.length ≤ nn ∧ Head w wr w1.heap.size m fa la lc r o)
  case atStart =>
    refine ⟨0, 0, mostN x, none, none, 0, [], false, rfl, rfl, rfl, by omega, rfl, rfl, rfl, by simp, HF2.out, .inl ⟨.inl rfl, rfl⟩, by simp, fun _ => rfl, Nat.zero_le _, hM7, hMh, (fun h => (by cases h)), (fun p h => (by cases h)), HB2.out⟩
  case round =>
    obtain ⟨j, nn, m, fa, la, lc, r, o, hgk, rfl, rfl, hnn, rfl, rfl, rfl, hrn, hH⟩ := hrel
    obtain ⟨gO, rfl⟩ : ∃ g : Nat, g = gk := ⟨_, rfl⟩
    have HH := Lib.hid hH
    have hsz := hH.below.size
    have HGK := Lib.hid hgk
    have hgk1 : gO + j ≤ 200 := by omega
    have hgk2 : 200 ≤ gO + j := by omega
    clear hH hgk
    by_cases hj : j < ss.length
    case neg =>
      have d1 : decide (j < ss.length) = false := decide_eq_false hj
      go_wp2_with fail
      go_ret
      exact ⟨rfl, HH.out.below⟩
    by_cases hj3 : j < 200
    case neg =>
      have d1 : decide (j < ss.length) = true := decide_eq_true hj
      have d2 : decide ((j : Int) < 200) = false := decide_eq_false (by omega)
      go_wp2_with fail
      go_ret
      exact ⟨rfl, HH.out.below⟩
    have d1 : decide (j < ss.length) = true := decide_eq_true hj
    have d2 : decide ((j : Int) < 200) = true := decide_eq_true (by omega)
    obtain ⟨sb, so, rfl, hsb, hSt⟩ : ∃ b o, a1 = some ⟨b, o, none⟩ ∧ b < w.heap.size ∧ StepsAt w b o ss := by
      rcases H1.out with h | h
      · rw [h] at hj; simp at hj
      · exact h
    obtain ⟨s, hs⟩ : ∃ s, ss[j]? = some s := ⟨ss[j], List.getElem?_eq_getElem hj⟩
    obtain ⟨z0, z1, z2, hsv, hsl⟩ := hSt j s hs
    obtain ⟨v, lb, set, most⟩ := s
    simp only at z0 z1 z2 hsv hsl
    obtain ⟨va, vc, rfl⟩ := hsv.form
    have c0 := (HH.out.below.cell (p := ⟨sb, so + j * 3, none⟩) hsb).trans z0
    have c1 := (HH.out.below.cell (p := ⟨sb, so + j * 3 + 1, none⟩) hsb).trans z1
    have c2 := (HH.out.below.cell (p := ⟨sb, so + j * 3 + 2, none⟩) hsb).trans z2
    have HZ0 := Lib.hid z0
    clear z0 z1 z2
    have HSV := Lib.hid hsv
    have e3 : (0 : Int) ≤ (j : Int) := by omega
    have e4 : (j : Int) < (ss.length : Int) := by omega
    clear hs hSt hsv
    by_cases hbig : 32768 < nn + lb.length
    · have d3 : decide ((32768 : Int) < (nn : Int) + (lb.length : Int)) = true := decide_eq_true (by omega)
      go_wp2_with fail
      go_ret
      exact ⟨rfl, HH.out.below⟩
    have d3 : decide ((32768 : Int) < (nn : Int) + (lb.length : Int)) = false := decide_eq_false (by omega)
    have hfbw : w.heap.size ≤ w1.heap.size := hs1
    clear d1 d2
    go_upto_if 51 with fail
    go_cut [6] from 27 to 172 (fun mv wx => ∃ m' : Nat, mv = .int .i64 (m' : Int) ∧ Head w wx w1.heap.size m' fa la lc r o)
    case first =>
      cases set with
      | false =>
        go_wp2_with fail
        go_meet
        case rel => exact ⟨m, rfl, HH.out⟩
      | true =>
        go_wp2_with fail
        refine (setmost_feed _ _ _ _ _ most _ HH.out.feed).mono ?_
        rintro e w4 ⟨rfl, hF4, hg4⟩
        have hH4 : Head w w4 w1.heap.size (mostN most) fa la lc r o := by
          refine ⟨hF4, ?_, HH.out.room, HH.out.nil, HH.out.most, mostN_lo _, mostN_hi _, HH.out.over, HH.out.apart, below_only HH.out.below hg4 hsz hfbw⟩
          rcases HH.out.left with h | ⟨b, oo, cc, hv, hb, hbs⟩
          · exact .inl h
          · have := HH.out.apart ⟨b, oo, none⟩ (by cases hv; rfl)
            exact .inr ⟨b, oo, cc, hv, by have := hg4.size; omega, hbs.grown hg4 hb (fun e => this (by cases e; rfl))⟩
        have c2 : w4.cell? ⟨sb, so + j * 3 + 2, none⟩ = some (.int .i64 most) := (hg4.cell_far ⟨sb, so + j * 3 + 2, none⟩ (by show sb < _; omega) (fun e => by simp only [Option.some.injEq] at e; omega)).trans c2
        have HH4 := Lib.hid hH4
        clear hH4 hF4 hg4
        go_wp2_with fail
        refine (most_any most _).mono ?_
        rintro e w5 ⟨rfl, rfl⟩
        go_wp2_with fail
        go_meet
        case rel => exact ⟨_, rfl, HH4.out⟩
    case rest =>
      obtain ⟨m', rfl, hH⟩ := hcut
      obtain ⟨wS, rfl⟩ : ∃ wS : World, wS = wc := ⟨_, rfl⟩
      have HH2 := Lib.hid hH
      have hszc := hH.below.size
      have hfl := hH.feed.lt
      have hm7 := hH.lo
      have hm9 := hH.hi
      clear hH c0 c1 c2 HH hsz
      have c0 := (HH2.out.below.cell (p := ⟨sb, so + j * 3, none⟩) hsb).trans HZ0.out
      have c0a := (((Below.refl wS.heap.size wS).alloc (Nat.le_refl _) (.cells #[] 5)).cell (p := ⟨sb, so + j * 3, none⟩) (by show sb < _; omega)).trans c0
      have HSX := Lib.hid (show 0 + lb.length < 1000000000 by omega)
      have HBW := Lib.hid (HH2.out.below.alloc hszc (.cells #[] 5))
      go_wp2_with (at_builtin; refine wpList_append_v rfl _ _ rfl wS.heap.size wS.heap.size 0 0 [] rfl (World.ownsRow_made wS #[] 0 (Nat.le_refl _) (Nat.zero_le _) rfl) _ lb rfl (HSV.out.below HBW.out) HSX.out (by simp) ?_)
      intro g1 cap1 w5 hown1 hgr1
      have hown1 : w5.ownsRow wS.heap.size 5 1 (.slice (some ⟨g1, 0, none⟩) lb.length cap1) lb.length (u8L lb) := by simpa using hown1
      have hg1 := hown1.lt g1 rfl
      have hb5 : Below wS.heap.size wS w5 := ((Below.refl _ wS).alloc (Nat.le_refl _) _).grown hgr1 (by rw [size_alloc]; omega) (fun q e => by cases e; omega)
      have hx5 : BytesAt w5 g1 0 lb := BytesAt.of_own hown1 HSV.out.small
      have hat5 := own_at hown1
      have HH5 := Lib.hid (HH2.out.grow hb5)
      have HX5 := Lib.hid hx5
      have HAT5 := Lib.hid hat5
      have hs5 := hb5.size
      have HI2 := Lib.hid HH2.out.feed.inside
      have HLA := Lib.hid (show ∀ p, la = some p → r ≠ [] → p.block ≠ g1 from fun p hp hr => by
        rcases HH2.out.left with ⟨_, h⟩ | ⟨b, oo, cc, hv, hb, _⟩
        · exact absurd h hr
        · injection hv with h1; rw [h1] at hp; cases hp; simp only; omega)
      try simp only [Nat.zero_add]
      clear hown1 hgr1 hb5 hx5 hat5 c0 c0a
      go_upto_region 18 with fail
      go_cut [12] from 27 to 172 (fun lv wx => ∃ (fa1 : Option Addr) (r1 : List Nat) (o1 : Bool) (ao : Option Addr) (co : Nat) (ms : List (List Nat)) (gs : List (Nat × Nat)) (n₀ : Nat), lv = .slice ao ms.length co ∧ Mid w wx w1.heap.size m' fa1 r1 o1 la lc r lb o ao co ms gs n₀ ∧ g1 < n₀ ∧ (∀ p, fa1 = some p → p.block ≠ g1) ∧ (∃ t cs, At wx g1 t cs ∧ lb.length ≤ cs.size))
      case first =>
        cases o with
        | true =>
          go_wp2_with fail
          refine (take_shut _ _ _ _ _ _ HH5.out.feed).mono ?_
          rintro e w6 ⟨rfl, rfl⟩
          go_wp2_with fail
          go_meet
          case rel =>
            have hr := HH5.out.over rfl
            obtain ⟨t, cs, hA⟩ := HAT5.out
            exact ⟨fa, r, true, none, 0, [], [], w5.heap.size, rfl, ⟨HH5.out.feed, OutAt.start _ _, HH5.out.feed.inside, HH5.out.feed.lt, Nat.le_refl _, HH5.out.below.size, HH5.out.left, HH5.out.below, (fun h => by cases h), fun _ => ⟨rfl, hr, rfl⟩⟩, hg1.2, fun p hp => by have := HI2.out p hp; omega, t, cs, hA, size_of_cells hA HX5.out⟩
        | false =>
          obtain ⟨ms, r1, o1, hfd⟩ := Feeds.some m' (r ++ lb).length (r ++ lb) (Nat.le_refl _)
          have HFD := Lib.hid hfd
          clear hfd
          go_wp2_with fail
          refine (take_feed w1.heap.size m' fa (.slice (some ⟨g1, 0, none⟩) lb.length cap1) r lb ms r1 o1 w5 HH5.out.feed (.inr ⟨g1, 0, cap1, rfl, hg1.2, HX5.out⟩) hm9 (by omega) HFD.out).mono ?_
          rintro e w6 ⟨n6, ao6, co6, gs6, fa6, rfl, ht6⟩
          have HT6 := Lib.hid ht6
          clear ht6
          go_wp2_with fail
          go_meet
          case rel =>
            obtain ⟨t, cs, hA⟩ := HAT5.out
            have hA6 := hA.grown HT6.out.grown (fun e => by simp only [Option.some.injEq] at e; omega)
            have hl6 : BytesV w6 w6.heap.size (.slice la r.length lc) r := by
              rcases HH5.out.left with h | ⟨b, oo, cc, hv, hb, hbs⟩
              · exact .inl h
              · have := HH5.out.apart ⟨b, oo, none⟩ (by cases hv; rfl)
                exact .inr ⟨b, oo, cc, hv, by have := HT6.out.grown.size; omega, hbs.grown HT6.out.grown hb (fun e => this (by cases e; rfl))⟩
            exact ⟨fa6, r1, o1, ao6, co6, ms, gs6, n6, rfl, ⟨HT6.out.feed, HT6.out.out, fun p hp => (HT6.out.fresh p hp).2, by have := HT6.out.lo; have := HH5.out.feed.lt; omega, HT6.out.hi, by have := HT6.out.lo; have := HH5.out.below.size; omega, hl6, below_only HH5.out.below HT6.out.grown HH5.out.below.size hfbw, fun _ => HFD.out, (fun h => by cases h)⟩, by have := HT6.out.lo; omega, fun p hp => by have := (HT6.out.fresh p hp).1; omega, t, cs, hA6, size_of_cells hA HX5.out⟩
      case rest =>
        obtain ⟨fa1, r1, o1, ao, co, ms, gs, n₀, rfl, hM, hgn, hfg, t1, cs1, hA1, hcs1⟩ := hcut
        obtain ⟨wT, rfl⟩ : ∃ wT : World, wT = wc := ⟨_, rfl⟩
        have HM := Lib.hid hM
        have HA1 := Lib.hid hA1
        have HFG := Lib.hid hfg
        clear hM hA1 hfg
        go_wp2_with fail
        go_loopg [13] lb.length (fun gk2 kv wr2 => ∃ (k : Nat) (cs : Array Value), gk2 + k = lb.length ∧ kv = .int .i64 k ∧ At wr2 g1 t1 cs ∧ lb.length ≤ cs.size ∧ wT.grownBy wr2 (some g1))
        case atStart => exact ⟨0, cs1, by omega, rfl, HA1.out, hcs1, World.grownBy.refl _ _⟩
        case round =>
          obtain ⟨k, cs, hk, rfl, hA, hcs, hg⟩ := hrel
          by_cases hlt : k < lb.length
          · have d5 : decide (k < lb.length) = true := decide_eq_true hlt
            have y0 : (0 : Int) ≤ (k : Int) := by omega
            have y1 : (k : Int) < (lb.length : Int) := by omega
            obtain ⟨u, hu⟩ : ∃ u, cs[k]? = some u := ⟨cs[k]'(by omega), Array.getElem?_eq_getElem (by omega)⟩
            have ck := (hA.cell k).trans hu
            have fk := hA.free k
            have HAK := Lib.hid hA
            have HGG := Lib.hid hg
            clear hA hg hu
            go_wp2_with fail
            go_roundg (gk - 1)
            case measure => omega
            case rel => exact ⟨k + 1, cs.setIfInBounds k (.int .u8 255), by omega, by go_num, HAK.out.put k _, by simpa using hcs, only_set HGG.out (.inl rfl) _⟩
          · have d5 : decide (k < lb.length) = false := decide_eq_false hlt
            have HM2 := Lib.hid (HM.out.over hg hgn (by omega) (by omega) HFG.out HLA.out)
            clear hA hg
            obtain ⟨wU, rfl⟩ : ∃ wU : World, wU = wr := ⟨_, rfl⟩
            have hsU := HM2.out.below.size
            have hfU := HM2.out.feed.lt
            go_upto_if 85 with fail
            go_cut [7, 8, 14, 15, 16, 17] from 27 to 172 (fun lv ov wv _ _ _ wx => ∃ (la1 : Option Addr) (lc1 : Nat) (aw : Option Addr) (cw : Nat), lv = .slice la1 r1.length lc1 ∧ ov = .bool o1 ∧ wv = .slice aw ms.length cw ∧ r1.length ≤ r.length + lb.length ∧ Fin w wx w1.heap.size m' fa1 r1 o1 la1 lc1 ao co ms gs n₀ aw cw)
            case first =>
              cases o with
              | true =>
                have htold := HM2.out.told1 rfl
                have hr : r = [] := HH2.out.over rfl
                obtain ⟨rfl, rfl, rfl⟩ := htold
                subst hr
                go_wp2_with fail
                go_meet
                case rel =>
                  have hm2 := HM2.out
                  exact ⟨la, lc, none, 0, rfl, rfl, rfl, by simp, hm2.feed, hm2.out, .inl ⟨rfl, rfl⟩, hm2.fresh, hm2.fbn, hm2.lo, hm2.left, HH2.out.room, HH2.out.nil, HH2.out.most, fun p hp => ⟨HH2.out.apart p hp, fun i hi => by simp at hi⟩, hm2.below, fun _ => rfl, by simp, by simp⟩
              | false =>
                have c0U := (HM2.out.below.cell (p := ⟨sb, so + j * 3, none⟩) hsb).trans HZ0.out
                have HSX0 := Lib.hid (show 0 + r.length < 1000000000 by omega)
                have HSX1 := Lib.hid (show 0 + r.length + lb.length < 1000000000 by omega)
                have c0Ua := (((Below.refl wU.heap.size wU).alloc (Nat.le_refl _) (.cells #[] 5)).cell (p := ⟨sb, so + j * 3, none⟩) (by show sb < _; omega)).trans c0U
                have HLU := Lib.hid (HM2.out.left.below ((Below.refl wU.heap.size wU).alloc (Nat.le_refl _) (.cells #[] 5)))
                have HBU := Lib.hid (HM2.out.below.alloc hsU (.cells #[] 5))
                go_wp2_with fail
                go_region_held3 (fun w' => w'.cell? ⟨sb, so + j * 3, none⟩ = some (.slice va lb.length vc))
                  (first | assumption | exact c0U | exact c0Ua | go_keep)
                  ((first
                    | (refine step_append_v _ (by rfl) _ _ (by rfl) wU.heap.size wU.heap.size 0 0 [] (by rfl) (World.ownsRow_made wU #[] 0 (Nat.le_refl _) (Nat.zero_le _) rfl).drew (.slice la r.length lc) r (by rfl) (HLU.out.drewN 1) HSX0.out (by simp) ?_
                       intro g7 cap7 w7 hown7 hgr7
                       have hb7 : Below w.heap.size w w7 := (belowN HBU.out 1).grown hgr7 (by simp; omega) (fun q e => by cases e; omega)
                       have hbU7 : Below wU.heap.size wU w7 := (belowN ((Below.refl wU.heap.size wU).alloc (Nat.le_refl _) (.cells #[] 5)) 1).grown hgr7 (by simp) (fun q e => by cases e; exact Nat.le_refl _)
                       have cS7 := (hb7.cell (p := ⟨sb, so + j * 3, none⟩) hsb).trans HZ0.out)
                    | (refine step_append_v _ (by rfl) _ _ (by rfl) wU.heap.size g7 cap7 _ _ (by rfl) hown7 (.slice va lb.length vc) lb (by rfl) (HSV.out.below hb7) HSX1.out (by have := hgr7.size; simp at this; omega) ?_
                       intro g8 cap8 w8 hown8 hgr8
                       have hb8 : Below w.heap.size w w8 := hb7.grown hgr8 (by have := hgr7.size; simp at this; omega) (fun q e => by cases e; have := (hown7.lt g7 rfl).1; omega)
                       have hbU8 : Below wU.heap.size wU w8 := hbU7.grown hgr8 hbU7.size (fun q e => by cases e; exact (hown7.lt g7 rfl).1)
                       have cS8 := (hb8.cell (p := ⟨sb, so + j * 3, none⟩) hsb).trans HZ0.out)))
                have hown9 : w8.ownsRow wU.heap.size 5 1 (.slice (some ⟨g8, 0, none⟩) (r ++ lb).length cap8) (r ++ lb).length (u8L (r ++ lb)) := by
                  have := hown8
                  rwa [Nat.zero_add, List.nil_append, ← List.length_append] at this
                have hx8 : BytesAt w8 g8 0 (r ++ lb) := BytesAt.of_own hown9 (bytes_app HM2.out.left.small HSV.out.small)
                have hg8 := hown9.lt g8 rfl
                have hcap : (r ++ lb).length ≤ cap8 ∧ cap8 ≤ maxLen := by
                  rcases hown9.2 with ⟨h, _⟩ | ⟨_, _, _, h, _, _, h1, h2, _⟩
                  · cases h
                  · cases h; exact ⟨h1, h2⟩
                have HX8 := Lib.hid hx8
                have HB8 := Lib.hid hbU8
                have HCAP := Lib.hid hcap
                have hs8 := hbU8.size
                have hfd0 := HM2.out.told0 rfl
                have HFD0 := Lib.hid hfd0
                have hall := all_any m' (some ⟨g8, 0, none⟩) cap8 (r ++ lb) w8 (.inr ⟨g8, 0, cap8, rfl, hg8.2, hx8⟩) hcap.1 (fun h => by cases h) (by rw [List.length_append]; omega) hm9 hcap.2
                rw [List.length_append] at hall
                have hrl := hfd0.rest_le
                rw [List.length_append] at hrl
                have hcl : r.length + lb.length ≤ cap8 := by have := hcap.1; rwa [List.length_append] at this
                clear hown9 hown8 hgr8 hb8 hbU8 cS8 hown7 hgr7 hb7 hbU7 cS7 hx8 hcap hfd0 c0U c0Ua
                go_wp2_with fail
                refine hall.mono ?_
                rintro e w9 ⟨ms', r', o', n9, ao9, co9, gs9, rfl, hfd', hout9, _, hb9⟩
                obtain ⟨rfl, rfl, rfl⟩ := HFD0.out.det hfd'
                have HW9 := Lib.hid hout9.rows
                have HB9 := Lib.hid hb9
                clear hfd' hout9 hb9 hall
                obtain ⟨kk, hkk⟩ : ∃ kk : Nat, kk = r.length + lb.length - r1.length := ⟨_, rfl⟩
                have he : (r.length : Int) + (lb.length : Int) - (r1.length : Int) = (kk : Int) := by omega
                have HKK := Lib.hid hkk
                have HTL := Lib.hid HFD0.out.tail
                have u1 : (kk : Int) ≤ (r.length : Int) + (lb.length : Int) := by omega
                have u2 : (kk : Int) ≤ (cap8 : Int) := by omega
                have u3 : r.length + lb.length - kk = r1.length := by omega
                clear hkk
                by_cases hcn : cap8 = kk
                · have q1 : cap8 - kk = 0 := by omega
                  have q2 : cap8 ≤ kk := by omega
                  have HCN := Lib.hid hcn
                  clear hcn
                  have HR1 := Lib.hid (show r1 = [] from List.eq_nil_of_length_eq_zero (by omega))
                  go_wp2_with fail
                  go_meet
                  case rel =>
                    have hbUC : Below wU.heap.size wU w9 := HB8.out.trans (HB9.out.mono hs8)
                    exact ⟨some ⟨g8, 0, none⟩, 0, ao9, co9, rfl, rfl, rfl, hrl, HM2.out.fin hbUC HW9.out (by omega) hg8.1 (by rw [HR1.out]; exact .inl ⟨.inr ⟨_, _, rfl⟩, rfl⟩) (by rw [HR1.out]; simp) (Nat.zero_le _)⟩
                · have q1 : ¬ cap8 - kk = 0 := by omega
                  have q2 : ¬ cap8 ≤ kk := by omega
                  clear hcn
                  go_wp2_with fail
                  go_meet
                  case rel =>
                    have hbUC : Below wU.heap.size wU w9 := HB8.out.trans (HB9.out.mono hs8)
                    have hd : (r ++ lb).drop kk = r1 := by
                      have := HTL.out
                      rwa [List.length_append, ← HKK.out] at this
                    have hx9 := (HX8.out.below HB9.out hg8.2).drop kk
                    rw [hd, Nat.zero_add] at hx9
                    exact ⟨some ⟨g8, kk, none⟩, cap8 - kk, ao9, co9, rfl, rfl, rfl, hrl, HM2.out.fin hbUC HW9.out (by omega) hg8.1 (.inr ⟨g8, kk, cap8 - kk, rfl, by have := HB9.out.size; omega, hx9⟩) (by omega) (by have := HCAP.out.2; omega)⟩
            case rest =>
              obtain ⟨la1, lc1, aw, cw, rfl, rfl, rfl, hr1, hF⟩ := hcut
              obtain ⟨wV, rfl⟩ : ∃ wV : World, wV = wc := ⟨_, rfl⟩
              have HFN := Lib.hid hF
              have hfew := hF.few
              clear hF
              cases o1 with
              | true =>
                have hrr := HFN.out.over rfl
                have HRR := Lib.hid hrr
                clear hrr
                go_upto_region 35 with fail
                have HNXX := Lib.hid (show nextN r1 true = 0 from nextN_over r1)
                go_wp2_with fail
                refine (lists_same _ _ ms wV HFN.out.out.rows HFN.out.want HFN.out.few HFN.out.each).mono ?_
                rintro e w10 ⟨rfl, n10, rfl⟩
                go_wp2_with fail
                refine (left_feed w1.heap.size m' fa1 r1 true _ (HFN.out.feed.drewN n10)).mono ?_
                rintro e w11 ⟨rfl, rfl⟩
                go_wp2_with fail
                refine (over_feed w1.heap.size m' fa1 r1 true _ (HFN.out.feed.drewN n10)).mono ?_
                rintro e w11 ⟨rfl, rfl⟩
                go_wp2_with fail
                refine (next_feed w1.heap.size m' fa1 r1 true _ (HFN.out.feed.drewN n10) (by omega)).mono ?_
                rintro e w11 ⟨rfl, hb11⟩
                rw [HNXX.out]
                have HF11 := Lib.hid ((HFN.out.drewN n10).grow hb11)
                clear hb11
                go_wp2_with fail
                go_loopg [19, 20] ms.length (fun gk kv _ wr => ∃ k : Nat, gk + k = ms.length ∧ kv = .int .i64 k ∧ Blot w11 wr ms gs)
                case atStart => exact ⟨0, rfl, rfl, Blot.start HF11.out.out⟩
                case round =>
                  obtain ⟨k2, hk2, rfl, hB⟩ := hrel
                  obtain ⟨gP, rfl⟩ : ∃ g : Nat, g = gk := ⟨_, rfl⟩
                  obtain ⟨wP, rfl⟩ : ∃ wP : World, wP = wr := ⟨_, rfl⟩
                  have HBL := Lib.hid hB
                  clear hB
                  by_cases hlt2 : k2 < ms.length
                  · have d6 : decide (k2 < ms.length) = true := decide_eq_true hlt2
                    obtain ⟨g0, rfl, _, hg0⟩ := HF11.out.out.block (by omega)
                    obtain ⟨gi, hgi⟩ : ∃ gi, gi = (gs.getD k2 (0, 0)).1 := ⟨_, rfl⟩
                    obtain ⟨ci, hci⟩ : ∃ ci, ci = (gs.getD k2 (0, 0)).2 := ⟨_, rfl⟩
                    obtain ⟨ml, hml⟩ : ∃ ml, ml = (ms.getD k2 []).length := ⟨_, rfl⟩
                    have hmlb : ml < 1000000000 := by rw [hml]; exact HFN.out.each _ (by rw [List.getD_eq_getElem?_getD, List.getElem?_eq_getElem hlt2]; exact List.getElem_mem hlt2)
                    have HGI := Lib.hid hgi
                    have HROW := Lib.hid (fun (wr : World) (h : Blot w11 wr ms gs) => (show wr.cell? ⟨g0, k2, none⟩ = some (.slice (some ⟨gi, 0, none⟩) ml ci) from by rw [hgi, hci, hml]; exact h.row HF11.out.out hg0 hlt2))
                    have HMSG := Lib.hid (fun (wr : World) (h : Blot w11 wr ms gs) => (show ∃ t cs, At wr gi t cs ∧ ml ≤ cs.size from by rw [hgi, hml]; exact h.rows k2 hlt2))
                    have HPUT := Lib.hid (fun (wr : World) (h : Blot w11 wr ms gs) (i : Nat) (v : Value) => (show Blot w11 (wr.setCell ⟨gi, i, none⟩ v) ms gs from by rw [hgi]; exact h.put hlt2 i v))
                    clear hgi hci hml
                    have z0 : (0 : Int) ≤ (k2 : Int) := by omega
                    have z1 : (k2 : Int) < (ms.length : Int) := by omega
                    go_wp2_with fail
                    go_loopg [20] ml (fun gk hv wr => ∃ h : Nat, gk + h = ml ∧ hv = .int .i64 h ∧ Blot w11 wr ms gs)
                    case atStart => exact ⟨0, rfl, rfl, HBL.out⟩
                    case round =>
                      obtain ⟨h2, hh2, rfl, hB2⟩ := hrel
                      have crow := HROW.out _ hB2
                      by_cases hlt3 : h2 < ml
                      · have d7 : decide (h2 < ml) = true := decide_eq_true hlt3
                        obtain ⟨t, cs2, hA2, hcs2⟩ := HMSG.out _ hB2
                        obtain ⟨u2, hu2⟩ : ∃ u, cs2[h2]? = some u := ⟨cs2[h2]'(by omega), Array.getElem?_eq_getElem (by omega)⟩
                        have cmsg := (hA2.cell h2).trans hu2
                        have fmsg := hA2.free h2
                        have y0 : (0 : Int) ≤ (h2 : Int) := by omega
                        have y1 : (h2 : Int) < (ml : Int) := by omega
                        have HB3 := Lib.hid hB2
                        clear hB2 hA2 hu2
                        go_wp2_with fail
                        go_roundg (gk - 1)
                        case measure => omega
                        case rel => exact ⟨h2 + 1, by omega, by go_num, HPUT.out _ HB3.out h2 _⟩
                      · have d7 : decide (h2 < ml) = false := decide_eq_false hlt3
                        have HB3 := Lib.hid hB2
                        clear hB2
                        go_wp2_with fail
                        go_roundg (gP - 1)
                        case measure => omega
                        case rel => exact ⟨k2 + 1, by omega, by go_num, HB3.out⟩
                  · have d6 : decide (k2 < ms.length) = false := decide_eq_false hlt2
                    go_wp2_with fail
                    go_roundg (gO - 1)
                    case measure => omega
                    case rel => exact ⟨j + 1, nn + lb.length, m', fa1, la1, lc1, r1, true, by omega, by go_num, by push_cast; rfl, by omega, rfl, rfl, rfl, by omega, HF11.out.head hm7 hm9 HBL.out⟩
              | false =>
                by_cases h4 : r1.length < 4
                · have d4 : ¬ (4 : Int) ≤ (r1.length : Int) := by omega
                  have HQ := Lib.hid (show (4 : Int) - (r1.length : Int) = ((4 - r1.length : Nat) : Int) by omega)
                  go_upto_region 35 with fail
                  have HNXX := Lib.hid (show nextN r1 false = 4 - r1.length from by unfold nextN; rw [if_neg (by simp), if_pos h4])
                  rw [HQ.out]
                  go_wp2_with fail
                  refine (lists_same _ _ ms wV HFN.out.out.rows HFN.out.want HFN.out.few HFN.out.each).mono ?_
                  rintro e w10 ⟨rfl, n10, rfl⟩
                  go_wp2_with fail
                  refine (left_feed w1.heap.size m' fa1 r1 false _ (HFN.out.feed.drewN n10)).mono ?_
                  rintro e w11 ⟨rfl, rfl⟩
                  go_wp2_with fail
                  refine (over_feed w1.heap.size m' fa1 r1 false _ (HFN.out.feed.drewN n10)).mono ?_
                  rintro e w11 ⟨rfl, rfl⟩
                  go_wp2_with fail
                  refine (next_feed w1.heap.size m' fa1 r1 false _ (HFN.out.feed.drewN n10) (by omega)).mono ?_
                  rintro e w11 ⟨rfl, hb11⟩
                  rw [HNXX.out]
                  have HF11 := Lib.hid ((HFN.out.drewN n10).grow hb11)
                  clear hb11
                  go_wp2_with fail
                  go_loopg [19, 20] ms.length (fun gk kv _ wr => ∃ k : Nat, gk + k = ms.length ∧ kv = .int .i64 k ∧ Blot w11 wr ms gs)
                  case atStart => exact ⟨0, rfl, rfl, Blot.start HF11.out.out⟩
                  case round =>
                    obtain ⟨k2, hk2, rfl, hB⟩ := hrel
                    obtain ⟨gP, rfl⟩ : ∃ g : Nat, g = gk := ⟨_, rfl⟩
                    obtain ⟨wP, rfl⟩ : ∃ wP : World, wP = wr := ⟨_, rfl⟩
                    have HBL := Lib.hid hB
                    clear hB
                    by_cases hlt2 : k2 < ms.length
                    · have d6 : decide (k2 < ms.length) = true := decide_eq_true hlt2
                      obtain ⟨g0, rfl, _, hg0⟩ := HF11.out.out.block (by omega)
                      obtain ⟨gi, hgi⟩ : ∃ gi, gi = (gs.getD k2 (0, 0)).1 := ⟨_, rfl⟩
                      obtain ⟨ci, hci⟩ : ∃ ci, ci = (gs.getD k2 (0, 0)).2 := ⟨_, rfl⟩
                      obtain ⟨ml, hml⟩ : ∃ ml, ml = (ms.getD k2 []).length := ⟨_, rfl⟩
                      have hmlb : ml < 1000000000 := by rw [hml]; exact HFN.out.each _ (by rw [List.getD_eq_getElem?_getD, List.getElem?_eq_getElem hlt2]; exact List.getElem_mem hlt2)
                      have HGI := Lib.hid hgi
                      have HROW := Lib.hid (fun (wr : World) (h : Blot w11 wr ms gs) => (show wr.cell? ⟨g0, k2, none⟩ = some (.slice (some ⟨gi, 0, none⟩) ml ci) from by rw [hgi, hci, hml]; exact h.row HF11.out.out hg0 hlt2))
                      have HMSG := Lib.hid (fun (wr : World) (h : Blot w11 wr ms gs) => (show ∃ t cs, At wr gi t cs ∧ ml ≤ cs.size from by rw [hgi, hml]; exact h.rows k2 hlt2))
                      have HPUT := Lib.hid (fun (wr : World) (h : Blot w11 wr ms gs) (i : Nat) (v : Value) => (show Blot w11 (wr.setCell ⟨gi, i, none⟩ v) ms gs from by rw [hgi]; exact h.put hlt2 i v))
                      clear hgi hci hml
                      have z0 : (0 : Int) ≤ (k2 : Int) := by omega
                      have z1 : (k2 : Int) < (ms.length : Int) := by omega
                      go_wp2_with fail
                      go_loopg [20] ml (fun gk hv wr => ∃ h : Nat, gk + h = ml ∧ hv = .int .i64 h ∧ Blot w11 wr ms gs)
                      case atStart => exact ⟨0, rfl, rfl, HBL.out⟩
                      case round =>
                        obtain ⟨h2, hh2, rfl, hB2⟩ := hrel
                        have crow := HROW.out _ hB2
                        by_cases hlt3 : h2 < ml
                        · have d7 : decide (h2 < ml) = true := decide_eq_true hlt3
                          obtain ⟨t, cs2, hA2, hcs2⟩ := HMSG.out _ hB2
                          obtain ⟨u2, hu2⟩ : ∃ u, cs2[h2]? = some u := ⟨cs2[h2]'(by omega), Array.getElem?_eq_getElem (by omega)⟩
                          have cmsg := (hA2.cell h2).trans hu2
                          have fmsg := hA2.free h2
                          have y0 : (0 : Int) ≤ (h2 : Int) := by omega
                          have y1 : (h2 : Int) < (ml : Int) := by omega
                          have HB3 := Lib.hid hB2
                          clear hB2 hA2 hu2
                          go_wp2_with fail
                          go_roundg (gk - 1)
                          case measure => omega
                          case rel => exact ⟨h2 + 1, by omega, by go_num, HPUT.out _ HB3.out h2 _⟩
                        · have d7 : decide (h2 < ml) = false := decide_eq_false hlt3
                          have HB3 := Lib.hid hB2
                          clear hB2
                          go_wp2_with fail
                          go_roundg (gP - 1)
                          case measure => omega
                          case rel => exact ⟨k2 + 1, by omega, by go_num, HB3.out⟩
                    · have d6 : decide (k2 < ms.length) = false := decide_eq_false hlt2
                      go_wp2_with fail
                      go_roundg (gO - 1)
                      case measure => omega
                      case rel => exact ⟨j + 1, nn + lb.length, m', fa1, la1, lc1, r1, false, by omega, by go_num, by push_cast; rfl, by omega, rfl, rfl, rfl, by omega, HF11.out.head hm7 hm9 HBL.out⟩
                · have d4 : (4 : Int) ≤ (r1.length : Int) := by omega
                  have hnum := num4_lt r1 HFN.out.left.small
                  go_upto_region 35 with (go_at_call 20; refine (refnum_any la1 lc1 r1 wV HFN.out.left (by omega)).mono ?_; rintro e w10 ⟨rfl, rfl⟩)
                  have HNXX := Lib.hid (show nextN r1 false = max 1 (num4 r1 - r1.length) from by unfold nextN; rw [if_neg (by simp), if_neg h4])
                  rw [next_max (num4 r1) r1.length]
                  go_wp2_with fail
                  refine (lists_same _ _ ms wV HFN.out.out.rows HFN.out.want HFN.out.few HFN.out.each).mono ?_
                  rintro e w10 ⟨rfl, n10, rfl⟩
                  go_wp2_with fail
                  refine (left_feed w1.heap.size m' fa1 r1 false _ (HFN.out.feed.drewN n10)).mono ?_
                  rintro e w11 ⟨rfl, rfl⟩
                  go_wp2_with fail
                  refine (over_feed w1.heap.size m' fa1 r1 false _ (HFN.out.feed.drewN n10)).mono ?_
                  rintro e w11 ⟨rfl, rfl⟩
                  go_wp2_with fail
                  refine (next_feed w1.heap.size m' fa1 r1 false _ (HFN.out.feed.drewN n10) (by omega)).mono ?_
                  rintro e w11 ⟨rfl, hb11⟩
                  rw [HNXX.out]
                  have HF11 := Lib.hid ((HFN.out.drewN n10).grow hb11)
                  clear hb11
                  go_wp2_with fail
                  go_loopg [19, 20] ms.length (fun gk kv _ wr => ∃ k : Nat, gk + k = ms.length ∧ kv = .int .i64 k ∧ Blot w11 wr ms gs)
                  case atStart => exact ⟨0, rfl, rfl, Blot.start HF11.out.out⟩
                  case round =>
                    obtain ⟨k2, hk2, rfl, hB⟩ := hrel
                    obtain ⟨gP, rfl⟩ : ∃ g : Nat, g = gk := ⟨_, rfl⟩
                    obtain ⟨wP, rfl⟩ : ∃ wP : World, wP = wr := ⟨_, rfl⟩
                    have HBL := Lib.hid hB
                    clear hB
                    by_cases hlt2 : k2 < ms.length
                    · have d6 : decide (k2 < ms.length) = true := decide_eq_true hlt2
                      obtain ⟨g0, rfl, _, hg0⟩ := HF11.out.out.block (by omega)
                      obtain ⟨gi, hgi⟩ : ∃ gi, gi = (gs.getD k2 (0, 0)).1 := ⟨_, rfl⟩
                      obtain ⟨ci, hci⟩ : ∃ ci, ci = (gs.getD k2 (0, 0)).2 := ⟨_, rfl⟩
                      obtain ⟨ml, hml⟩ : ∃ ml, ml = (ms.getD k2 []).length := ⟨_, rfl⟩
                      have hmlb : ml < 1000000000 := by rw [hml]; exact HFN.out.each _ (by rw [List.getD_eq_getElem?_getD, List.getElem?_eq_getElem hlt2]; exact List.getElem_mem hlt2)
                      have HGI := Lib.hid hgi
                      have HROW := Lib.hid (fun (wr : World) (h : Blot w11 wr ms gs) => (show wr.cell? ⟨g0, k2, none⟩ = some (.slice (some ⟨gi, 0, none⟩) ml ci) from by rw [hgi, hci, hml]; exact h.row HF11.out.out hg0 hlt2))
                      have HMSG := Lib.hid (fun (wr : World) (h : Blot w11 wr ms gs) => (show ∃ t cs, At wr gi t cs ∧ ml ≤ cs.size from by rw [hgi, hml]; exact h.rows k2 hlt2))
                      have HPUT := Lib.hid (fun (wr : World) (h : Blot w11 wr ms gs) (i : Nat) (v : Value) => (show Blot w11 (wr.setCell ⟨gi, i, none⟩ v) ms gs from by rw [hgi]; exact h.put hlt2 i v))
                      clear hgi hci hml
                      have z0 : (0 : Int) ≤ (k2 : Int) := by omega
                      have z1 : (k2 : Int) < (ms.length : Int) := by omega
                      go_wp2_with fail
                      go_loopg [20] ml (fun gk hv wr => ∃ h : Nat, gk + h = ml ∧ hv = .int .i64 h ∧ Blot w11 wr ms gs)
                      case atStart => exact ⟨0, rfl, rfl, HBL.out⟩
                      case round =>
                        obtain ⟨h2, hh2, rfl, hB2⟩ := hrel
                        have crow := HROW.out _ hB2
                        by_cases hlt3 : h2 < ml
                        · have d7 : decide (h2 < ml) = true := decide_eq_true hlt3
                          obtain ⟨t, cs2, hA2, hcs2⟩ := HMSG.out _ hB2
                          obtain ⟨u2, hu2⟩ : ∃ u, cs2[h2]? = some u := ⟨cs2[h2]'(by omega), Array.getElem?_eq_getElem (by omega)⟩
                          have cmsg := (hA2.cell h2).trans hu2
                          have fmsg := hA2.free h2
                          have y0 : (0 : Int) ≤ (h2 : Int) := by omega
                          have y1 : (h2 : Int) < (ml : Int) := by omega
                          have HB3 := Lib.hid hB2
                          clear hB2 hA2 hu2
                          go_wp2_with fail
                          go_roundg (gk - 1)
                          case measure => omega
                          case rel => exact ⟨h2 + 1, by omega, by go_num, HPUT.out _ HB3.out h2 _⟩
                        · have d7 : decide (h2 < ml) = false := decide_eq_false hlt3
                          have HB3 := Lib.hid hB2
                          clear hB2
                          go_wp2_with fail
                          go_roundg (gP - 1)
                          case measure => omega
                          case rel => exact ⟨k2 + 1, by omega, by go_num, HB3.out⟩
                    · have d6 : decide (k2 < ms.length) = false := decide_eq_false hlt2
                      go_wp2_with fail
                      go_roundg (gO - 1)
                      case measure => omega
                      case rel => exact ⟨j + 1, nn + lb.length, m', fa1, la1, lc1, r1, false, by omega, by go_num, by push_cast; rfl, by omega, rfl, rfl, rfl, by omega, HF11.out.head hm7 hm9 HBL.out⟩
end Go.Proofs.Ytcnijcmddnacaaa.Chunk
