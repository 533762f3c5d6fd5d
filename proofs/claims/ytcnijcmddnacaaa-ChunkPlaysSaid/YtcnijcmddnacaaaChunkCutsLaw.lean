/- ChunkCuts' walk: true, whatever comes. Conditions: the rows lie as told. -/
import Derived.Test.YtcnijcmddnacaaaChunkJoin
import Derived.Test.YtcnijcmddnacaaaChunkNextLaw
namespace Go.Proofs.Ytcnijcmddnacaaa.Chunk
open Go.RowKit Go.Shelf
set_option linter.unusedVariables false
theorem FeedS.drewN {w : World} {fb m : Nat} {a : Option Addr} {r : List Nat} {o : Bool} (h : FeedS w fb m a r o) (n : Nat) : FeedS (w.drewN n) fb m a r o :=
  h.grown (only_drewN (World.grownBy.refl w none) n) (by simp) (fun b _ => by simp)
theorem Feeds.small {m : Nat} {l r : List Nat} {ms : List (List Nat)} {o : Bool} (h : Feeds m l ms r o) (hm : 7 ≤ m) : r.length < m := by
  cases o with
  | false => exact (h.stuck rfl).small hm
  | true => rw [h.over rfl]; simp; omega
set_option maxRecDepth 100000 in
set_option maxHeartbeats 4000000 in
theorem cuts_law (x : Int) (a1 a2 : Option Addr) (k1 k2 : Nat) (l1 l2 : List Nat) (w : World) (h1 : BytesV w w.heap.size (.slice a1 l1.length k1) l1) (h2 : BytesV w w.heap.size (.slice a2 l2.length k2) l2)
    (hn1 : a1 = none → k1 = 0) (hc1 : l1.length ≤ k1) (hm1 : k1 ≤ maxLen) (hm2 : l2.length ≤ maxLen) :
    Calls Try.prog 4 #[.int .i64 x, .slice a1 l1.length k1, .slice a2 l2.length k2] w fun e w' => e = .returned (.bool true) ∧ Below w.heap.size w w' := by
  unfold maxLen at hm1 hm2
  have H1 := Lib.hid h1
  have H2 := Lib.hid h2
  have HN1 := Lib.hid hn1
  clear h1 h2 hn1
  by_cases hlong : 32768 < l1.length
  · go_enter Try.func4, Try.ntmps4
    go_wp2_with fail
    refine (awake_any w).mono ?_
    rintro e w1 ⟨rfl, hb1⟩
    have HB1 := Lib.hid hb1
    clear hb1
    have hd : decide (32768 < (l1.length : Int)) = true := decide_eq_true (by omega)
    go_wp2_with fail
    go_ret
    exact ⟨rfl, HB1.out⟩
  go_enter Try.func4, Try.ntmps4
  go_wp2_with fail
  refine (awake_any w).mono ?_
  rintro e w1 ⟨rfl, hb1⟩
  have HB1 := Lib.hid hb1
  have hs1 := hb1.size
  clear hb1
  have hd : decide (32768 < (l1.length : Int)) = false := decide_eq_false (by omega)
  go_wp2_with fail
  refine (new_feed x w1).mono ?_
  rintro e w2 ⟨rfl, hF2, hb2⟩
  have hb2' : Below w.heap.size w w2 := HB1.out.trans (hb2.mono (by omega))
  have HF2 := Lib.hid hF2
  have HB2 := Lib.hid hb2'
  have hs2 := hF2.lt
  clear hF2 hb2 hb2' hd
  have hM7 := mostN_lo x
  have hMh := mostN_hi x
  go_wp2_with fail
  refine (new_feed x w2).mono ?_
  rintro e w3 ⟨rfl, hG3, hb3⟩
  have hb3' : Below w.heap.size w w3 := HB2.out.trans (hb3.mono (by omega))
  have HF3 := Lib.hid (HF2.out.below hb3)
  have HG3 := Lib.hid hG3
  have HB3 := Lib.hid hb3'
  have hs3 := hG3.lt
  clear hG3 hb3 hb3'
  obtain ⟨ms, R, O, hfd⟩ := Feeds.some (mostN x) l1.length ([] ++ l1) (by simp)
  have HFD := Lib.hid hfd
  clear hfd
  go_wp2_with fail
  refine (take_feed w1.heap.size (mostN x) none _ [] l1 ms R O w3 HF3.out (H1.out.below HB3.out) hMh (by simp; omega) HFD.out).mono ?_
  rintro e w4 ⟨n4, ao4, co4, gs4, fa4, rfl, ht4⟩
  have hF4 := ht4.feed
  have hO4 := ht4.out
  have hb4 : Below w.heap.size w w4 := below_only HB3.out ht4.grown (by omega) hs1
  have hG4 := HG3.out.grown ht4.grown (by simp; omega) (fun b hb => by cases hb)
  have hfr4 := ht4.fresh
  have hlo4 := ht4.lo
  have hhi4 := ht4.hi
  have HF4 := Lib.hid hF4
  have HO4 := Lib.hid hO4
  have HB4 := Lib.hid hb4
  have HG4 := Lib.hid hG4
  have HFR4 := Lib.hid hfr4
  have hs4 := hb4.size
  clear hF4 hO4 hb4 hG4 hfr4 ht4
  go_wp2_with fail
  go_loopw [10, 11, 12, 13] (fun v b i _ wr => ∃ (j : Nat) (a : Option Addr) (c : Nat) (l p : List Nat) (av : Option Addr) (cv : Nat) (fa : Option Addr) (r : List Nat) (o : Bool) (mA : List (List Nat)) (gA : List (Nat × Nat)), j ≤ 300 ∧ i = .int .i64 j ∧ b = .slice a l.length c ∧ l.length ≤ c ∧ c ≤ k1 ∧ (a = none → c = 0) ∧
      BytesV w w.heap.size (.slice a l.length c) l ∧ p ++ l = l1 ∧ v = .slice av mA.length cv ∧ OutAt wr w4.heap.size (.slice av mA.length cv) mA gA ∧ Feeds (mostN x) p mA r o ∧ FeedS wr w2.heap.size (mostN x) fa r o ∧
      (∀ b, fa = some b → (Value.slice av mA.length cv).ownBlock ≠ some b.block) ∧ w4.grownBy wr (some w2.heap.size) ∧ Below w.heap.size w wr) (fun _ _ i _ _ => 300 - (intOf i).toNat)
  case atStart =>
    exact ⟨0, a1, k1, l1, [], none, 0, none, [], false, [], [], by omega, rfl, rfl, hc1, Nat.le_refl _, HN1.out, H1.out, rfl, rfl, OutAt.start _ _, .short [] (by simp), HG4.out, fun b h => (by cases h), World.grownBy.refl w4 _, HB4.out⟩
  case round =>
    obtain ⟨j, a, c, l, p, av, cv, fa, r, o, mA, gA, hj, rfl, rfl, hlc, hck, han, hV, hpl, rfl, hOA, hFd, hG, hsep, hkp, hb⟩ := hrel
    have hsz := hb.size
    have hszk : w4.heap.size ≤ wr.heap.size := hkp.size
    have hll : p.length + l.length = l1.length := by rw [← hpl, List.length_append]
    have hgl := hG.lt
    have HV := Lib.hid hV
    have HAN := Lib.hid han
    have HPL := Lib.hid hpl
    have HLL := Lib.hid hll
    have hll1 : p.length + l.length ≤ l1.length := by omega
    have HOA := Lib.hid hOA
    have HFd := Lib.hid hFd
    have HG := Lib.hid hG
    have HSEP := Lib.hid hsep
    have HKP := Lib.hid hkp
    have HB := Lib.hid hb
    clear hV han hpl hll hOA hFd hG hsep hkp hb
    by_cases hgo : j < l2.length ∧ j < 300
    case neg =>
      by_cases hj2 : j < l2.length
      · have d1 : decide (j < l2.length) = true := decide_eq_true hj2
        have d2 : decide ((j : Int) < 300) = false := decide_eq_false (by omega)
        clear hgo
        cases o with
        | false =>
          obtain ⟨ms', r', o', hf'⟩ := Feeds.some (mostN x) (r ++ l).length (r ++ l) (Nat.le_refl _)
          have HF' := Lib.hid hf'
          have hsr := hf'.small hM7
          have hsz' := hf'.sizes
          have hszA := HFd.out.sizes
          rw [List.length_append] at hsz'
          have HSZ' := Lib.hid (show mA.length + ms'.length < 1000000000 by  omega)
          have HR := Lib.hid (show r.length + l.length < 900000000 by  omega)
          clear hf' hsz' hszA
          go_wp2_with fail
          refine (take_feed w2.heap.size (mostN x) fa (.slice a l.length c) r l ms' r' o' wr HG.out (HV.out.below HB.out) hMh HR.out HF'.out).mono ?_
          rintro e w5 ⟨n5, ao5, co5, gs5, fa5, rfl, ht5⟩
          have hlo5 := ht5.lo
          have hhi5 := ht5.hi
          have HOA5 := Lib.hid (HOA.out.turned ht5.grown (fun q e => .inl (by cases e; omega)))
          have HK5 := Lib.hid (only_trans HKP.out ht5.grown)
          have HB5 := Lib.hid (below_only HB.out ht5.grown hsz (by omega))
          have HT5 := Lib.hid ht5
          clear ht5
          go_wp2_with (at_builtin; refine wpList_append_rows rfl _ _ rfl w4.heap.size n5 _ _ mA ms' gA gs5 rfl rfl HOA5.out HT5.out.out HSZ'.out (by omega) (by omega) (fun q e => by have := (HOA.out.own.lt q e).2; omega) ?_)
          intro a6 c6 w6 hO6 hg6 hor
          have hs6 := hg6.size
          have HG6 := Lib.hid (HT5.out.feed.grown hg6 (fun e => by have := (HOA.out.own.lt _ e.symm).1; omega) (fun q hq e => by have := (HOA.out.own.lt _ e.symm).2; have := (HT5.out.fresh q hq).1; omega))
          have HK6 := Lib.hid (grown_turned HK5.out hg6 (fun q e => .inr (HOA.out.own.lt q e).1))
          have HB6 := Lib.hid (HB5.out.grown hg6 (by omega) (fun q e => by have := (HOA.out.own.lt q e).1; omega))
          have HSEP6 := Lib.hid (show ∀ b, fa5 = some b → (Value.slice a6 (mA.length + ms'.length) c6).ownBlock ≠ some b.block from fun b hb e => by
            have h1 := HT5.out.fresh b hb
            rcases hor with ⟨g, rfl, hge⟩ | hor
            · simp only [Value.ownBlock, Option.some.injEq] at e; omega
            · rw [hor] at e
              have := (HOA.out.own.lt _ e).2
              omega)
          have HO6 := Lib.hid hO6
          have HFN := Lib.hid (HFd.out.more rfl HF'.out)
          clear hO6 hg6 hor
          have hdet := HFN.out
          rw [HPL.out] at hdet
          obtain ⟨em, er, eo⟩ := HFD.out.det hdet
          have hv6 := HO6.out.rows
          have hg6 := HG6.out
          rw [← em] at hv6
          rw [← er, ← eo] at hg6
          have eml : mA.length + ms'.length = ms.length := by rw [em, List.length_append]
          rw [eml] at hv6 ⊢
          clear eml
          have HV6 := Lib.hid hv6
          have HGG := Lib.hid hg6
          clear hdet em er eo hv6 hg6
          have hw6 : RowsV w6 (.slice ao4 ms.length co4) ms := (HO4.out.turned HK6.out (fun q e => .inl (by cases e; omega))).rows
          have HW6 := Lib.hid hw6
          have HFF := Lib.hid (HF4.out.grown HK6.out (fun e => by simp only [Option.some.injEq] at e; omega) (fun q hq e => by have := (HFR4.out q hq).1; simp only [Option.some.injEq] at e; omega))
          have hzz := HFD.out.sizes
          have hze := HFD.out.each
          have hRm := HFD.out.small hM7
          have HZ := Lib.hid (show ms.length < 1000000000 by simp at hzz; omega)
          have HZE := Lib.hid (show ∀ y ∈ ms, y.length < 1000000000 from fun y hy => by have := hze y hy; simp at this; omega)
          have d9 : decide (R.length < mostN x) = true := decide_eq_true hRm
          clear hw6 hzz hze
          go_wp2_with fail
          refine (lists_same _ _ ms w6 HV6.out HW6.out HZ.out HZE.out).mono ?_
          rintro e w7 ⟨rfl, n7, rfl⟩
          go_wp2_with fail
          refine (left_feed w1.heap.size (mostN x) fa4 R O _ (HFF.out.drewN n7)).mono ?_
          rintro e w8 ⟨rfl, rfl⟩
          go_wp2_with fail
          refine (left_feed w2.heap.size (mostN x) fa5 R O _ (HGG.out.drewN n7)).mono ?_
          rintro e w8 ⟨rfl, rfl⟩
          go_wp2_with fail
          refine (over_feed w1.heap.size (mostN x) fa4 R O _ (HFF.out.drewN n7)).mono ?_
          rintro e w8 ⟨rfl, rfl⟩
          go_wp2_with fail
          refine (over_feed w2.heap.size (mostN x) fa5 R O _ (HGG.out.drewN n7)).mono ?_
          rintro e w8 ⟨rfl, rfl⟩
          go_wp2_with fail
          refine (left_feed w1.heap.size (mostN x) fa4 R O _ (HFF.out.drewN n7)).mono ?_
          rintro e w8 ⟨rfl, rfl⟩
          go_wp2_with fail
          refine (most_any x _).mono ?_
          rintro e w8 ⟨rfl, rfl⟩
          go_wp2_with fail
          go_ret
          exact ⟨rfl, belowN HB6.out n7⟩
        | true =>
          have hr0 : r = [] := HFd.out.over rfl
          have HR0 := Lib.hid hr0
          have hszA := HFd.out.sizes
          have HSZ' := Lib.hid (show mA.length + ([] : List (List Nat)).length < 1000000000 by simp; omega)
          have hsr : r.length < mostN x := by rw [HR0.out]; simp; omega
          clear hr0 hszA
          go_wp2_with fail
          refine (take_shut w2.heap.size (mostN x) fa (.slice a l.length c) r wr HG.out).mono ?_
          rintro e w5 ⟨rfl, rfl⟩
          go_wp2_with (at_builtin; refine wpList_append_rows rfl _ _ rfl w4.heap.size wr.heap.size _ _ mA [] gA [] rfl rfl HOA.out (OutAt.start _ _) HSZ'.out (by omega) (by omega) (fun q e => (HOA.out.own.lt q e).2) ?_)
          intro a6 c6 w6 hO6 hg6 hor
          try simp only [List.append_nil] at hO6
          have hs6 := hg6.size
          have HG6 := Lib.hid (HG.out.grown hg6 (fun e => by have := (HOA.out.own.lt _ e.symm).1; omega) (fun q hq e => HSEP.out q hq e.symm))
          have HK6 := Lib.hid (grown_turned HKP.out hg6 (fun q e => .inr (HOA.out.own.lt q e).1))
          have HB6 := Lib.hid (HB.out.grown hg6 (by omega) (fun q e => by have := (HOA.out.own.lt q e).1; omega))
          have HSEP6 := Lib.hid (show ∀ b, fa = some b → (Value.slice a6 mA.length c6).ownBlock ≠ some b.block from fun b hb e => by
            rcases hor with ⟨g, rfl, hge⟩ | hor
            · simp only [Value.ownBlock, Option.some.injEq] at e
              obtain ⟨cc, _, hL, _⟩ := HG.out
              rcases hL with ⟨h, _⟩ | ⟨b', oo, c', h, _, hbl, _⟩
              · injection h with h1; rw [h1] at hb; cases hb
              · injection h with h1; rw [h1] at hb; cases hb; simp only at e; omega
            · rw [hor] at e
              exact HSEP.out b hb e)
          have HO6 := Lib.hid hO6
          have HFN := Lib.hid (show Feeds (mostN x) (p ++ l) mA r true from by rw [HR0.out]; exact HFd.out.moreOver rfl l)
          clear hO6 hg6 hor
          have hdet := HFN.out
          rw [HPL.out] at hdet
          obtain ⟨em, er, eo⟩ := HFD.out.det hdet
          have hv6 := HO6.out.rows
          have hg6 := HG6.out
          rw [← em] at hv6
          rw [← er, ← eo] at hg6
          rw [← em]
          have HV6 := Lib.hid hv6
          have HGG := Lib.hid hg6
          clear hdet em er eo hv6 hg6
          have hw6 : RowsV w6 (.slice ao4 ms.length co4) ms := (HO4.out.turned HK6.out (fun q e => .inl (by cases e; omega))).rows
          have HW6 := Lib.hid hw6
          have HFF := Lib.hid (HF4.out.grown HK6.out (fun e => by simp only [Option.some.injEq] at e; omega) (fun q hq e => by have := (HFR4.out q hq).1; simp only [Option.some.injEq] at e; omega))
          have hzz := HFD.out.sizes
          have hze := HFD.out.each
          have hRm := HFD.out.small hM7
          have HZ := Lib.hid (show ms.length < 1000000000 by simp at hzz; omega)
          have HZE := Lib.hid (show ∀ y ∈ ms, y.length < 1000000000 from fun y hy => by have := hze y hy; simp at this; omega)
          have d9 : decide (R.length < mostN x) = true := decide_eq_true hRm
          clear hw6 hzz hze
          go_wp2_with fail
          refine (lists_same _ _ ms w6 HV6.out HW6.out HZ.out HZE.out).mono ?_
          rintro e w7 ⟨rfl, n7, rfl⟩
          go_wp2_with fail
          refine (left_feed w1.heap.size (mostN x) fa4 R O _ (HFF.out.drewN n7)).mono ?_
          rintro e w8 ⟨rfl, rfl⟩
          go_wp2_with fail
          refine (left_feed w2.heap.size (mostN x) fa R O _ (HGG.out.drewN n7)).mono ?_
          rintro e w8 ⟨rfl, rfl⟩
          go_wp2_with fail
          refine (over_feed w1.heap.size (mostN x) fa4 R O _ (HFF.out.drewN n7)).mono ?_
          rintro e w8 ⟨rfl, rfl⟩
          go_wp2_with fail
          refine (over_feed w2.heap.size (mostN x) fa R O _ (HGG.out.drewN n7)).mono ?_
          rintro e w8 ⟨rfl, rfl⟩
          go_wp2_with fail
          refine (left_feed w1.heap.size (mostN x) fa4 R O _ (HFF.out.drewN n7)).mono ?_
          rintro e w8 ⟨rfl, rfl⟩
          go_wp2_with fail
          refine (most_any x _).mono ?_
          rintro e w8 ⟨rfl, rfl⟩
          go_wp2_with fail
          go_ret
          exact ⟨rfl, belowN HB6.out n7⟩
      · have d1 : decide (j < l2.length) = false := decide_eq_false hj2
        clear hgo
        cases o with
        | false =>
          obtain ⟨ms', r', o', hf'⟩ := Feeds.some (mostN x) (r ++ l).length (r ++ l) (Nat.le_refl _)
          have HF' := Lib.hid hf'
          have hsr := hf'.small hM7
          have hsz' := hf'.sizes
          have hszA := HFd.out.sizes
          rw [List.length_append] at hsz'
          have HSZ' := Lib.hid (show mA.length + ms'.length < 1000000000 by  omega)
          have HR := Lib.hid (show r.length + l.length < 900000000 by  omega)
          clear hf' hsz' hszA
          go_wp2_with fail
          refine (take_feed w2.heap.size (mostN x) fa (.slice a l.length c) r l ms' r' o' wr HG.out (HV.out.below HB.out) hMh HR.out HF'.out).mono ?_
          rintro e w5 ⟨n5, ao5, co5, gs5, fa5, rfl, ht5⟩
          have hlo5 := ht5.lo
          have hhi5 := ht5.hi
          have HOA5 := Lib.hid (HOA.out.turned ht5.grown (fun q e => .inl (by cases e; omega)))
          have HK5 := Lib.hid (only_trans HKP.out ht5.grown)
          have HB5 := Lib.hid (below_only HB.out ht5.grown hsz (by omega))
          have HT5 := Lib.hid ht5
          clear ht5
          go_wp2_with (at_builtin; refine wpList_append_rows rfl _ _ rfl w4.heap.size n5 _ _ mA ms' gA gs5 rfl rfl HOA5.out HT5.out.out HSZ'.out (by omega) (by omega) (fun q e => by have := (HOA.out.own.lt q e).2; omega) ?_)
          intro a6 c6 w6 hO6 hg6 hor
          have hs6 := hg6.size
          have HG6 := Lib.hid (HT5.out.feed.grown hg6 (fun e => by have := (HOA.out.own.lt _ e.symm).1; omega) (fun q hq e => by have := (HOA.out.own.lt _ e.symm).2; have := (HT5.out.fresh q hq).1; omega))
          have HK6 := Lib.hid (grown_turned HK5.out hg6 (fun q e => .inr (HOA.out.own.lt q e).1))
          have HB6 := Lib.hid (HB5.out.grown hg6 (by omega) (fun q e => by have := (HOA.out.own.lt q e).1; omega))
          have HSEP6 := Lib.hid (show ∀ b, fa5 = some b → (Value.slice a6 (mA.length + ms'.length) c6).ownBlock ≠ some b.block from fun b hb e => by
            have h1 := HT5.out.fresh b hb
            rcases hor with ⟨g, rfl, hge⟩ | hor
            · simp only [Value.ownBlock, Option.some.injEq] at e; omega
            · rw [hor] at e
              have := (HOA.out.own.lt _ e).2
              omega)
          have HO6 := Lib.hid hO6
          have HFN := Lib.hid (HFd.out.more rfl HF'.out)
          clear hO6 hg6 hor
          have hdet := HFN.out
          rw [HPL.out] at hdet
          obtain ⟨em, er, eo⟩ := HFD.out.det hdet
          have hv6 := HO6.out.rows
          have hg6 := HG6.out
          rw [← em] at hv6
          rw [← er, ← eo] at hg6
          have eml : mA.length + ms'.length = ms.length := by rw [em, List.length_append]
          rw [eml] at hv6 ⊢
          clear eml
          have HV6 := Lib.hid hv6
          have HGG := Lib.hid hg6
          clear hdet em er eo hv6 hg6
          have hw6 : RowsV w6 (.slice ao4 ms.length co4) ms := (HO4.out.turned HK6.out (fun q e => .inl (by cases e; omega))).rows
          have HW6 := Lib.hid hw6
          have HFF := Lib.hid (HF4.out.grown HK6.out (fun e => by simp only [Option.some.injEq] at e; omega) (fun q hq e => by have := (HFR4.out q hq).1; simp only [Option.some.injEq] at e; omega))
          have hzz := HFD.out.sizes
          have hze := HFD.out.each
          have hRm := HFD.out.small hM7
          have HZ := Lib.hid (show ms.length < 1000000000 by simp at hzz; omega)
          have HZE := Lib.hid (show ∀ y ∈ ms, y.length < 1000000000 from fun y hy => by have := hze y hy; simp at this; omega)
          have d9 : decide (R.length < mostN x) = true := decide_eq_true hRm
          clear hw6 hzz hze
          go_wp2_with fail
          refine (lists_same _ _ ms w6 HV6.out HW6.out HZ.out HZE.out).mono ?_
          rintro e w7 ⟨rfl, n7, rfl⟩
          go_wp2_with fail
          refine (left_feed w1.heap.size (mostN x) fa4 R O _ (HFF.out.drewN n7)).mono ?_
          rintro e w8 ⟨rfl, rfl⟩
          go_wp2_with fail
          refine (left_feed w2.heap.size (mostN x) fa5 R O _ (HGG.out.drewN n7)).mono ?_
          rintro e w8 ⟨rfl, rfl⟩
          go_wp2_with fail
          refine (over_feed w1.heap.size (mostN x) fa4 R O _ (HFF.out.drewN n7)).mono ?_
          rintro e w8 ⟨rfl, rfl⟩
          go_wp2_with fail
          refine (over_feed w2.heap.size (mostN x) fa5 R O _ (HGG.out.drewN n7)).mono ?_
          rintro e w8 ⟨rfl, rfl⟩
          go_wp2_with fail
          refine (left_feed w1.heap.size (mostN x) fa4 R O _ (HFF.out.drewN n7)).mono ?_
          rintro e w8 ⟨rfl, rfl⟩
          go_wp2_with fail
          refine (most_any x _).mono ?_
          rintro e w8 ⟨rfl, rfl⟩
          go_wp2_with fail
          go_ret
          exact ⟨rfl, belowN HB6.out n7⟩
        | true =>
          have hr0 : r = [] := HFd.out.over rfl
          have HR0 := Lib.hid hr0
          have hszA := HFd.out.sizes
          have HSZ' := Lib.hid (show mA.length + ([] : List (List Nat)).length < 1000000000 by simp; omega)
          have hsr : r.length < mostN x := by rw [HR0.out]; simp; omega
          clear hr0 hszA
          go_wp2_with fail
          refine (take_shut w2.heap.size (mostN x) fa (.slice a l.length c) r wr HG.out).mono ?_
          rintro e w5 ⟨rfl, rfl⟩
          go_wp2_with (at_builtin; refine wpList_append_rows rfl _ _ rfl w4.heap.size wr.heap.size _ _ mA [] gA [] rfl rfl HOA.out (OutAt.start _ _) HSZ'.out (by omega) (by omega) (fun q e => (HOA.out.own.lt q e).2) ?_)
          intro a6 c6 w6 hO6 hg6 hor
          try simp only [List.append_nil] at hO6
          have hs6 := hg6.size
          have HG6 := Lib.hid (HG.out.grown hg6 (fun e => by have := (HOA.out.own.lt _ e.symm).1; omega) (fun q hq e => HSEP.out q hq e.symm))
          have HK6 := Lib.hid (grown_turned HKP.out hg6 (fun q e => .inr (HOA.out.own.lt q e).1))
          have HB6 := Lib.hid (HB.out.grown hg6 (by omega) (fun q e => by have := (HOA.out.own.lt q e).1; omega))
          have HSEP6 := Lib.hid (show ∀ b, fa = some b → (Value.slice a6 mA.length c6).ownBlock ≠ some b.block from fun b hb e => by
            rcases hor with ⟨g, rfl, hge⟩ | hor
            · simp only [Value.ownBlock, Option.some.injEq] at e
              obtain ⟨cc, _, hL, _⟩ := HG.out
              rcases hL with ⟨h, _⟩ | ⟨b', oo, c', h, _, hbl, _⟩
              · injection h with h1; rw [h1] at hb; cases hb
              · injection h with h1; rw [h1] at hb; cases hb; simp only at e; omega
            · rw [hor] at e
              exact HSEP.out b hb e)
          have HO6 := Lib.hid hO6
          have HFN := Lib.hid (show Feeds (mostN x) (p ++ l) mA r true from by rw [HR0.out]; exact HFd.out.moreOver rfl l)
          clear hO6 hg6 hor
          have hdet := HFN.out
          rw [HPL.out] at hdet
          obtain ⟨em, er, eo⟩ := HFD.out.det hdet
          have hv6 := HO6.out.rows
          have hg6 := HG6.out
          rw [← em] at hv6
          rw [← er, ← eo] at hg6
          rw [← em]
          have HV6 := Lib.hid hv6
          have HGG := Lib.hid hg6
          clear hdet em er eo hv6 hg6
          have hw6 : RowsV w6 (.slice ao4 ms.length co4) ms := (HO4.out.turned HK6.out (fun q e => .inl (by cases e; omega))).rows
          have HW6 := Lib.hid hw6
          have HFF := Lib.hid (HF4.out.grown HK6.out (fun e => by simp only [Option.some.injEq] at e; omega) (fun q hq e => by have := (HFR4.out q hq).1; simp only [Option.some.injEq] at e; omega))
          have hzz := HFD.out.sizes
          have hze := HFD.out.each
          have hRm := HFD.out.small hM7
          have HZ := Lib.hid (show ms.length < 1000000000 by simp at hzz; omega)
          have HZE := Lib.hid (show ∀ y ∈ ms, y.length < 1000000000 from fun y hy => by have := hze y hy; simp at this; omega)
          have d9 : decide (R.length < mostN x) = true := decide_eq_true hRm
          clear hw6 hzz hze
          go_wp2_with fail
          refine (lists_same _ _ ms w6 HV6.out HW6.out HZ.out HZE.out).mono ?_
          rintro e w7 ⟨rfl, n7, rfl⟩
          go_wp2_with fail
          refine (left_feed w1.heap.size (mostN x) fa4 R O _ (HFF.out.drewN n7)).mono ?_
          rintro e w8 ⟨rfl, rfl⟩
          go_wp2_with fail
          refine (left_feed w2.heap.size (mostN x) fa R O _ (HGG.out.drewN n7)).mono ?_
          rintro e w8 ⟨rfl, rfl⟩
          go_wp2_with fail
          refine (over_feed w1.heap.size (mostN x) fa4 R O _ (HFF.out.drewN n7)).mono ?_
          rintro e w8 ⟨rfl, rfl⟩
          go_wp2_with fail
          refine (over_feed w2.heap.size (mostN x) fa R O _ (HGG.out.drewN n7)).mono ?_
          rintro e w8 ⟨rfl, rfl⟩
          go_wp2_with fail
          refine (left_feed w1.heap.size (mostN x) fa4 R O _ (HFF.out.drewN n7)).mono ?_
          rintro e w8 ⟨rfl, rfl⟩
          go_wp2_with fail
          refine (most_any x _).mono ?_
          rintro e w8 ⟨rfl, rfl⟩
          go_wp2_with fail
          go_ret
          exact ⟨rfl, belowN HB6.out n7⟩
    case pos =>
      obtain ⟨hj2, hj3⟩ := hgo
      have d1 : decide (j < l2.length) = true := decide_eq_true hj2
      have d2 : decide ((j : Int) < 300) = true := decide_eq_true (by omega)
      obtain ⟨sb, so, sc, hsv, hsb, hsbs⟩ : ∃ sb so sc, (Value.slice a2 l2.length k2) = .slice (some ⟨sb, so, none⟩) l2.length sc ∧ sb < w.heap.size ∧ BytesAt w sb so l2 := by
        rcases H2.out with ⟨_, h⟩ | h
        · rw [h] at hj2; simp at hj2
        · exact h
      cases hsv
      have cS := (hsbs.below HB.out hsb).cell j hj2
      have hsx := bytes_getD hsbs.small j
      generalize l2.getD j 0 = s at *
      have e3 : (0 : Int) ≤ (j : Int) := by omega
      have e4 : (j : Int) < (l2.length : Int) := by omega
      clear hsbs
      go_upto_region 14 with fail
      obtain ⟨k0, hk0, hk0l⟩ : ∃ k0 : Nat, (if l.length < s then (l.length : Int) else (s : Int)) = (k0 : Int) ∧ k0 ≤ l.length := by
        by_cases hc : l.length < s
        · exact ⟨l.length, by rw [if_pos hc], by omega⟩
        · exact ⟨s, by rw [if_neg hc], by omega⟩
      rw [hk0]
      clear hk0 cS d1 d2
      have HLEN := Lib.hid (show (l.take k0).length = k0 by rw [List.length_take]; omega)
      cases o with
      | false =>
        obtain ⟨ms', r', o', hf'⟩ := Feeds.some (mostN x) (r ++ (l.take k0)).length (r ++ (l.take k0)) (Nat.le_refl _)
        have HF' := Lib.hid hf'
        have hsr := hf'.small hM7
        have hsz' := hf'.sizes
        have hszA := HFd.out.sizes
        rw [List.length_append] at hsz'
        have HSZ' := Lib.hid (show mA.length + ms'.length < 1000000000 by have := HLEN.out; omega)
        have HR := Lib.hid (show r.length + (l.take k0).length < 900000000 by have := HLEN.out; omega)
        clear hf' hsz' hszA
        go_wp2_with fail
        refine (take_feed w2.heap.size (mostN x) fa (.slice a k0 c) r (l.take k0) ms' r' o' wr HG.out ((HV.out.first hk0l).below HB.out) hMh HR.out HF'.out).mono ?_
        rintro e w5 ⟨n5, ao5, co5, gs5, fa5, rfl, ht5⟩
        have hlo5 := ht5.lo
        have hhi5 := ht5.hi
        have HOA5 := Lib.hid (HOA.out.turned ht5.grown (fun q e => .inl (by cases e; omega)))
        have HK5 := Lib.hid (only_trans HKP.out ht5.grown)
        have HB5 := Lib.hid (below_only HB.out ht5.grown hsz (by omega))
        have HT5 := Lib.hid ht5
        clear ht5
        go_wp2_with (at_builtin; refine wpList_append_rows rfl _ _ rfl w4.heap.size n5 _ _ mA ms' gA gs5 rfl rfl HOA5.out HT5.out.out HSZ'.out (by omega) (by omega) (fun q e => by have := (HOA.out.own.lt q e).2; omega) ?_)
        intro a6 c6 w6 hO6 hg6 hor
        have hs6 := hg6.size
        have HG6 := Lib.hid (HT5.out.feed.grown hg6 (fun e => by have := (HOA.out.own.lt _ e.symm).1; omega) (fun q hq e => by have := (HOA.out.own.lt _ e.symm).2; have := (HT5.out.fresh q hq).1; omega))
        have HK6 := Lib.hid (grown_turned HK5.out hg6 (fun q e => .inr (HOA.out.own.lt q e).1))
        have HB6 := Lib.hid (HB5.out.grown hg6 (by omega) (fun q e => by have := (HOA.out.own.lt q e).1; omega))
        have HSEP6 := Lib.hid (show ∀ b, fa5 = some b → (Value.slice a6 (mA.length + ms'.length) c6).ownBlock ≠ some b.block from fun b hb e => by
          have h1 := HT5.out.fresh b hb
          rcases hor with ⟨g, rfl, hge⟩ | hor
          · simp only [Value.ownBlock, Option.some.injEq] at e; omega
          · rw [hor] at e
            have := (HOA.out.own.lt _ e).2
            omega)
        have HO6 := Lib.hid hO6
        have HFN := Lib.hid (HFd.out.more rfl HF'.out)
        clear hO6 hg6 hor
        have d8 : decide (mostN x ≤ r'.length) = false := decide_eq_false (by omega)
        have g1 : (k0 : Int) ≤ (l.length : Int) := by omega
        have g2 : (k0 : Int) ≤ (c : Int) := by omega
        have g3 : (0 : Int) ≤ (k0 : Int) := by omega
        have HDL := Lib.hid (show (l.drop k0).length = l.length - k0 from List.length_drop)
        have HOL := Lib.hid (show OutAt w6 w4.heap.size (.slice a6 (mA ++ ms').length c6) (mA ++ ms') (gA ++ gs5) from by rw [List.length_append]; exact HO6.out)
        have HSL := Lib.hid (show ∀ b, fa5 = some b → (Value.slice a6 (mA ++ ms').length c6).ownBlock ≠ some b.block from by rw [List.length_append]; exact HSEP6.out)
        have hcut := HV.out.cut hk0l hlc HAN.out
        by_cases hcn : c = k0
        · have HBV := Lib.hid (show BytesV w w.heap.size (.slice a (l.drop k0).length 0) (l.drop k0) from by
            rw [if_pos hcn, show c - k0 = 0 by omega] at hcut
            exact hcut)
          have q1 : c - k0 = 0 := by omega
          have q2 : c ≤ k0 := by omega
          clear hcut hcn
          go_wp2_with fail
          refine (left_feed w2.heap.size (mostN x) fa5 r' o' _ HG6.out).mono ?_
          rintro e w8 ⟨rfl, rfl⟩
          go_wp2_with fail
          refine (most_any x _).mono ?_
          rintro e w8 ⟨rfl, rfl⟩
          go_wp2_with fail
          go_roundw
          case rel => exact ⟨j + 1, a, 0, l.drop k0, p ++ l.take k0, a6, c6, fa5, r', o', (mA ++ ms'), (gA ++ gs5), by omega, by go_num, by rw [HDL.out], by rw [HDL.out]; omega, by omega, fun _ => rfl, HBV.out, by rw [List.append_assoc, List.take_append_drop]; exact HPL.out, by rw [List.length_append], HOL.out, HFN.out, HG6.out, HSL.out, HK6.out, HB6.out⟩
          case measure => simp [intOf]; omega
        · have HBV := Lib.hid (show BytesV w w.heap.size (.slice (Option.map (fun x => x.add k0) a) (l.drop k0).length (c - k0)) (l.drop k0) from by
            rw [if_neg hcn, Nat.mul_one] at hcut
            exact hcut)
          have HAN2 := Lib.hid (show Option.map (fun x => x.add k0) a = none → c - k0 = 0 from fun h => by
            have := HAN.out (by simpa using h)
            omega)
          have q1 : ¬ c - k0 = 0 := by omega
          have q2 : ¬ c ≤ k0 := by omega
          clear hcut hcn
          go_wp2_with fail
          refine (left_feed w2.heap.size (mostN x) fa5 r' o' _ HG6.out).mono ?_
          rintro e w8 ⟨rfl, rfl⟩
          go_wp2_with fail
          refine (most_any x _).mono ?_
          rintro e w8 ⟨rfl, rfl⟩
          go_wp2_with fail
          go_roundw
          case rel => exact ⟨j + 1, Option.map (fun x => x.add k0) a, c - k0, l.drop k0, p ++ l.take k0, a6, c6, fa5, r', o', (mA ++ ms'), (gA ++ gs5), by omega, by go_num, by rw [HDL.out], by rw [HDL.out]; omega, by omega, HAN2.out, HBV.out, by rw [List.append_assoc, List.take_append_drop]; exact HPL.out, by rw [List.length_append], HOL.out, HFN.out, HG6.out, HSL.out, HK6.out, HB6.out⟩
          case measure => simp [intOf]; omega
      | true =>
        have hr0 : r = [] := HFd.out.over rfl
        have HR0 := Lib.hid hr0
        have hszA := HFd.out.sizes
        have HSZ' := Lib.hid (show mA.length + ([] : List (List Nat)).length < 1000000000 by simp; omega)
        have hsr : r.length < mostN x := by rw [HR0.out]; simp; omega
        clear hr0 hszA
        go_wp2_with fail
        refine (take_shut w2.heap.size (mostN x) fa (.slice a k0 c) r wr HG.out).mono ?_
        rintro e w5 ⟨rfl, rfl⟩
        go_wp2_with (at_builtin; refine wpList_append_rows rfl _ _ rfl w4.heap.size wr.heap.size _ _ mA [] gA [] rfl rfl HOA.out (OutAt.start _ _) HSZ'.out (by omega) (by omega) (fun q e => (HOA.out.own.lt q e).2) ?_)
        intro a6 c6 w6 hO6 hg6 hor
        try simp only [List.append_nil] at hO6
        have hs6 := hg6.size
        have HG6 := Lib.hid (HG.out.grown hg6 (fun e => by have := (HOA.out.own.lt _ e.symm).1; omega) (fun q hq e => HSEP.out q hq e.symm))
        have HK6 := Lib.hid (grown_turned HKP.out hg6 (fun q e => .inr (HOA.out.own.lt q e).1))
        have HB6 := Lib.hid (HB.out.grown hg6 (by omega) (fun q e => by have := (HOA.out.own.lt q e).1; omega))
        have HSEP6 := Lib.hid (show ∀ b, fa = some b → (Value.slice a6 mA.length c6).ownBlock ≠ some b.block from fun b hb e => by
          rcases hor with ⟨g, rfl, hge⟩ | hor
          · simp only [Value.ownBlock, Option.some.injEq] at e
            obtain ⟨cc, _, hL, _⟩ := HG.out
            rcases hL with ⟨h, _⟩ | ⟨b', oo, c', h, _, hbl, _⟩
            · injection h with h1; rw [h1] at hb; cases hb
            · injection h with h1; rw [h1] at hb; cases hb; simp only at e; omega
          · rw [hor] at e
            exact HSEP.out b hb e)
        have HO6 := Lib.hid hO6
        have HFN := Lib.hid (show Feeds (mostN x) (p ++ (l.take k0)) mA r true from by rw [HR0.out]; exact HFd.out.moreOver rfl (l.take k0))
        clear hO6 hg6 hor
        have d8 : decide (mostN x ≤ r.length) = false := decide_eq_false (by omega)
        have g1 : (k0 : Int) ≤ (l.length : Int) := by omega
        have g2 : (k0 : Int) ≤ (c : Int) := by omega
        have g3 : (0 : Int) ≤ (k0 : Int) := by omega
        have HDL := Lib.hid (show (l.drop k0).length = l.length - k0 from List.length_drop)
        have HOL := Lib.hid (show OutAt w6 w4.heap.size (.slice a6 mA.length c6) mA gA from by  exact HO6.out)
        have HSL := Lib.hid (show ∀ b, fa = some b → (Value.slice a6 mA.length c6).ownBlock ≠ some b.block from by  exact HSEP6.out)
        have hcut := HV.out.cut hk0l hlc HAN.out
        by_cases hcn : c = k0
        · have HBV := Lib.hid (show BytesV w w.heap.size (.slice a (l.drop k0).length 0) (l.drop k0) from by
            rw [if_pos hcn, show c - k0 = 0 by omega] at hcut
            exact hcut)
          have q1 : c - k0 = 0 := by omega
          have q2 : c ≤ k0 := by omega
          clear hcut hcn
          go_wp2_with fail
          refine (left_feed w2.heap.size (mostN x) fa r true _ HG6.out).mono ?_
          rintro e w8 ⟨rfl, rfl⟩
          go_wp2_with fail
          refine (most_any x _).mono ?_
          rintro e w8 ⟨rfl, rfl⟩
          go_wp2_with fail
          go_roundw
          case rel => exact ⟨j + 1, a, 0, l.drop k0, p ++ l.take k0, a6, c6, fa, r, true, mA, gA, by omega, by go_num, by rw [HDL.out], by rw [HDL.out]; omega, by omega, fun _ => rfl, HBV.out, by rw [List.append_assoc, List.take_append_drop]; exact HPL.out, rfl, HOL.out, HFN.out, HG6.out, HSL.out, HK6.out, HB6.out⟩
          case measure => simp [intOf]; omega
        · have HBV := Lib.hid (show BytesV w w.heap.size (.slice (Option.map (fun x => x.add k0) a) (l.drop k0).length (c - k0)) (l.drop k0) from by
            rw [if_neg hcn, Nat.mul_one] at hcut
            exact hcut)
          have HAN2 := Lib.hid (show Option.map (fun x => x.add k0) a = none → c - k0 = 0 from fun h => by
            have := HAN.out (by simpa using h)
            omega)
          have q1 : ¬ c - k0 = 0 := by omega
          have q2 : ¬ c ≤ k0 := by omega
          clear hcut hcn
          go_wp2_with fail
          refine (left_feed w2.heap.size (mostN x) fa r true _ HG6.out).mono ?_
          rintro e w8 ⟨rfl, rfl⟩
          go_wp2_with fail
          refine (most_any x _).mono ?_
          rintro e w8 ⟨rfl, rfl⟩
          go_wp2_with fail
          go_roundw
          case rel => exact ⟨j + 1, Option.map (fun x => x.add k0) a, c - k0, l.drop k0, p ++ l.take k0, a6, c6, fa, r, true, mA, gA, by omega, by go_num, by rw [HDL.out], by rw [HDL.out]; omega, by omega, HAN2.out, HBV.out, by rw [List.append_assoc, List.take_append_drop]; exact HPL.out, rfl, HOL.out, HFN.out, HG6.out, HSL.out, HK6.out, HB6.out⟩
          case measure => simp [intOf]; omega
end Go.Proofs.Ytcnijcmddnacaaa.Chunk
