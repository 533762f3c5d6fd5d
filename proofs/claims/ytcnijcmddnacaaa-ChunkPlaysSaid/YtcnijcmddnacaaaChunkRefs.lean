/- The reference's own answers: Num of the first four bytes, All of some bytes. Conditions: fewer than 10^9 bytes, a greatest message below 10^9. -/
import Derived.Test.YtcnijcmddnacaaaChunkJoin
import Derived.Test.YtcnijcmddnacaaaChunkNextLaw
namespace Go.Proofs.Ytcnijcmddnacaaa.Chunk
open Go.RowKit Go.Shelf
set_option linter.unusedVariables false
def hiN (l : List Nat) : Nat → Nat
  | 0 => 0
  | d + 1 => hiN l d * 256 + l.getD (3 - d) 0
theorem hiN_lt (l : List Nat) (h : bytes l) : ∀ d, hiN l d < 256 ^ d
  | 0 => by simp [hiN]
  | d + 1 => by
    have ih := hiN_lt l h d
    have hx := bytes_getD h (3 - d)
    rw [hiN, Nat.pow_succ]
    omega
theorem hiN4 (l : List Nat) : hiN l 4 = num4 l := by simp [hiN, num4, numk]; omega
set_option maxRecDepth 100000 in
set_option maxHeartbeats 1000000 in
theorem refnum_any (a : Option Addr) (c : Nat) (l : List Nat) (w : World) (h : BytesV w w.heap.size (.slice a l.length c) l) (h4 : 4 ≤ l.length) :
    Calls Try.prog 20 #[.slice a l.length c, .int .i64 4] w fun e w' => e = .returned (.int .u64 (num4 l : Nat)) ∧ w = w' := by
  obtain ⟨b, o, c', hv, hb⟩ := h.at_ (by omega)
  cases hv
  have HB := Lib.hid hb
  clear h hb
  have j4 : (4 : Int) ≤ (l.length : Int) := by omega
  go_enter Try.func20, Try.ntmps20
  go_wp2_with fail
  go_loop [5, 6] (fun v i => ∃ d : Nat, d ≤ 4 ∧ v = .int .u64 (hiN l d : Nat) ∧ ((d ≤ 3 ∧ i = .int .i64 ((3 - d : Nat) : Int)) ∨ (d = 4 ∧ i = .int .i64 (-1)))) (fun _ i => (intOf i + 1).toNat)
  case atStart => exact ⟨0, by omega, rfl, .inl ⟨by omega, rfl⟩⟩
  case round =>
    obtain ⟨d, hd, rfl, hi⟩ := hrel
    rcases hi with ⟨hd3, rfl⟩ | ⟨hd4, rfl⟩
    · have hlt := hiN_lt l HB.out.small d
      have hlt3 : hiN l d < 16777216 := Nat.lt_of_lt_of_le hlt (Nat.le_trans (Nat.pow_le_pow_right (by omega) hd3) (by decide))
      have cx := HB.out.cell (3 - d) (by omega)
      have hx := bytes_getD HB.out.small (3 - d)
      have HS := Lib.hid (show hiN l (d + 1) = hiN l d * 256 + l.getD (3 - d) 0 from rfl)
      clear hlt
      obtain ⟨e, he⟩ : ∃ e, e = 3 - d := ⟨_, rfl⟩
      have HE := Lib.hid he
      rw [← he] at cx hx ⊢
      have HSE := Lib.hid (show hiN l (d + 1) = hiN l d * 256 + l.getD e 0 by rw [HS.out, he])
      clear he HS
      generalize l.getD e 0 = x at *
      generalize hiN l d = v at *
      have e0 : (0 : Int) ≤ (e : Int) := by omega
      have e1 : (e : Int) < (l.length : Int) := by have := HE.out; omega
      have e2 : (e : Int) ≤ 3 := by have := HE.out; omega
      have hv0 : (0 : Int) ≤ (v : Int) := by omega
      have hv1 : (v : Int) < 16777216 := by omega
      go_wp2_with fail
      go_round
      case rel =>
        refine ⟨d + 1, by omega, ?_, ?_⟩
        · rw [HSE.out]; push_cast; rfl
        · by_cases hz : e = 0
          · exact .inr ⟨by have := HE.out; omega, by rw [hz]; rfl⟩
          · refine .inl ⟨by have := HE.out; omega, ?_⟩
            exact congrArg (Value.int IntKind.i64) (show (e : Int) - 1 = ((3 - (d + 1) : Nat) : Int) by have := HE.out; omega)
      case measure => simp [intOf] <;> omega
    · have HD := Lib.hid hd4
      clear hd4
      go_wp2_with fail
      go_ret
      exact ⟨by rw [HD.out, hiN4]; rfl, rfl⟩
/-- What All answers. -/
def AllSaid (w : World) (m : Nat) (l0 : List Nat) (e : Ending) (w' : World) : Prop :=
  ∃ ms r o n₀ ao co gs, e = .returned (.tuple #[.slice ao ms.length co, .int .i64 (r.length : Nat), .bool o]) ∧ Feeds m l0 ms r o ∧ OutAt w' n₀ (.slice ao ms.length co) ms gs ∧ w.heap.size ≤ n₀ ∧ Below w.heap.size w w'
set_option maxRecDepth 100000 in
set_option maxHeartbeats 4000000 in
theorem all_any (m : Nat) (a0 : Option Addr) (c0 : Nat) (l0 : List Nat) (w : World) (h : BytesV w w.heap.size (.slice a0 l0.length c0) l0) (hc : l0.length ≤ c0) (hn0 : a0 = none → c0 = 0) (hl : l0.length < 900000000) (hm : m < 1000000000) (hcm : c0 ≤ maxLen) :
    Calls Try.prog 19 #[.slice a0 l0.length c0, .int .i64 (m : Int)] w (AllSaid w m l0) := by
  unfold maxLen at hcm
  obtain ⟨i0, hi0, hz0, hz1, hz2⟩ := info_parts info5
  have HI0 := Lib.hid hi0
  have HZ0 := Lib.hid hz0
  have HZ1 := Lib.hid hz1
  have HZ2 := Lib.hid hz2
  obtain ⟨j0, hj0, hy0, hy1, hy2⟩ := info_parts info25'
  have HJ0 := Lib.hid hj0
  have HY0 := Lib.hid hy0
  have HY1 := Lib.hid hy1
  have HY2 := Lib.hid hy2
  have H0 := Lib.hid h
  have HN0 := Lib.hid hn0
  clear hi0 hz0 hz1 hz2 hj0 hy0 hy1 hy2 h hn0
  have hwm : IntKind.u64.wrap (m : Int) = (m : Int) := IntWalk.u64_in _ (by omega)
  have HWM := Lib.hid hwm
  clear hwm
  go_enter Try.func19, Try.ntmps19
  go_wp2_with fail
  go_loopw [0, 7, 8] (fun b v _ wr => ∃ (a : Option Addr) (c : Nat) (l : List Nat) (av : Option Addr) (cv : Nat) (ms : List (List Nat)) (gs : List (Nat × Nat)), b = .slice a l.length c ∧ l.length ≤ c ∧ c ≤ c0 ∧ (a = none → c = 0) ∧ BytesV w w.heap.size (.slice a l.length c) l ∧
      v = .slice av ms.length cv ∧ OutAt wr w.heap.size (.slice av ms.length cv) ms gs ∧ (∀ ms' r o, Feeds m l ms' r o → Feeds m l0 (ms ++ ms') r o) ∧ ms.length + l.length ≤ l0.length ∧ Below w.heap.size w wr) (fun b _ _ _ => match b with | .slice _ n _ => n | _ => 0)
  case atStart => exact ⟨a0, c0, l0, none, 0, [], [], rfl, hc, Nat.le_refl _, HN0.out, H0.out, rfl, OutAt.start _ _, fun _ _ _ h => h, by simp, Below.refl _ _⟩
  case round =>
    obtain ⟨a, c, l, av, cv, ms, gs, rfl, hlc, hcc, han, hV, rfl, hO, hFe, hll, hb⟩ := hrel
    have HAN := Lib.hid han
    have HV := Lib.hid hV
    have HO := Lib.hid hO
    have HFE := Lib.hid hFe
    have HB := Lib.hid hb
    have hsz := hb.size
    clear han hV hO hFe hb
    by_cases h4 : l.length < 4
    · have d1 : ¬ (4 : Int) ≤ (l.length : Int) := by omega
      have HF := Lib.hid (HFE.out [] l false (.short l h4))
      go_wp2_with fail
      go_ret3
      exact ⟨ms, l, false, w.heap.size, av, cv, gs, rfl, by simpa using HF.out, HO.out, Nat.le_refl _, HB.out⟩
    have d1 : (4 : Int) ≤ (l.length : Int) := by omega
    go_wp2_with fail
    refine (refnum_any a c l wr (HV.out.below HB.out) (by omega)).mono ?_
    rintro e w1 ⟨rfl, rfl⟩
    have hsl := num4_lt l HV.out.small
    have hwl : IntKind.u64.wrap (l.length : Int) = (l.length : Int) := IntWalk.u64_in _ (by omega)
    have hwm := HWM.out
    generalize hsn : num4 l = s at *
    have HSN := Lib.hid hsn
    clear hsn
    by_cases hbad : s < 7 ∨ m < s
    · have HF := Lib.hid (HFE.out [] [] true (.bad l (by omega) (by rw [HSN.out]; exact hbad)))
      by_cases h7 : s < 7
      · have q7 : (s : Int) < 7 := by omega
        go_wp2_with fail
        go_ret3
        exact ⟨ms, [], true, w.heap.size, av, cv, gs, rfl, by simpa using HF.out, HO.out, Nat.le_refl _, HB.out⟩
      · have q7 : decide ((s : Int) < 7) = false := by simp; omega
        have q8 : (m : Int) < (s : Int) := by omega
        clear h7 hbad
        go_wp2_with fail
        go_ret3
        exact ⟨ms, [], true, w.heap.size, av, cv, gs, rfl, by simpa using HF.out, HO.out, Nat.le_refl _, HB.out⟩
    have q7 : decide ((s : Int) < 7) = false := by simp; omega
    have q8 : decide (m < s) = false := by simp; omega
    by_cases hw : l.length < s
    · have HF := Lib.hid (HFE.out [] l false (.wait l (by omega) (by rw [HSN.out]; omega) (by rw [HSN.out]; omega) (by rw [HSN.out]; exact hw)))
      have q9 : decide (l.length < s) = true := by simp; omega
      go_wp2_with fail
      go_ret3
      exact ⟨ms, l, false, w.heap.size, av, cv, gs, rfl, by simpa using HF.out, HO.out, Nat.le_refl _, HB.out⟩
    have q9 : decide (l.length < s) = false := by simp; omega
    have q11 : (s : Int) ≤ (l.length : Int) := by omega
    have q10 : (s : Int) ≤ (c : Int) := by omega
    have HFE2 := Lib.hid (fun ms' r o (h : Feeds m (l.drop s) ms' r o) => HFE.out (l.take s :: ms') r o (by
      have := Feeds.take (m := m) l ms' r o (by omega) (by rw [HSN.out]; omega) (by rw [HSN.out]; omega) (by rw [HSN.out]; omega) (by rw [HSN.out]; exact h)
      rwa [HSN.out] at this))
    obtain ⟨b, o, rfl, hbw, hbs⟩ : ∃ b o, a = some ⟨b, o, none⟩ ∧ b < w.heap.size ∧ BytesAt w b o l := by
      rcases HV.out with ⟨_, h⟩ | ⟨b, o, c', h, hb, hbs⟩
      · rw [h] at h4; simp at h4
      · cases h; exact ⟨b, o, rfl, hb, hbs⟩
    have HBS := Lib.hid hbs
    have HS7 := Lib.hid (show 7 ≤ s by omega)
    clear hbs hbad hw
    obtain ⟨ls, hls⟩ : ∃ ls, ls = l.take s := ⟨_, rfl⟩
    have hfi := HV.out.first (k := s) (by omega)
    have hlt := (show (l.take s).length = s by rw [List.length_take]; omega)
    rw [← hls] at hfi hlt
    have HFI := Lib.hid hfi
    have HLT := Lib.hid hlt
    have HLS := Lib.hid hls
    have HBW := Lib.hid (HB.out.alloc hsz (.cells #[] 5))
    have HBY := Lib.hid (HBS.out.small)
    have HMX := Lib.hid (show ms.length + 1 ≤ 900000000 by omega)
    have HSX := Lib.hid (show 0 + ls.length < 1000000000 by rw [HLT.out]; omega)
    clear hfi hlt hls
    go_wp2_with (at_builtin; refine wpList_append_v rfl _ _ rfl wr.heap.size wr.heap.size 0 0 [] rfl (World.ownsRow_made wr #[] 0 (Nat.le_refl _) (Nat.zero_le _) rfl) _ ls rfl (HFI.out.below HBW.out) HSX.out (by simp) ?_)
    intro g1 cap1 w2 hown1 hgr1
    have hown1 : w2.ownsRow wr.heap.size 5 1 (.slice (some ⟨g1, 0, none⟩) ls.length cap1) ls.length (u8L ls) := by simpa using hown1
    try rw [Nat.zero_add]
    rw [HLT.out]
    have hg1 := hown1.lt g1 rfl
    have hb2 : Below wr.heap.size wr w2 := ((Below.refl _ wr).alloc (Nat.le_refl _) _).grown hgr1 (by rw [size_alloc]; omega) (fun q e => by cases e; omega)
    have hx2 : BytesAt w2 g1 0 (l.take s) := by rw [← HLS.out]; exact BytesAt.of_own hown1 (by rw [HLS.out]; exact bytes_take HBY.out s)
    have hat1 : ∃ t cs, At w2 g1 t cs := own_at hown1
    have hs2 := hb2.size
    have HB2 := Lib.hid hb2
    have HX2 := Lib.hid hx2
    have HAT1 := Lib.hid hat1
    clear hown1 hgr1 hb2 hx2 hat1
    go_wp2_with (at_builtin; refine wpList_append_lies _ rfl _ _ 28 rfl w.heap.size 25 j0 _ 1 24 Try.underlying28 HJ0.out HY0.out HY1.out HY2.out rfl (by omega) (.slice av ms.length cv) ms.length (List.zipWith rowV ms gs) rfl ?ho ⟨w2.heap.size, 0, none⟩ 1 1 [.slice (some ⟨g1, 0, none⟩) s cap1] rfl rfl (World.news_of_block (cs := #[.slice (some ⟨g1, 0, none⟩) s cap1]) (t := 25) (fr := (0, 0)) (heap_alloc_last w2 _)) (by simp [Value.oneCell']) (by omega) ?hm1 ?hm2 (by rw [size_alloc]; omega) (w2.heap.size + 1) (by simp) ?_)
    case ho => exact (HO.out.turned (only_below HB2.out none) (fun r e => by cases e)).own.alloc _
    case hm1 => have := max_big; have := HMX.out; omega
    case hm2 => have := HMX.out; omega
    intro gn capn w5 hown5 hgr5 hat5 hlt5
    have HO5 := Lib.hid (HO.out.more (HB2.out.alloc hs2 _) (HX2.out.alloc hg1.2 _) (by obtain ⟨t, cs, h⟩ := HAT1.out; exact ⟨t, cs, h.alloc _⟩) hg1.1 (by rw [size_alloc]; omega) hsz hgr5 (by
      have := hown5
      rw [show (Value.slice (some ⟨g1, 0, none⟩) s cap1) = rowV (l.take s) (g1, cap1) from by unfold rowV; rw [← HLS.out, HLT.out]] at this
      exact this) (by
      rcases hat5 with h | h
      · exact .inl h
      · exact .inr (by rw [size_alloc]; omega)))
    have HB5 := Lib.hid ((HB.out.trans ((HB2.out.alloc hs2 (.cells #[.slice (some ⟨g1, 0, none⟩) s cap1] 25)).mono hsz)).grown hgr5 (by rw [size_alloc]; omega) (fun q e => (HO.out.own.lt q e).1))
    clear hown5 hgr5 hat5
    by_cases hcn : c = s
    · have q1 : c - s = 0 := by omega
      have q2 : c ≤ s := by omega
      have q3 : l.length - s = 0 := by omega
      have HDR := Lib.hid (show l.drop s = [] from List.drop_eq_nil_of_le (by omega))
      clear hcn
      go_wp2_with fail
      go_roundw
      case rel =>
        exact ⟨some ⟨b, o, none⟩, 0, l.drop s, some ⟨gn, 0, none⟩, capn, ms ++ [l.take s], gs ++ [(g1, cap1)], by rw [HDR.out]; rfl, by rw [HDR.out]; simp, by omega, (fun _ => rfl), by rw [HDR.out]; exact .inl ⟨.inr ⟨_, _, rfl⟩, rfl⟩, by rw [List.length_append]; rfl, by rw [List.length_append]; exact HO5.out, fun ms' r o h => by have := HFE2.out ms' r o h; rwa [List.append_assoc], by rw [HDR.out, List.length_append]; simp; have := HS7.out; omega, HB5.out⟩
      case measure => simp; have := HS7.out; omega
    · have q1 : ¬ c - s = 0 := by omega
      have q2 : ¬ c ≤ s := by omega
      have HDL := Lib.hid (show (l.drop s).length = l.length - s from List.length_drop)
      clear hcn
      go_wp2_with fail
      go_roundw
      case rel =>
        exact ⟨some ⟨b, o + s, none⟩, c - s, l.drop s, some ⟨gn, 0, none⟩, capn, ms ++ [l.take s], gs ++ [(g1, cap1)], by rw [HDL.out], by rw [HDL.out]; omega, by omega, (fun h => by cases h), .inr ⟨b, o + s, c - s, rfl, hbw, HBS.out.drop s⟩, by rw [List.length_append]; rfl, by rw [List.length_append]; exact HO5.out, fun ms' r o h => by have := HFE2.out ms' r o h; rwa [List.append_assoc], by rw [HDL.out, List.length_append]; simp; have := HS7.out; omega, HB5.out⟩
      case measure => simp; have := HS7.out; omega
end Go.Proofs.Ytcnijcmddnacaaa.Chunk
