/- The iterator 'whole': what it hands to yield, and how it leaves the feed. Conditions: the feed lies as told, fewer than 10^9 bytes are left; the round keeps what the iterator reads. -/
import Derived.Test.YtcnijcmddnacaaaChunkNum
import Derived.Test.YtcnijcmddnacaaaChunkRange
import Derived.Shelf.Abstract
import Derived.Shelf.RegionOpen
import Derived.OwnWalkIn
import Derived.TacticsInMore
import Derived.LoopNIn
import Derived.LoopIn
import Derived.Deep.CutRange
namespace Go.Proofs.Ytcnijcmddnacaaa.Chunk
open Go.RowKit Go.Shelf
set_option linter.unusedVariables false
/-- What comes out of bytes, what is left, whether the feed is over. -/
inductive Feeds (m : Nat) : List Nat → List (List Nat) → List Nat → Bool → Prop
  | short (l : List Nat) : l.length < 4 → Feeds m l [] l false
  | bad (l : List Nat) : 4 ≤ l.length → (num4 l < 7 ∨ m < num4 l) → Feeds m l [] [] true
  | wait (l : List Nat) : 4 ≤ l.length → 7 ≤ num4 l → num4 l ≤ m → l.length < num4 l → Feeds m l [] l false
  | take (l : List Nat) (ms : List (List Nat)) (r : List Nat) (o : Bool) : 4 ≤ l.length → 7 ≤ num4 l → num4 l ≤ m → num4 l ≤ l.length → Feeds m (l.drop (num4 l)) ms r o → Feeds m l (l.take (num4 l) :: ms) r o
/-- What is left, as a value. -/
def LeftAt (n₀ : Nat) (W : World) (v : Value) (l : List Nat) : Prop :=
  (v = .slice none 0 0 ∧ l = []) ∨ ∃ b o c, v = .slice (some ⟨b, o, none⟩) l.length c ∧ l.length ≤ c ∧ b < n₀ ∧ BytesAt W b o l
def FeedAt (W : World) (fb m : Nat) (v : Value) (o : Bool) : Prop := At W fb 50 #[.int .i64 (m : Int), v, .bool o]
/-- What a round keeps: every block below n₀ but Bo. -/
def Kp (n₀ Bo : Nat) (A B : World) : Prop := A.heap.size ≤ B.heap.size ∧ ∀ k, k < n₀ → k ≠ Bo → B.heap[k]? = A.heap[k]?
/-- A message as it is handed out. -/
structure Msg where
  b : Nat
  o : Nat
  c : Nat
  l : List Nat
def Ok (n₀ L : Nat) (pre : List Msg) (x : Msg) (W : World) : Prop := BytesAt W x.b x.o x.l ∧ x.b < n₀ ∧ x.l.length < 1000000000 ∧ pre.length < L
def encs (x : Msg) : Array Value := #[.slice (some ⟨x.b, x.o, none⟩) x.l.length x.c]
def fleft (fb : Nat) (W : World) : Nat := match W.cell? ⟨fb, 1, none⟩ with | some (.slice _ n _) => n | _ => 0
theorem fleft_eq {W : World} {fb m n c : Nat} {a : Option Addr} {o : Bool} (h : FeedAt W fb m (.slice a n c) o) : fleft fb W = n := by
  unfold fleft
  rw [show W.cell? ⟨fb, 1, none⟩ = some (.slice a n c) from At.cell h 1]
theorem Kp.at {n₀ Bo : Nat} {A B : World} (h : Kp n₀ Bo A B) {g : Nat} {t : TypeId} {cs : Array Value} (ha : At A g t cs) (hg : g < n₀) (hne : g ≠ Bo) : At B g t cs := (h.2 g hg hne).trans ha
theorem Kp.bytes {n₀ Bo : Nat} {A B : World} (h : Kp n₀ Bo A B) {b o : Nat} {l : List Nat} (ha : BytesAt A b o l) (hg : b < n₀) (hne : b ≠ Bo) : BytesAt B b o l :=
  ⟨fun i v hv => (World.cell?_of_block (a := ⟨b, o + i, none⟩) (h.2 b hg hne)).trans (ha.lies i v hv), ha.small⟩
/-- How the iterator leaves the feed. -/
def Done (m fb b0 n₀ : Nat) (l0 : List Nat) (J : List Msg → World → Prop) (W' : World) : Prop :=
  ∃ xs r o v, Feeds m l0 (xs.map (·.l)) r o ∧ FeedAt W' fb m v o ∧ LeftAt n₀ W' v r ∧ (∀ b o c, v = .slice (some ⟨b, o, none⟩) r.length c → b = b0) ∧ J xs W'
theorem num4_take (l : List Nat) : num4 (l.take 4) = num4 l := by
  have h : ∀ k < 4, (l.take 4).getD k 0 = l.getD k 0 := fun k hk => by
    rw [List.getD_eq_getElem?_getD, List.getD_eq_getElem?_getD, List.getElem?_take, if_pos hk]
  simp only [num4, numk, h 0 (by omega), h 1 (by omega), h 2 (by omega), h 3 (by omega)]
theorem num4_lt (l : List Nat) (h : bytes l) : num4 l < 4294967296 := by
  have := numk_lt l h 4
  simpa [num4] using this
attribute [local go_sem] Oper.semAt_some
set_option maxRecDepth 100000 in
set_option maxHeartbeats 2000000 in
theorem whole1_in (n fb Bo B1 b0 n₀ l m : Nat) (h0o : b0 ≠ Bo) (h0f : b0 ≠ fb) (l0 : List Nat) (J : List Msg → World → Prop) (W : World)
    (hfb : fb < n₀) (hB1 : B1 < n₀) (hfo : fb ≠ Bo) (hBo : B1 ≠ Bo) (hf1 : fb ≠ B1) (hn₀ : n₀ ≤ W.heap.size)
    (hJ : ∀ s A B, J s A → A.grownBy B (some fb) → J s B)
    (hY : ∀ pre x A, J pre A → Ok n₀ l0.length pre x A → YieldAt Fence.wide (n - 1) Try.prog l (encs x) A fun e W' => e = .returned (.bool true) ∧ J (pre ++ [x]) W' ∧ Kp n₀ Bo A W')
    (hbox : At W B1 26 #[.pointer (some ⟨fb, 0, none⟩)]) (v0 : Value) (hF : FeedAt W fb m v0 false) (hm : m < 1000000000) (hl0 : l0.length < 1000000000)
    (hL : LeftAt n₀ W v0 l0) (hLo : ∀ b o c, v0 = .slice (some ⟨b, o, none⟩) l0.length c → b = b0) (h0 : J [] W) :
    CallsIn Fence.wide n Try.prog 35 #[.func (.yield l) #[] #[], .pointer (some ⟨B1, 0, none⟩)] W fun e W' => (∃ v, e = .returned v) ∧ Done m fb b0 n₀ l0 J W' := by
  refine callsIn_wide.2 ?_
  have HJ := Lib.hid hJ
  have HY := Lib.hid hY
  have HB := Lib.hid hbox
  have HF := Lib.hid hF
  have HL := Lib.hid hL
  have HLo := Lib.hid hLo
  have H0 := Lib.hid h0
  clear hJ hY hbox hF hL hLo h0
  go_enter Try.func35, Try.ntmps35
  go_wp2_with fail
  go_loopw [] (fun wr => ∃ (pre : List Msg) (ls : List Nat) (v : Value), n₀ ≤ wr.heap.size ∧ J pre wr ∧ FeedAt wr fb m v false ∧ LeftAt n₀ wr v ls ∧ (∀ b o c, v = .slice (some ⟨b, o, none⟩) ls.length c → b = b0) ∧ (ls.length < 1000000000 ∧ pre.length + ls.length ≤ l0.length) ∧
      At wr B1 26 #[.pointer (some ⟨fb, 0, none⟩)] ∧ (∀ ms r o, Feeds m ls ms r o → Feeds m l0 (pre.map (·.l) ++ ms) r o)) (fun wr => fleft fb wr)
  case atStart => exact ⟨[], l0, v0, hn₀, H0.out, HF.out, HL.out, HLo.out, ⟨hl0, by simp⟩, HB.out, fun ms r o h => h⟩
  case round =>
    obtain ⟨pre, ls, v, hsz, hj, hF, hL, hLo, ⟨hls, hpl⟩, hB, hFe⟩ := hrel
    have HPL := Lib.hid hpl
    clear hpl
    have cb : wr.cell? ⟨B1, 0, none⟩ = some (.pointer (some ⟨fb, 0, none⟩)) := At.cell hB 0
    have cm : wr.cell? ⟨fb, 0, none⟩ = some (.int .i64 (m : Int)) := At.cell hF 0
    have cv : wr.cell? ⟨fb, 1, none⟩ = some v := At.cell hF 1
    have f1 : wr.frozen? ⟨fb, 1, none⟩ = false := At.free hF 1
    have f2 : wr.frozen? ⟨fb, 2, none⟩ = false := At.free hF 2
    have c2 : wr.cell? ⟨fb, 2, none⟩ = some (.bool false) := At.cell hF 2
    by_cases h4 : ls.length < 4
    · have hfin : Done m fb b0 n₀ l0 J wr :=
        ⟨pre, ls, false, v, by simpa using hFe _ _ _ (.short ls h4), hF, hL, hLo, hj⟩
      have HFIN := Lib.hid hfin
      obtain ⟨a, c, hv⟩ : ∃ a c, v = .slice a ls.length c := by
        rcases hL with ⟨rfl, rfl⟩ | ⟨b, o, c, rfl, _⟩
        · exact ⟨none, 0, rfl⟩
        · exact ⟨_, c, rfl⟩
      clear hfin hF hL hLo hFe hj
      subst hv
      have hd : decide ((ls.length : Int) < 4) = true := by simp; omega
      have hd2 : ¬ (4 : Int) ≤ (ls.length : Int) := by omega
      go_wp2_with fail
      go_end0
      exact ⟨⟨_, rfl⟩, HFIN.out⟩
    · rcases hL with ⟨rfl, rfl⟩ | ⟨b, o, c, rfl, hlc, hbn, hbs⟩
      · exact absurd (by simp) h4
      have hd2 : (4 : Int) ≤ (ls.length : Int) := by omega
      have hc4 : (4 : Int) ≤ (c : Int) := by omega
      have hb0 := hLo b o c rfl
      have hbo : b ≠ Bo := by rw [hb0]; exact h0o
      have hbf : b ≠ fb := by rw [hb0]; exact h0f
      have HB0 := Lib.hid hb0
      clear hb0
      have HJ1 := Lib.hid hj
      have HF1 := Lib.hid hF
      have HB1 := Lib.hid hB
      have HBS := Lib.hid hbs
      have HFE := Lib.hid hFe
      clear hj hF hB hbs hLo hFe
      have h4l : (ls.take 4).length = 4 := by rw [List.length_take]; omega
      go_wp2_with fail
      refine (wirenew_any b o c (ls.take 4) wr (HBS.out.take 4) h4l (by omega)).mono ?_
      rintro e w1 ⟨p, g, c1, rfl, hcur, hb1, hc41, hgp, hgw, bl1⟩
      have HCU := Lib.hid hcur
      have HBB := Lib.hid hb1
      have HX1 := Lib.hid bl1
      clear hcur hb1 bl1
      go_wp2_with fail
      refine (curnum_any p g c1 (ls.take 4) w1 HCU.out HBB.out h4l hc41 hgp).mono ?_
      rintro e w2 ⟨rfl, hg2⟩
      have bl2 : Below wr.heap.size wr w2 := below_only HX1.out hg2 HX1.out.size (by omega)
      have hF2 := HF1.out.below bl2 (by omega)
      have hB2 := HB1.out.below bl2 (by omega)
      have hbs2 := HBS.out.below bl2 (by omega)
      have hj2 := HJ.out _ _ _ HJ1.out (only_below bl2 (some fb))
      have hsz2 : n₀ ≤ w2.heap.size := by have := bl2.size; omega
      have cb : w2.cell? ⟨B1, 0, none⟩ = some (.pointer (some ⟨fb, 0, none⟩)) := At.cell hB2 0
      have cm : w2.cell? ⟨fb, 0, none⟩ = some (.int .i64 (m : Int)) := At.cell hF2 0
      have cv : w2.cell? ⟨fb, 1, none⟩ = some (.slice (some ⟨b, o, none⟩) ls.length c) := At.cell hF2 1
      have f1 : w2.frozen? ⟨fb, 1, none⟩ = false := At.free hF2 1
      have f2 : w2.frozen? ⟨fb, 2, none⟩ = false := At.free hF2 2
      have c2 : w2.cell? ⟨fb, 2, none⟩ = some (.bool false) := At.cell hF2 2
      rw [num4_take]
      have hsl := num4_lt ls HBS.out.small
      have HF2 := Lib.hid hF2
      have HB2 := Lib.hid hB2
      have HBS2 := Lib.hid hbs2
      have HJ2 := Lib.hid hj2
      clear hF2 hB2 hbs2 hj2 hg2 bl2 hgw hgp hc41 HCU HBB HX1
      generalize hsn : num4 ls = s at *
      have HSN := Lib.hid hsn
      clear hsn
      have hwm : IntKind.u64.wrap (m : Int) = (m : Int) := IntWalk.u64_in _ (by omega)
      have hwl : IntKind.u64.wrap (ls.length : Int) = (ls.length : Int) := IntWalk.u64_in _ (by omega)
      have HM := Lib.hid hm
      have HL0 := Lib.hid hl0
      have HLS := Lib.hid hls
      have HSL := Lib.hid hsl
      clear hm hl0 hls hsl
      by_cases hbad : s < 7 ∨ m < s
      · have hfin : Done m fb b0 n₀ l0 J ((w2.setCell ⟨fb, 1, none⟩ (.slice none 0 0)).setCell ⟨fb, 2, none⟩ (.bool true)).drew := by
          refine ⟨pre, [], true, .slice none 0 0, by simpa using HFE.out _ _ _ (.bad ls (by omega) (by rw [HSN.out]; exact hbad)), ?_, .inl ⟨rfl, rfl⟩, fun b o c h => by simp at h, ?_⟩
          · exact (HF2.out.put 1 (.slice none 0 0)).put 2 (.bool true)
          · exact HJ.out _ _ _ HJ2.out (only_drew (only_set (g := fb) (p := ⟨fb, 2, none⟩) (only_set (g := fb) (p := ⟨fb, 1, none⟩) (World.grownBy.refl w2 _) (.inl rfl) _) (.inl rfl) _))
        have HFIN := Lib.hid hfin
        clear hfin
        by_cases h7 : s < 7
        · have q7 : (s : Int) < 7 := by omega
          go_wp2_with fail
          go_region
          go_wp2_with fail
          refine bodyPost_ret (results_none rfl _ _ _) rfl ?_
          exact ⟨⟨_, rfl⟩, HFIN.out⟩
        · have q7 : decide ((s : Int) < 7) = false := by simp; omega
          have q8 : (m : Int) < (s : Int) := by omega
          clear h7 hbad
          go_wp2_with fail
          go_region
          go_wp2_with fail
          refine bodyPost_ret (results_none rfl _ _ _) rfl ?_
          exact ⟨⟨_, rfl⟩, HFIN.out⟩
      · have q7 : decide ((s : Int) < 7) = false := by simp; omega
        have q8 : decide (m < s) = false := by simp; omega
        have hs7 : 7 ≤ s := by omega
        have hsm : s ≤ m := by omega
        have HS7 := Lib.hid hs7
        have HSM := Lib.hid hsm
        have H4 := Lib.hid h4
        clear hbad hs7 hsm h4
        by_cases hw : ls.length < s
        · have q9 : decide (ls.length < s) = true := by simp; omega
          have HW := Lib.hid hw
          have hfin : Done m fb b0 n₀ l0 J w2 :=
            ⟨pre, ls, false, .slice (some ⟨b, o, none⟩) ls.length c, by simpa using HFE.out _ _ _ (.wait ls (by have := H4.out; omega) (by rw [HSN.out]; exact HS7.out) (by rw [HSN.out]; exact HSM.out) (by rw [HSN.out]; exact hw)), HF2.out, .inr ⟨b, o, c, rfl, hlc, hbn, HBS2.out⟩, fun b' o' c' h => by simp at h; obtain ⟨⟨rfl, _⟩, _⟩ := h; exact HB0.out, HJ2.out⟩
          have HFIN := Lib.hid hfin
          clear hw hfin
          go_wp2_with fail
          refine bodyPost_ret (results_none rfl _ _ _) rfl ?_
          exact ⟨⟨_, rfl⟩, HFIN.out⟩
        · have q9 : decide (ls.length < s) = false := by simp; omega
          have q11 : (s : Int) ≤ (ls.length : Int) := by omega
          have q10 : (s : Int) ≤ (c : Int) := by omega
          have HW := Lib.hid hw
          have HLC := Lib.hid hlc
          clear hw
          go_wp2_with fail
          by_cases hcs : c = s
          · have hln : ls.length = s := by omega
            have HLN := Lib.hid hln
            have q12 : c - s = 0 := by omega
            have q13 : c ≤ s := by omega
            have q14 : ls.length - s = 0 := by omega
            have HCS := Lib.hid hcs
            clear hln hcs
            go_region
            have hj3 : J pre (w2.setCell ⟨fb, 1, none⟩ (.slice (some ⟨b, o, none⟩) 0 0)).drew :=
              HJ.out _ _ _ HJ2.out (only_drew (only_set (g := fb) (p := ⟨fb, 1, none⟩) (World.grownBy.refl w2 _) (.inl rfl) _))
            have hgr : w2.grownBy (w2.setCell ⟨fb, 1, none⟩ (.slice (some ⟨b, o, none⟩) 0 0)).drew (some fb) :=
              only_drew (only_set (g := fb) (p := ⟨fb, 1, none⟩) (World.grownBy.refl w2 _) (.inl rfl) _)
            have hF3 : FeedAt (w2.setCell ⟨fb, 1, none⟩ (.slice (some ⟨b, o, none⟩) 0 0)).drew fb m (.slice (some ⟨b, o, none⟩) 0 0) false := HF2.out.put 1 _
            have hb3 := HBS2.out.grown hgr (by omega) (by simp; omega)
            have hB3 := HB2.out.grown hgr (by simp; omega)
            have hsz3 : n₀ ≤ (w2.setCell ⟨fb, 1, none⟩ (.slice (some ⟨b, o, none⟩) 0 0)).drew.heap.size := by have := hgr.size; omega
            generalize (w2.setCell ⟨fb, 1, none⟩ (.slice (some ⟨b, o, none⟩) 0 0)).drew = w3 at *
            have hlen : (ls.take s).length = s := by rw [List.length_take]; omega
            have hy0 := HY.out pre ⟨b, o, c, ls.take s⟩ w3 hj3 ⟨hb3.take s, hbn, by rw [hlen]; have := HLS.out; omega, by have := HPL.out; have := HS7.out; omega⟩
            simp only [encs, hlen] at hy0
            have HF3 := Lib.hid hF3
            have HB3 := Lib.hid hB3
            have HBS3 := Lib.hid hb3
            clear hj3 hgr hF3 hb3 hB3
            go_upto_region 7 with fail
            refine (wpIn_wide (n := n)).1 ?_
            obtain ⟨fn, tmps, assign, body, hy, hR⟩ := hy0
            gi_wp2
            refine ⟨(fun h => by simp [Fence.wide] at h), hR.mono ?_⟩
            rintro e W4 ⟨rfl, hJ4, hk4⟩
            have hF4 := hk4.at HF3.out hfb hfo
            have hB4 := hk4.at HB3.out hB1 hBo
            have hb4 := hk4.bytes HBS3.out hbn hbo
            have HF4 := Lib.hid hF4
            have HB4 := Lib.hid hB4
            have HBS4 := Lib.hid hb4
            have HJ4 := Lib.hid hJ4
            have hsz4 : n₀ ≤ W4.heap.size := by have := hk4.1; omega
            clear hF4 hB4 hb4 hJ4 hk4
            gi_wp2
            go_wp2_with fail
            go_roundw
            case rel =>
              have hdr : ls.drop s = [] := List.drop_eq_nil_of_le (by omega)
              refine ⟨pre ++ [⟨b, o, c, ls.take s⟩], ls.drop s, .slice (some ⟨b, o, none⟩) 0 0, hsz4, HJ4.out, HF4.out, .inr ⟨b, o, 0, by rw [hdr]; rfl, by rw [hdr]; exact Nat.le_refl _, hbn, by rw [hdr]; exact ⟨fun i v hv => by simp [u8L] at hv, fun x hx => by cases hx⟩⟩, ?_, ⟨by rw [List.length_drop]; have := HLS.out; omega, by rw [List.length_drop, List.length_append, List.length_singleton]; have := HPL.out; have := HS7.out; omega⟩, HB4.out, ?_⟩
              · intro b' o' c' h
                rw [hdr] at h
                simp at h
                obtain ⟨⟨rfl, _⟩, _⟩ := h
                exact HB0.out
              · intro ms r o' h
                have := HFE.out _ _ _ (.take ls ms r o' (by have := H4.out; omega) (by rw [HSN.out]; exact HS7.out) (by rw [HSN.out]; exact HSM.out) (by rw [HSN.out]; omega) (by rw [HSN.out]; exact h))
                rw [HSN.out] at this
                simpa using this
            case measure =>
              rw [fleft_eq HF4.out, fleft_eq HF1.out]
              have := HS7.out
              omega
          · have q12 : ¬ c - s = 0 := by omega
            have q13 : ¬ c ≤ s := by omega
            go_region
            have hj3 : J pre (w2.setCell ⟨fb, 1, none⟩ (.slice (some ⟨b, o + s, none⟩) (ls.length - s) (c - s))).drew :=
              HJ.out _ _ _ HJ2.out (only_drew (only_set (g := fb) (p := ⟨fb, 1, none⟩) (World.grownBy.refl w2 _) (.inl rfl) _))
            have hgr : w2.grownBy (w2.setCell ⟨fb, 1, none⟩ (.slice (some ⟨b, o + s, none⟩) (ls.length - s) (c - s))).drew (some fb) :=
              only_drew (only_set (g := fb) (p := ⟨fb, 1, none⟩) (World.grownBy.refl w2 _) (.inl rfl) _)
            have hF3 : FeedAt (w2.setCell ⟨fb, 1, none⟩ (.slice (some ⟨b, o + s, none⟩) (ls.length - s) (c - s))).drew fb m (.slice (some ⟨b, o + s, none⟩) (ls.length - s) (c - s)) false := HF2.out.put 1 _
            have hb3 := HBS2.out.grown hgr (by omega) (by simp; omega)
            have hB3 := HB2.out.grown hgr (by simp; omega)
            have hsz3 : n₀ ≤ (w2.setCell ⟨fb, 1, none⟩ (.slice (some ⟨b, o + s, none⟩) (ls.length - s) (c - s))).drew.heap.size := by have := hgr.size; omega
            generalize (w2.setCell ⟨fb, 1, none⟩ (.slice (some ⟨b, o + s, none⟩) (ls.length - s) (c - s))).drew = w3 at *
            have hlen : (ls.take s).length = s := by rw [List.length_take]; omega
            have hy0 := HY.out pre ⟨b, o, c, ls.take s⟩ w3 hj3 ⟨hb3.take s, hbn, by rw [hlen]; have := HLS.out; omega, by have := HPL.out; have := HS7.out; omega⟩
            simp only [encs, hlen] at hy0
            have HF3 := Lib.hid hF3
            have HB3 := Lib.hid hB3
            have HBS3 := Lib.hid hb3
            clear hj3 hgr hF3 hb3 hB3
            go_upto_region 7 with fail
            refine (wpIn_wide (n := n)).1 ?_
            obtain ⟨fn, tmps, assign, body, hy, hR⟩ := hy0
            gi_wp2
            refine ⟨(fun h => by simp [Fence.wide] at h), hR.mono ?_⟩
            rintro e W4 ⟨rfl, hJ4, hk4⟩
            have hF4 := hk4.at HF3.out hfb hfo
            have hB4 := hk4.at HB3.out hB1 hBo
            have hb4 := hk4.bytes HBS3.out hbn hbo
            have HF4 := Lib.hid hF4
            have HB4 := Lib.hid hB4
            have HBS4 := Lib.hid hb4
            have HJ4 := Lib.hid hJ4
            have hsz4 : n₀ ≤ W4.heap.size := by have := hk4.1; omega
            clear hF4 hB4 hb4 hJ4 hk4
            gi_wp2
            go_wp2_with fail
            go_roundw
            case rel =>
              refine ⟨pre ++ [⟨b, o, c, ls.take s⟩], ls.drop s, .slice (some ⟨b, o + s, none⟩) (ls.length - s) (c - s), hsz4, HJ4.out, HF4.out, .inr ⟨b, o + s, c - s, by rw [List.length_drop], by rw [List.length_drop]; omega, hbn, HBS4.out.drop s⟩, ?_, ⟨by rw [List.length_drop]; have := HLS.out; omega, by rw [List.length_drop, List.length_append, List.length_singleton]; have := HPL.out; have := HS7.out; omega⟩, HB4.out, ?_⟩
              · intro b' o' c' h
                simp at h
                obtain ⟨⟨rfl, _⟩, _⟩ := h
                exact HB0.out
              · intro ms r o' h
                have := HFE.out _ _ _ (.take ls ms r o' (by have := H4.out; omega) (by rw [HSN.out]; exact HS7.out) (by rw [HSN.out]; exact HSM.out) (by rw [HSN.out]; omega) (by rw [HSN.out]; exact h))
                rw [HSN.out] at this
                simpa using this
            case measure =>
              rw [fleft_eq HF4.out, fleft_eq HF1.out]
              have := HS7.out
              omega
end Go.Proofs.Ytcnijcmddnacaaa.Chunk
