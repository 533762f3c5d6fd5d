/- The feed's Take: what is whole comes out, each message in a row of its own. Conditions: the feed lies as told and is not over; fewer than 9 * 10^8 bytes. -/
import Derived.Test.YtcnijcmddnacaaaChunkOut
namespace Go.Proofs.Ytcnijcmddnacaaa.Chunk
open Go.RowKit Go.Shelf
set_option linter.unusedVariables false
attribute [local go_sem] Oper.semAt_some
theorem info25 : (Try.prog.info? 25).map (fun i => (i.zero, i.size, i.bytes)) = some (some (.slice none 0 0), 1, 24) := by kernel_rfl
theorem BytesAt.drew {W : World} {b o : Nat} {l : List Nat} (h : BytesAt W b o l) : BytesAt W.drew b o l := ⟨fun i v hv => h.lies i v hv, h.small⟩
theorem whole_any (fb : Nat) (w : World) :
    Calls Try.prog 26 #[.pointer (some ⟨fb, 0, none⟩)] w fun e w' => e = .returned (.func (.func 35) #[] #[.pointer (some ⟨w.heap.size, 0, none⟩)]) ∧ w' = w.alloc (.cells #[.pointer (some ⟨fb, 0, none⟩)] 26) := by
  go_enter Try.func26, Try.ntmps26
  go_wp2_with fail
  go_ret
  exact ⟨rfl, rfl⟩
/-- The step law of an append at its own row, in a round's frame. -/
theorem stepIn_append_lies {F : Fence} {nn : Nat} {P : Program} (w : World) {ops : Array Oper} {o : Oper} {a : Act} {K : Act → World → Prop} {Q : Exit → Act → World → Prop} {E : Prop} (hgd : o.guard = none) (s x : Operand) (t : TypeId)
    (ho : o.op = .call { callee := .builtin .append, args := #[s, x], argTypes := #[t, t] })
    (base : Nat) (e : TypeId) (i : TypeInfo) (z : Value) (size bytes : Nat) (ht : P.underlying t = some (.slice e)) (hi : P.info? e = some i) (hz : i.zero = some z)
    (hsize : i.size = size) (hby : i.bytes = bytes) (hzs : z.cells.size = size) (hsz : 0 < size)
    (v : Value) (n : Nat) (xs : List Value) (hs : a.eval s = v) (hown : w.ownsRow base e size v n xs)
    (ad : Addr) (m c : Nat) (news : List Value) (hx : a.eval x = .slice (some ad) m c) (hl : news.length = m * size) (hnews : ∀ j u, news[j]? = some u → w.cell? (ad.add j) = some u) (h1 : ∀ u ∈ news, u.oneCell' = true)
    (hm : 0 < m) (h63 : n + m ≤ maxLen) (hbytes : (n + m) * bytes ≤ 140737488355328) (hbase : base ≤ w.heap.size) (H : Nat) (hH : w.heap.size = H)
    (h : ∀ g cap w', w'.ownsRow base e size (.slice (some ⟨g, 0, none⟩) (n + m) cap) (n + m) (xs ++ news) → w.grownBy w' v.ownBlock → (v.ownBlock = some g ∨ g = H) → g < w'.heap.size → K (a.put o.dst (.slice (some ⟨g, 0, none⟩) (n + m) cap)) w') :
    if Region.wanted o (yielded ops a.tmps) = true then Oper.wpIn F nn P o a w K Q else E := by
  have hw : Region.wanted o (yielded ops a.tmps) = true := by simp [Region.wanted, hgd]
  rw [if_pos hw]
  obtain ⟨g, cap, w', hr, h2, h3, h4, h5⟩ := run_append_lies (P := P) w t o.type base e i z size bytes ht hi hz hsize hby hzs hsz v n xs hown ad m c news hl hnews h1 hm h63 hbytes hbase H hH
  unfold Oper.wpIn
  refine ⟨?_, ?_⟩
  · simp [Oper.about, ho, resolve, Target.leads, Sem.run_pure]
  · rw [Oper.semAt_plain F _ _ (by rw [ho]; intro c hc'; cases hc')]
    simp [execOp, ho, resolve, invoke, builtin, hs, hx, hr, Result.andThen]
    exact h g cap w' h2 h3 h4 h5
/-- How the feed lies when the iterator is done. -/
def Rest (n₀ m fb b0 : Nat) (l0 : List Nat) (xs : List Msg) (W : World) : Prop :=
  ∃ r o v, Feeds m l0 (xs.map (·.l)) r o ∧ FeedAt W fb m v o ∧ LeftAt n₀ W v r ∧ (∀ b o c, v = .slice (some ⟨b, o, none⟩) r.length c → b = b0)
/-- What Take answers, and how it leaves the feed. -/
def Told (w : World) (fb m : Nat) (l0 : List Nat) (e : Ending) (w' : World) : Prop :=
  ∃ n₀ ms r o v vo gs, Feeds m l0 ms r o ∧ e = .returned vo ∧ OutAt w' n₀ vo ms gs ∧ FeedAt w' fb m v o ∧ LeftAt n₀ w' v r ∧ (∀ b o c, v = .slice (some ⟨b, o, none⟩) r.length c → w.heap.size ≤ b) ∧ w.grownBy w' (some fb) ∧ w.heap.size ≤ n₀ ∧ n₀ ≤ w'.heap.size
/-- What a round of Take carries. -/
def Gath (w : World) (n₀ fb Bo : Nat) (pre : List Msg) (W : World) : Prop :=
  ∃ v gs, At W Bo 28 #[v] ∧ OutAt W n₀ v (pre.map (·.l)) gs ∧ w.grownBy W (some fb) ∧ n₀ ≤ W.heap.size
theorem put_heap {W : World} {l k : Nat} (o : Obj) (h : k ≠ l) : (W.putObj l o).heap[k]? = W.heap[k]? := World.putObj_heap_other h
theorem rest_put {n₀ m fb b0 : Nat} {l0 : List Nat} {xs : List Msg} {W : World} {l : Nat} (hfb : fb < n₀) (h : Rest n₀ m fb b0 l0 xs W) (hl : n₀ ≤ l) (o : Obj) : Rest n₀ m fb b0 l0 xs (W.putObj l o) := by
  obtain ⟨r, o', v, h1, h2, h3, h4⟩ := h
  refine ⟨r, o', v, h1, (put_heap o (by omega)).trans h2, ?_, h4⟩
  rcases h3 with h3 | ⟨b, oo, c, hv, hc, hb, hbs⟩
  · exact .inl h3
  · exact .inr ⟨b, oo, c, hv, hc, hb, ⟨fun i v hv => (World.cell?_of_block (a := ⟨b, oo + i, none⟩) (put_heap o (show b ≠ l by omega))).trans (hbs.lies i v hv), hbs.small⟩⟩
theorem ok_put {n₀ L : Nat} {pre : List Msg} {x : Msg} {W : World} {l : Nat} (h : Ok n₀ L pre x W) (hl : n₀ ≤ l) (o : Obj) : Ok n₀ L pre x (W.putObj l o) := by
  obtain ⟨h1, h2, h3, h4⟩ := h
  exact ⟨⟨fun i v hv => (World.cell?_of_block (a := ⟨x.b, x.o + i, none⟩) (put_heap o (show x.b ≠ l by omega))).trans (h1.lies i v hv), h1.small⟩, h2, h3, h4⟩
theorem kp_trans {n₀ Bo : Nat} {A B C : World} (h : Kp n₀ Bo A B) (k : Kp n₀ Bo B C) : Kp n₀ Bo A C :=
  ⟨Nat.le_trans h.1 k.1, fun i hi hne => (k.2 i hi hne).trans (h.2 i hi hne)⟩
theorem kp_put {n₀ Bo : Nat} (W : World) (l : Nat) (o : Obj) (hl : n₀ ≤ l) : Kp n₀ Bo W (W.putObj l o) :=
  ⟨by simp [World.putObj], fun i hi hne => put_heap o (by omega)⟩
theorem gath_own {w : World} {n₀ fb Bo : Nat} (hB : Bo < n₀) (hw : w.heap.size ≤ n₀) : OwnFrom n₀ (Gath w n₀ fb Bo) := by
  rintro s W W' row ⟨v, gs, h1, h2, h3, h4⟩ hg hr
  refine ⟨v, gs, at_turned h1 hg (fun r e => .inr (hr r e).2), h2.turned hg (fun r e => .inr (hr r e).2), grown_turned h3 hg (fun r e => .inr (by have := (hr r e).1; omega)), Nat.le_trans h4 hg.size⟩
theorem gath_feed {w : World} {n₀ fb Bo : Nat} (hf : fb < n₀) (hne : fb ≠ Bo) : ∀ s A B, Gath w n₀ fb Bo s A → A.grownBy B (some fb) → Gath w n₀ fb Bo s B := by
  rintro s A B ⟨v, gs, h1, h2, h3, h4⟩ hg
  exact ⟨v, gs, at_turned h1 hg (fun r e => .inl (by cases e; exact hne)), h2.turned hg (fun r e => .inl (by cases e; exact hf)), grown_turned h3 hg (fun r e => .inl (by cases e; rfl)), Nat.le_trans h4 hg.size⟩
/-- What the round leaves. -/
theorem gath_more {w W w4 w5 : World} {n₀ fb Bo : Nat} {pre : List Msg} {x : Msg} {v : Value} {gs : List (Nat × Nat)} {gx cx gn capn : Nat} {o : Obj} (hB : Bo < n₀) (hw : w.heap.size ≤ Bo) (hA : At W Bo 28 #[v]) (hO : OutAt W n₀ v (pre.map (·.l)) gs) (hG : w.grownBy W (some fb)) (hn : n₀ ≤ W.heap.size)
    (hbl : Below W.drew.heap.size W.drew w4) (hbx : BytesAt w4 gx 0 x.l) (hat : ∃ t cs, At w4 gx t cs) (hg1 : W.drew.heap.size ≤ gx) (hg2 : gx < w4.heap.size)
    (hown5 : w5.ownsRow n₀ 25 1 (.slice (some ⟨gn, 0, none⟩) (pre.length + 1) capn) (pre.length + 1) (List.zipWith rowV (pre.map (·.l)) gs ++ [.slice (some ⟨gx, 0, none⟩) x.l.length cx])) (hgr5 : (w4.alloc o).grownBy w5 v.ownBlock) (hat5 : v.ownBlock = some gn ∨ gn = w4.heap.size + 1) :
    KeepsOthers W (w5.setCell ⟨Bo, 0, none⟩ (.slice (some ⟨gn, 0, none⟩) (pre.length + 1) capn)) ∧ Kp n₀ Bo W (w5.setCell ⟨Bo, 0, none⟩ (.slice (some ⟨gn, 0, none⟩) (pre.length + 1) capn)) ∧ Gath w n₀ fb Bo (pre ++ [x]) (w5.setCell ⟨Bo, 0, none⟩ (.slice (some ⟨gn, 0, none⟩) (pre.length + 1) capn)) := by
  have hlm : (pre.map (·.l)).length = pre.length := by simp
  have hs4 : W.heap.size ≤ w4.heap.size := hbl.size
  have hs5 := hgr5.size
  rw [size_alloc] at hs5
  have hbl4 : Below W.drew.heap.size W.drew (w4.alloc o) := hbl.alloc hbl.size o
  have hvb : v.ownBlock ≠ some Bo := fun e => by have := (hO.own.lt Bo e).1; omega
  have hA4 : At (w4.alloc o) Bo 28 #[v] := (hA.drew).below hbl4 hA.lt
  have hA5 : At w5 Bo 28 #[v] := hA4.grown hgr5 (fun e => hvb e.symm)
  have hO' : OutAt W.drew n₀ v (pre.map (·.l)) gs := hO.turned (only_drew (World.grownBy.refl W none)) (fun r e => by cases e)
  have hO5 : OutAt w5 n₀ (.slice (some ⟨gn, 0, none⟩) (pre.length + 1) capn) (pre.map (·.l) ++ [x.l]) (gs ++ [(gx, cx)]) := by
    have := hO'.more hbl4 (hbx.alloc hg2 o) (by obtain ⟨t, cs, h⟩ := hat; exact ⟨t, cs, h.alloc o⟩) hg1 (by rw [size_alloc]; omega) hn hgr5 (by rw [hlm]; exact hown5) (by
      rcases hat5 with h | h
      · exact .inl h
      · exact .inr (by rw [size_alloc]; omega))
    rwa [hlm] at this
  have hgs : w5.grownBy (w5.setCell ⟨Bo, 0, none⟩ (.slice (some ⟨gn, 0, none⟩) (pre.length + 1) capn)) (some Bo) := only_set (g := Bo) (p := ⟨Bo, 0, none⟩) (World.grownBy.refl w5 _) (.inl rfl) _
  have hblk : ∀ k, k < W.heap.size → some k ≠ v.ownBlock → w5.heap[k]? = W.heap[k]? := fun k hk hne =>
    (hgr5.block k (by rw [size_alloc]; omega) hne).trans (hbl4.block k hk)
  refine ⟨⟨?_, ?_⟩, ⟨?_, ?_⟩, ⟨.slice (some ⟨gn, 0, none⟩) (pre.length + 1) capn, gs ++ [(gx, cx)], ?_, ?_, ?_, ?_⟩⟩
  · have := hgs.size; omega
  · intro k ob hk hc
    have hkl := (Array.getElem?_eq_some_iff.1 hk).1
    have hkB : k ≠ Bo := by
      rintro rfl
      rw [show W.heap[k]? = _ from hA] at hk
      cases hk; cases hc
    refine (hgs.block k (by omega) (by simpa using hkB)).trans ?_
    rw [hblk k hkl ?_]
    · exact hk
    · intro e
      rcases hO.own.2 with ⟨hv, _⟩ | ⟨g, cap, cur, hv, hb, hg, _⟩
      · rw [hv] at e; cases e
      · rw [hv] at e
        cases e
        rw [hg] at hk; cases hk; cases hc
  · have := hgs.size; omega
  · intro k hk hne
    refine (hgs.block k (by omega) (by simpa using hne)).trans (hblk k (by omega) (fun e => ?_))
    have := (hO.own.lt k e.symm).1
    omega
  · exact hA5.put 0 _
  · rw [List.map_append]
    exact hO5.turned hgs (fun r e => .inl (by cases e; exact hB))
  · refine ⟨hgs.os.trans (hgr5.os.trans (hbl4.os.trans hG.os)), hgs.tape.trans (hgr5.tape.trans (hbl4.tape.trans hG.tape)), hgs.output.trans (hgr5.output.trans (hbl4.output.trans hG.output)), by have := hgs.size; have := hG.size; omega, fun i hi hne => ?_⟩
    refine (hgs.block i (by have := hG.size; omega) (by simp; omega)).trans ((hblk i (by have := hG.size; omega) (fun e => ?_)).trans (hG.block i hi hne))
    have := (hO.own.lt i e.symm).1
    omega
  · have := hgs.size; omega
set_option maxRecDepth 100000 in
set_option maxHeartbeats 2000000 in
theorem take_any (fb m : Nat) (v v2 : Value) (l l2 : List Nat) (w : World) (hF : FeedAt w fb m v false) (hL : LeftAt w.heap.size w v l) (h2 : BytesV w w.heap.size v2 l2) (hne : ∀ b o c, v = .slice (some ⟨b, o, none⟩) l.length c → b ≠ fb)
    (hm : m < 1000000000) (hn : l.length + l2.length < 900000000) :
    Calls Try.prog 13 #[.pointer (some ⟨fb, 0, none⟩), v2] w (Told w fb m (l ++ l2)) := by
  obtain ⟨i0, hi0, hz0, hz1, hz2⟩ := info_parts info25
  have HI0 := Lib.hid hi0
  have HZ0 := Lib.hid hz0
  have HZ1 := Lib.hid hz1
  have HZ2 := Lib.hid hz2
  clear hi0 hz0 hz1 hz2
  refine (callsIn_wide (n := 5)).1 ?_
  refine callsIn_of_wp_marks Try.func13 rfl trivial ?_ rfl
  simp only [Try.ntmps13, List.size_toArray, List.length_cons, List.length_nil, Nat.reduceAdd, Nat.reduceSub, Array.replicate_succ, Array.replicate_zero, List.push_toArray, List.append_toArray, List.nil_append, List.cons_append]
  refine wpIn_wide.2 ?_
  have V1 : BytesV w w.heap.size v l := by
    rcases hL with h | ⟨b, o, c, h, _, hb, hbs⟩
    · exact .inl ⟨.inl h.1, h.2⟩
    · exact .inr ⟨b, o, c, h, hb, hbs⟩
  obtain ⟨a1, k1, rfl⟩ := V1.form
  obtain ⟨a2, k2, rfl⟩ := h2.form
  have HV1 := Lib.hid V1
  clear V1 hne
  have c1 : w.cell? ⟨fb, 1, none⟩ = some (.slice a1 l.length k1) := At.cell hF 1
  have c2 : w.cell? ⟨fb, 2, none⟩ = some (.bool false) := At.cell hF 2
  have HF := Lib.hid hF
  have HL := Lib.hid hL
  have H2 := Lib.hid h2
  have hfl := hF.lt
  clear hF hL h2
  go_wp2_with fail
  have lift : ∀ v l (x : Obj), BytesV w w.heap.size v l → BytesV (w.alloc x) (w.alloc x).heap.size v l := fun v l x hv => by
    rcases hv with h | ⟨b, o, c, h, hlt, hbs⟩
    · exact .inl h
    · exact .inr ⟨b, o, c, h, by rw [size_alloc]; omega, hbs.alloc hlt x⟩
  refine (concat_all w.heap.size _ _ l l2 _ (At.new w 25 _) (lift _ _ _ HV1.out) (lift _ _ _ H2.out) hn).mono ?_
  rintro e w1 ⟨a3, c, rfl, hb, hcase⟩
  have hsz1 : w.heap.size + 1 ≤ w1.heap.size := by have := hb.size; rwa [size_alloc] at this
  obtain ⟨b0, hg, hg1, hcs⟩ : ∃ b0, w.heap.size ≤ b0 ∧ b0 < w1.heap.size ∧ ((a3 = none ∧ c = 0 ∧ l ++ l2 = []) ∨ a3 = some ⟨b0, 0, none⟩ ∧ BytesAt w1 b0 0 (l ++ l2) ∧ l.length + l2.length ≤ c) := by
    rcases hcase with h | ⟨g, rfl, hbs, hc, hg, hg1⟩
    · exact ⟨w.heap.size, Nat.le_refl _, by omega, .inl h⟩
    · rw [size_alloc] at hg
      exact ⟨g, by omega, hg1, .inr ⟨rfl, hbs, hc⟩⟩
  clear hcase
  have hb1 : Below w.heap.size w w1 := ((Below.refl _ w).alloc (Nat.le_refl _) _).trans ⟨hb.os, hb.tape, hb.output, hb.size, fun i hi => hb.block i (by rw [size_alloc]; omega)⟩
  have hF1 := HF.out.below hb1 hfl
  have c1 : w1.cell? ⟨fb, 1, none⟩ = some (.slice a1 l.length k1) := At.cell hF1 1
  have f1 : w1.frozen? ⟨fb, 1, none⟩ = false := At.free hF1 1
  have HF1 := Lib.hid hF1
  have HCS := Lib.hid hcs
  have HB1 := Lib.hid hb1
  clear hF1 hcs hb1 hb lift
  go_wp2_with fail
  refine (whole_any fb _).mono ?_
  rintro e w3 ⟨rfl, hw3⟩
  go_wp2_with fail
  rw [← hw3]
  have hlen : (l ++ l2).length = l.length + l2.length := List.length_append
  have hsz3 : w3.heap.size = w1.heap.size + 2 := by rw [hw3]; simp
  have hF3 : FeedAt w3 fb m (.slice a3 (l ++ l2).length c) false := by
    rw [hw3, hlen]
    exact ((HF1.out.put 1 _).alloc _).alloc _
  have hbs3 : (a3 = none ∧ c = 0 ∧ l ++ l2 = []) ∨ a3 = some ⟨b0, 0, none⟩ ∧ BytesAt w3 b0 0 (l ++ l2) ∧ l.length + l2.length ≤ c := by
    rcases HCS.out with h | ⟨h1, h2, h3⟩
    · exact .inl h
    · refine .inr ⟨h1, ?_, h3⟩
      rw [hw3]
      refine ((h2.grown (only_set (g := fb) (p := ⟨fb, 1, none⟩) (World.grownBy.refl w1 _) (.inl rfl) (.slice a3 (l.length + l2.length) c)) hg1 (by simp; omega)).alloc (by simpa using hg1) _).alloc (by simp; omega) _
  have hBo3 : At w3 w1.heap.size 28 #[.slice none 0 0] := by
    rw [hw3]
    have : At ((w1.setCell ⟨fb, 1, none⟩ (.slice a3 (l.length + l2.length) c)).alloc (.cells #[.slice none 0 0] 28)) w1.heap.size 28 #[.slice none 0 0] := by
      have := At.new (w1.setCell ⟨fb, 1, none⟩ (.slice a3 (l.length + l2.length) c)) 28 #[.slice none 0 0]
      simpa using this
    exact this.alloc _
  have hB13 : At w3 (w1.heap.size + 1) 26 #[.pointer (some ⟨fb, 0, none⟩)] := by
    rw [hw3]
    have := At.new ((w1.setCell ⟨fb, 1, none⟩ (.slice a3 (l.length + l2.length) c)).alloc (.cells #[.slice none 0 0] 28)) 26 #[.pointer (some ⟨fb, 0, none⟩)]
    simpa using this
  have hgr3 : w.grownBy w3 (some fb) := by
    rw [hw3]
    refine only_trans (b := w1.setCell ⟨fb, 1, none⟩ (.slice a3 (l.length + l2.length) c)) (only_trans (only_below HB1.out _) (only_set (g := fb) (p := ⟨fb, 1, none⟩) (World.grownBy.refl w1 _) (.inl rfl) _)) ?_
    exact only_trans (World.grownBy_alloc _ _ _) (World.grownBy_alloc _ _ _)
  have hs1 := HB1.out.size
  have HF3 := Lib.hid hF3
  have HBS3 := Lib.hid hbs3
  have HBO := Lib.hid hBo3
  have HB1X := Lib.hid hB13
  have HGR := Lib.hid hgr3
  have HSZ := Lib.hid hsz3
  clear hF3 hbs3 hBo3 hB13 hgr3 hsz3 hw3 HF1 HCS HF HL H2 HV1 c1 f1 c2
  refine (wpIn_wide (n := 5)).1 ?_
  refine wpIn_rangeFunc_turn rfl (by omega) (gf := 35) (lb := #[.pointer (some ⟨w1.heap.size + 1, 0, none⟩)]) rfl trivial (enters_of Try.func35 (by kernel_rfl) rfl) (encs := encs) (fun _ => rfl) fb (by have := HSZ.out; omega)
    (Kp w3.heap.size w1.heap.size) (Rest w3.heap.size m fb b0 (l ++ l2)) (Ok w3.heap.size (l ++ l2).length) ?seq kp_trans (fun W l o o' hl _ _ => kp_put W l o' hl)
    (fun xs W l o o' h hl _ _ => rest_put (by have := HSZ.out; omega) h hl o') (fun pre x W l o o' h hl _ _ => ok_put h hl o') (Gath w w3.heap.size fb w1.heap.size) (gath_own (by have := HSZ.out; omega) (by have := HSZ.out; omega)) (gath_feed (by have := HSZ.out; omega) (by omega))
    ⟨_, [], HBO.out, OutAt.start _ _, HGR.out, Nat.le_refl _⟩ ?a1 ?assign ?body ?done
  case seq =>
    intro J W hbW hJ hY hJ0
    have h3 := HSZ.out
    refine (whole1_in (5 - 1) fb w1.heap.size (w1.heap.size + 1) b0 w3.heap.size (w3.heap.size + 1) m (by omega) (by omega) (l ++ l2) J W (by omega) (by omega) (by omega) (by omega) (by omega) (hbW.size) hJ hY (HB1X.out.below hbW (by omega)) _ (HF3.out.below hbW (by omega)) hm (by rw [hlen]; omega)
      ?_ ?_ hJ0).mono ?_
    · rcases HBS3.out with ⟨ha, hc, hl⟩ | ⟨ha, hb, hc⟩
      · exact .inl ⟨by rw [ha, hc, hl]; rfl, hl⟩
      · exact .inr ⟨b0, 0, c, by rw [ha], by rw [hlen]; exact hc, by omega, hb.below hbW (by omega)⟩
    · intro b o c' h
      rcases HBS3.out with ⟨ha, hc, hl⟩ | ⟨ha, hb, hc⟩
      · rw [ha] at h; cases h
      · rw [ha] at h; cases h; rfl
    rintro e W' ⟨he, xs, r, o, v, h1, h2, h3, h4, h5⟩
    exact ⟨he, xs, ⟨r, o, v, h1, h2, h3, h4⟩, h5⟩
  case a1 => exact fun x => { tmps := #[Value.pointer (some { block := fb, off := 0 }), Value.slice a2 l2.length k2, undef, undef, Value.slice none 0 0,
        Value.pointer (some { block := w1.heap.size, off := 0 }), .slice (some ⟨x.b, x.o, none⟩) x.l.length x.c, Value.pointer (some { block := fb, off := 0 }),
        Value.bool false, Value.bool false, Value.pointer (some { block := fb, off := 0 }),
        Value.pointer (some { block := fb, off := 0 }), Value.pointer (some { block := fb, off := 2 }),
        Value.bool false, Value.bool false, Value.pointer (some { block := fb, off := 0 }),
        Value.pointer (some { block := fb, off := 0 }), Value.pointer (some { block := fb, off := 0 }),
        Value.pointer (some { block := fb, off := 1 }), Value.slice a1 l.length k1, Value.slice a2 l2.length k2,
        Value.slice (some { block := w.heap.size, off := 0 }) 2 2,
        Value.slice a3 (l.length + l2.length) c,
        Value.pointer (some { block := fb, off := 0 }), Value.pointer (some { block := fb, off := 1 }),
        Value.pointer (some { block := fb, off := 0 }),
        Value.func (Fn.func 35) #[] #[Value.pointer (some { block := w1.heap.size + 1, off := 0 })], .slice (some ⟨x.b, x.o, none⟩) x.l.length x.c, undef,
        undef, undef, undef, undef, undef], defers := [] }
  case assign =>
    intro l x W K hK
    simp only [encs]
    gi_wp2
    exact hK
  case body =>
    rintro lp pre x W ⟨v, gs, hAt, hOut, hgr, hnW⟩ ⟨hok1, hok2, hok3, hok4⟩
    have cB : W.cell? ⟨w1.heap.size, 0, none⟩ = some v := At.cell hAt 0
    have fB : W.frozen? ⟨w1.heap.size, 0, none⟩ = false := At.free hAt 0
    have hsz3a : w1.heap.size + 2 ≤ w3.heap.size := by have := HSZ.out; omega
    have hsz3b : w3.heap.size ≤ w1.heap.size + 2 := by have := HSZ.out; omega
    have hmx : Try.prog.follows .mixedOrders = true := by kernel_rfl
    have HOK := Lib.hid hok1
    have HO := Lib.hid hOut
    have HG := Lib.hid hgr
    have HA := Lib.hid hAt
    clear hok1 hOut hgr hAt
    gi_wp2
    refine wpIn_region_any hmx ?_
    change wpAnyIn _ _ _ _ _ _ _ _ _ (World.drew _)
    have hxb : x.b < W.heap.size := by omega
    have hBW : w1.heap.size < W.heap.size := HA.out.lt
    have HVB := Lib.hid (show v.ownBlock ≠ some w1.heap.size from fun e => by have := (HO.out.own.lt _ e).1; have := HSZ.out; omega)
    refine wpAnyIn_ready (rs := [0, 1]) (by kernel_rfl) (by simp) ?_
    refine AllReadyIn.cons (by rfl) (fun K hK => ?_) ?_
    · go_simp
      refine hK _ _ ?_
      clear hK K
      refine wpAnyIn_ready (rs := [1]) (by kernel_rfl) (by simp) ?_
      refine AllReadyIn.cons (by rfl) (fun K hK => ?_) AllReadyIn.nil
      go_simp
      refine hK _ _ ?_
      clear hK K
      refine wpAnyIn_ready (rs := [2]) (by kernel_rfl) (by simp) ?_
      refine AllReadyIn.cons (by rfl) (fun K hK => ?_) AllReadyIn.nil
      go_simp
      refine ⟨trivial, ?_⟩
      refine (CallsIn.inRound lp (callsIn_wide.2 (clone_own _ _ _ x.l _ HOK.out.drew hxb hok3))).mono ?_
      rintro e w4 ⟨gx, cx, rfl, hbx, hcx, hgx1, hgx2, hbl, hatx⟩
      have cB4 : w4.cell? ⟨w1.heap.size, 0, none⟩ = some v := (hbl.cell (p := ⟨w1.heap.size, 0, none⟩) hBW).trans cB
      have cB5 : (w4.alloc (.cells #[.slice (some ⟨gx, 0, none⟩) x.l.length cx] 25)).cell? ⟨w1.heap.size, 0, none⟩ = some v := (Below.cell (p := ⟨w1.heap.size, 0, none⟩) ((Below.refl w4.heap.size w4).alloc (Nat.le_refl _) _) (by show w1.heap.size < _; have : W.heap.size ≤ w4.heap.size := hbl.size; omega)).trans cB4
      have fB4 : w4.frozen? ⟨w1.heap.size, 0, none⟩ = false := (hbl.frozen (p := ⟨w1.heap.size, 0, none⟩) hBW).trans fB
      have hsz4 : W.heap.size ≤ w4.heap.size := hbl.size
      have HBX := Lib.hid hbx
      have HBL := Lib.hid hbl
      have HATX := Lib.hid hatx
      clear hbx hbl hatx
      refine hK _ _ ?_
      clear hK K
      refine wpAnyIn_ready (rs := [3]) (by kernel_rfl) (by simp) ?_
      refine AllReadyIn.cons (by rfl) (fun K hK => ?_) AllReadyIn.nil
      go_simp
      refine hK _ _ ?_
      clear hK K
      refine wpAnyIn_ready (rs := [4]) (by kernel_rfl) (by simp) ?_
      refine AllReadyIn.cons (by rfl) (fun K hK => ?_) AllReadyIn.nil
      refine stepIn_append_lies _ (by rfl) _ _ _ (by rfl) w3.heap.size 25 i0 _ 1 24 Try.underlying28 HI0.out HZ0.out HZ1.out HZ2.out rfl (by omega) v pre.length (List.zipWith rowV (pre.map (·.l)) gs) (by rfl) ?_ ⟨w4.heap.size, 0, none⟩ 1 1 [.slice (some ⟨gx, 0, none⟩) x.l.length cx] (by rfl) (by rfl) (World.news_of_block (cs := #[.slice (some ⟨gx, 0, none⟩) x.l.length cx]) (t := 25) (fr := (0, 0)) (heap_alloc_last w4 _)) (by simp [Value.oneCell']) (by omega) (by have := max_big; omega) (by omega) (by rw [size_alloc]; omega) (w4.heap.size + 1) (by simp) ?_
      · have h := (OutAt.turned HO.out (only_trans (only_drew (World.grownBy.refl W none)) (only_below HBL.out none)) (fun r e => by cases e)).own
        rw [List.length_map] at h
        exact h.alloc _
      intro gn capn w5 hown5 hgr5 hat5 hlt5
      have cB6 : w5.cell? ⟨w1.heap.size, 0, none⟩ = some v := (hgr5.cell_far ⟨w1.heap.size, 0, none⟩ (by rw [size_alloc]; show w1.heap.size < _; omega) (fun e => HVB.out e.symm)).trans cB5
      have fB6 : w5.frozen? ⟨w1.heap.size, 0, none⟩ = false := (hgr5.frozen_far ⟨w1.heap.size, 0, none⟩ (by rw [size_alloc]; show w1.heap.size < _; omega) (fun e => HVB.out e.symm)).trans ((Below.frozen (p := ⟨w1.heap.size, 0, none⟩) ((Below.refl w4.heap.size w4).alloc (Nat.le_refl _) _) (by show w1.heap.size < _; omega)).trans fB4)
      have HO5 := Lib.hid hown5
      have HG5 := Lib.hid hgr5
      have HA5 := Lib.hid hat5
      clear hown5 hgr5 hat5
      refine hK _ _ ?_
      clear hK K
      refine wpAnyIn_ready (rs := [5]) (by kernel_rfl) (by simp) ?_
      refine AllReadyIn.cons (by rfl) (fun K hK => ?_) AllReadyIn.nil
      go_simp
      refine hK _ _ ?_
      clear hK K
      refine wpAnyIn_done (by kernel_rfl) ?_ _
      exact gath_more (by omega) (by omega) HA.out HO.out HG.out hnW HBL.out HBX.out HATX.out hgx1 hgx2 HO5.out HG5.out HA5.out
    refine AllReadyIn.cons (by rfl) (fun K hK => ?_) AllReadyIn.nil
    go_simp
    refine hK _ _ ?_
    clear hK K
    refine wpAnyIn_ready (rs := [0, 2]) (by kernel_rfl) (by simp) ?_
    refine AllReadyIn.cons (by rfl) (fun K hK => ?_) ?_
    · go_simp
      refine hK _ _ ?_
      clear hK K
      refine wpAnyIn_ready (rs := [2]) (by kernel_rfl) (by simp) ?_
      refine AllReadyIn.cons (by rfl) (fun K hK => ?_) AllReadyIn.nil
      go_simp
      refine ⟨trivial, ?_⟩
      refine (CallsIn.inRound lp (callsIn_wide.2 (clone_own _ _ _ x.l _ HOK.out.drew hxb hok3))).mono ?_
      rintro e w4 ⟨gx, cx, rfl, hbx, hcx, hgx1, hgx2, hbl, hatx⟩
      have cB4 : w4.cell? ⟨w1.heap.size, 0, none⟩ = some v := (hbl.cell (p := ⟨w1.heap.size, 0, none⟩) hBW).trans cB
      have cB5 : (w4.alloc (.cells #[.slice (some ⟨gx, 0, none⟩) x.l.length cx] 25)).cell? ⟨w1.heap.size, 0, none⟩ = some v := (Below.cell (p := ⟨w1.heap.size, 0, none⟩) ((Below.refl w4.heap.size w4).alloc (Nat.le_refl _) _) (by show w1.heap.size < _; have : W.heap.size ≤ w4.heap.size := hbl.size; omega)).trans cB4
      have fB4 : w4.frozen? ⟨w1.heap.size, 0, none⟩ = false := (hbl.frozen (p := ⟨w1.heap.size, 0, none⟩) hBW).trans fB
      have hsz4 : W.heap.size ≤ w4.heap.size := hbl.size
      have HBX := Lib.hid hbx
      have HBL := Lib.hid hbl
      have HATX := Lib.hid hatx
      clear hbx hbl hatx
      refine hK _ _ ?_
      clear hK K
      refine wpAnyIn_ready (rs := [3]) (by kernel_rfl) (by simp) ?_
      refine AllReadyIn.cons (by rfl) (fun K hK => ?_) AllReadyIn.nil
      go_simp
      refine hK _ _ ?_
      clear hK K
      refine wpAnyIn_ready (rs := [4]) (by kernel_rfl) (by simp) ?_
      refine AllReadyIn.cons (by rfl) (fun K hK => ?_) AllReadyIn.nil
      refine stepIn_append_lies _ (by rfl) _ _ _ (by rfl) w3.heap.size 25 i0 _ 1 24 Try.underlying28 HI0.out HZ0.out HZ1.out HZ2.out rfl (by omega) v pre.length (List.zipWith rowV (pre.map (·.l)) gs) (by rfl) ?_ ⟨w4.heap.size, 0, none⟩ 1 1 [.slice (some ⟨gx, 0, none⟩) x.l.length cx] (by rfl) (by rfl) (World.news_of_block (cs := #[.slice (some ⟨gx, 0, none⟩) x.l.length cx]) (t := 25) (fr := (0, 0)) (heap_alloc_last w4 _)) (by simp [Value.oneCell']) (by omega) (by have := max_big; omega) (by omega) (by rw [size_alloc]; omega) (w4.heap.size + 1) (by simp) ?_
      · have h := (OutAt.turned HO.out (only_trans (only_drew (World.grownBy.refl W none)) (only_below HBL.out none)) (fun r e => by cases e)).own
        rw [List.length_map] at h
        exact h.alloc _
      intro gn capn w5 hown5 hgr5 hat5 hlt5
      have cB6 : w5.cell? ⟨w1.heap.size, 0, none⟩ = some v := (hgr5.cell_far ⟨w1.heap.size, 0, none⟩ (by rw [size_alloc]; show w1.heap.size < _; omega) (fun e => HVB.out e.symm)).trans cB5
      have fB6 : w5.frozen? ⟨w1.heap.size, 0, none⟩ = false := (hgr5.frozen_far ⟨w1.heap.size, 0, none⟩ (by rw [size_alloc]; show w1.heap.size < _; omega) (fun e => HVB.out e.symm)).trans ((Below.frozen (p := ⟨w1.heap.size, 0, none⟩) ((Below.refl w4.heap.size w4).alloc (Nat.le_refl _) _) (by show w1.heap.size < _; omega)).trans fB4)
      have HO5 := Lib.hid hown5
      have HG5 := Lib.hid hgr5
      have HA5 := Lib.hid hat5
      clear hown5 hgr5 hat5
      refine hK _ _ ?_
      clear hK K
      refine wpAnyIn_ready (rs := [5]) (by kernel_rfl) (by simp) ?_
      refine AllReadyIn.cons (by rfl) (fun K hK => ?_) AllReadyIn.nil
      go_simp
      refine hK _ _ ?_
      clear hK K
      refine wpAnyIn_done (by kernel_rfl) ?_ _
      exact gath_more (by omega) (by omega) HA.out HO.out HG.out hnW HBL.out HBX.out HATX.out hgx1 hgx2 HO5.out HG5.out HA5.out
    refine AllReadyIn.cons (by rfl) (fun K hK => ?_) AllReadyIn.nil
    go_simp
    refine ⟨trivial, ?_⟩
    refine (CallsIn.inRound lp (callsIn_wide.2 (clone_own _ _ _ x.l _ HOK.out.drew hxb hok3))).mono ?_
    rintro e w4 ⟨gx, cx, rfl, hbx, hcx, hgx1, hgx2, hbl, hatx⟩
    have cB4 : w4.cell? ⟨w1.heap.size, 0, none⟩ = some v := (hbl.cell (p := ⟨w1.heap.size, 0, none⟩) hBW).trans cB
    have cB5 : (w4.alloc (.cells #[.slice (some ⟨gx, 0, none⟩) x.l.length cx] 25)).cell? ⟨w1.heap.size, 0, none⟩ = some v := (Below.cell (p := ⟨w1.heap.size, 0, none⟩) ((Below.refl w4.heap.size w4).alloc (Nat.le_refl _) _) (by show w1.heap.size < _; have : W.heap.size ≤ w4.heap.size := hbl.size; omega)).trans cB4
    have fB4 : w4.frozen? ⟨w1.heap.size, 0, none⟩ = false := (hbl.frozen (p := ⟨w1.heap.size, 0, none⟩) hBW).trans fB
    have hsz4 : W.heap.size ≤ w4.heap.size := hbl.size
    have HBX := Lib.hid hbx
    have HBL := Lib.hid hbl
    have HATX := Lib.hid hatx
    clear hbx hbl hatx
    refine hK _ _ ?_
    clear hK K
    refine wpAnyIn_ready (rs := [0, 3]) (by kernel_rfl) (by simp) ?_
    refine AllReadyIn.cons (by rfl) (fun K hK => ?_) ?_
    · go_simp
      refine hK _ _ ?_
      clear hK K
      refine wpAnyIn_ready (rs := [3]) (by kernel_rfl) (by simp) ?_
      refine AllReadyIn.cons (by rfl) (fun K hK => ?_) AllReadyIn.nil
      go_simp
      refine hK _ _ ?_
      clear hK K
      refine wpAnyIn_ready (rs := [4]) (by kernel_rfl) (by simp) ?_
      refine AllReadyIn.cons (by rfl) (fun K hK => ?_) AllReadyIn.nil
      refine stepIn_append_lies _ (by rfl) _ _ _ (by rfl) w3.heap.size 25 i0 _ 1 24 Try.underlying28 HI0.out HZ0.out HZ1.out HZ2.out rfl (by omega) v pre.length (List.zipWith rowV (pre.map (·.l)) gs) (by rfl) ?_ ⟨w4.heap.size, 0, none⟩ 1 1 [.slice (some ⟨gx, 0, none⟩) x.l.length cx] (by rfl) (by rfl) (World.news_of_block (cs := #[.slice (some ⟨gx, 0, none⟩) x.l.length cx]) (t := 25) (fr := (0, 0)) (heap_alloc_last w4 _)) (by simp [Value.oneCell']) (by omega) (by have := max_big; omega) (by omega) (by rw [size_alloc]; omega) (w4.heap.size + 1) (by simp) ?_
      · have h := (OutAt.turned HO.out (only_trans (only_drew (World.grownBy.refl W none)) (only_below HBL.out none)) (fun r e => by cases e)).own
        rw [List.length_map] at h
        exact h.alloc _
      intro gn capn w5 hown5 hgr5 hat5 hlt5
      have cB6 : w5.cell? ⟨w1.heap.size, 0, none⟩ = some v := (hgr5.cell_far ⟨w1.heap.size, 0, none⟩ (by rw [size_alloc]; show w1.heap.size < _; omega) (fun e => HVB.out e.symm)).trans cB5
      have fB6 : w5.frozen? ⟨w1.heap.size, 0, none⟩ = false := (hgr5.frozen_far ⟨w1.heap.size, 0, none⟩ (by rw [size_alloc]; show w1.heap.size < _; omega) (fun e => HVB.out e.symm)).trans ((Below.frozen (p := ⟨w1.heap.size, 0, none⟩) ((Below.refl w4.heap.size w4).alloc (Nat.le_refl _) _) (by show w1.heap.size < _; omega)).trans fB4)
      have HO5 := Lib.hid hown5
      have HG5 := Lib.hid hgr5
      have HA5 := Lib.hid hat5
      clear hown5 hgr5 hat5
      refine hK _ _ ?_
      clear hK K
      refine wpAnyIn_ready (rs := [5]) (by kernel_rfl) (by simp) ?_
      refine AllReadyIn.cons (by rfl) (fun K hK => ?_) AllReadyIn.nil
      go_simp
      refine hK _ _ ?_
      clear hK K
      refine wpAnyIn_done (by kernel_rfl) ?_ _
      exact gath_more (by omega) (by omega) HA.out HO.out HG.out hnW HBL.out HBX.out HATX.out hgx1 hgx2 HO5.out HG5.out HA5.out
    refine AllReadyIn.cons (by rfl) (fun K hK => ?_) AllReadyIn.nil
    go_simp
    refine hK _ _ ?_
    clear hK K
    refine wpAnyIn_ready (rs := [0]) (by kernel_rfl) (by simp) ?_
    refine AllReadyIn.cons (by rfl) (fun K hK => ?_) AllReadyIn.nil
    go_simp
    refine hK _ _ ?_
    clear hK K
    refine wpAnyIn_ready (rs := [4]) (by kernel_rfl) (by simp) ?_
    refine AllReadyIn.cons (by rfl) (fun K hK => ?_) AllReadyIn.nil
    refine stepIn_append_lies _ (by rfl) _ _ _ (by rfl) w3.heap.size 25 i0 _ 1 24 Try.underlying28 HI0.out HZ0.out HZ1.out HZ2.out rfl (by omega) v pre.length (List.zipWith rowV (pre.map (·.l)) gs) (by rfl) ?_ ⟨w4.heap.size, 0, none⟩ 1 1 [.slice (some ⟨gx, 0, none⟩) x.l.length cx] (by rfl) (by rfl) (World.news_of_block (cs := #[.slice (some ⟨gx, 0, none⟩) x.l.length cx]) (t := 25) (fr := (0, 0)) (heap_alloc_last w4 _)) (by simp [Value.oneCell']) (by omega) (by have := max_big; omega) (by omega) (by rw [size_alloc]; omega) (w4.heap.size + 1) (by simp) ?_
    · have h := (OutAt.turned HO.out (only_trans (only_drew (World.grownBy.refl W none)) (only_below HBL.out none)) (fun r e => by cases e)).own
      rw [List.length_map] at h
      exact h.alloc _
    intro gn capn w5 hown5 hgr5 hat5 hlt5
    have cB6 : w5.cell? ⟨w1.heap.size, 0, none⟩ = some v := (hgr5.cell_far ⟨w1.heap.size, 0, none⟩ (by rw [size_alloc]; show w1.heap.size < _; omega) (fun e => HVB.out e.symm)).trans cB5
    have fB6 : w5.frozen? ⟨w1.heap.size, 0, none⟩ = false := (hgr5.frozen_far ⟨w1.heap.size, 0, none⟩ (by rw [size_alloc]; show w1.heap.size < _; omega) (fun e => HVB.out e.symm)).trans ((Below.frozen (p := ⟨w1.heap.size, 0, none⟩) ((Below.refl w4.heap.size w4).alloc (Nat.le_refl _) _) (by show w1.heap.size < _; omega)).trans fB4)
    have HO5 := Lib.hid hown5
    have HG5 := Lib.hid hgr5
    have HA5 := Lib.hid hat5
    clear hown5 hgr5 hat5
    refine hK _ _ ?_
    clear hK K
    refine wpAnyIn_ready (rs := [5]) (by kernel_rfl) (by simp) ?_
    refine AllReadyIn.cons (by rfl) (fun K hK => ?_) AllReadyIn.nil
    go_simp
    refine hK _ _ ?_
    clear hK K
    refine wpAnyIn_done (by kernel_rfl) ?_ _
    exact gath_more (by omega) (by omega) HA.out HO.out HG.out hnW HBL.out HBX.out HATX.out hgx1 hgx2 HO5.out HG5.out HA5.out
  case done =>
    rintro D xs W hD hR ⟨v, gs, hAt, hOut, hgr, hnW⟩ hK
    have cB : W.cell? ⟨w1.heap.size, 0, none⟩ = some v := At.cell hAt 0
    have HK := Lib.hid hK
    have HR := Lib.hid hR
    have HO := Lib.hid hOut
    have HG := Lib.hid hgr
    have HA := Lib.hid hAt
    clear hK hR hOut hgr hAt
    go_wp2_with fail
    refine ⟨by simp, .inl ⟨_, _, rfl, run_takeDeferred HK.out, ?_⟩⟩
    refine ⟨_, results_tmp rfl _ _ _, ?_⟩
    obtain ⟨r, o, v', h1, h2, h3, h4⟩ := HR.out
    have hgK : W.grownBy (W.putObj D (.deferred none)) (some D) := grownBy_putObj' W D _
    have hsz := HSZ.out
    refine ⟨w3.heap.size, xs.map (·.l), r, o, v', v, gs, h1, rfl, HO.out.turned hgK (fun r e => .inr (by cases e; exact ⟨_, HK.out, rfl⟩)), at_turned h2 hgK (fun r e => .inr (by cases e; exact ⟨_, HK.out, rfl⟩)), ?_, ?_, grown_turned HG.out hgK (fun r e => .inr (by cases e; omega)), by omega, Nat.le_trans hnW hgK.size⟩
    · rcases h3 with h | ⟨b, oo, cc, hv, hc, hb, hbs⟩
      · exact .inl h
      · exact .inr ⟨b, oo, cc, hv, hc, hb, hbs.grown hgK (by omega) (by simp; omega)⟩
    · intro b oo cc e
      have := h4 b oo cc e
      omega
end Go.Proofs.Ytcnijcmddnacaaa.Chunk
