/- For ChunkPlays: an append inside a region that draws; a frame with several written blocks; the steps that come in. Conditions: lengths. -/
import Derived.Test.YtcnijcmddnacaaaChunkRefs
import Derived.Test.YtcnijcmddnacaaaChunkCutsLaw
import Derived.Deep.RegionHeld3
import Derived.Deep.CutRange
import Derived.Deep.LoopGhost
namespace Go.Proofs.Ytcnijcmddnacaaa.Chunk
open Go.RowKit Go.Shelf
set_option linter.unusedVariables false
theorem run_append_v (w : World) (ty base g cap n : Nat) (xs : List Nat) (hown : w.ownsRow base 5 1 (.slice (some ⟨g, 0, none⟩) n cap) n (u8L xs)) (v : Value) (l : List Nat) (hv : BytesV w w.heap.size v l) (hsum : n + l.length < 1000000000) (hbase : base ≤ w.heap.size) :
    ∃ g' cap' w', (Builtin.append_ #[25, 25] ty #[.slice (some ⟨g, 0, none⟩) n cap, v]).run Try.prog w = .ok (.slice (some ⟨g', 0, none⟩) (n + l.length) cap') w' ∧ w'.ownsRow base 5 1 (.slice (some ⟨g', 0, none⟩) (n + l.length) cap') (n + l.length) (u8L (xs ++ l)) ∧ w.grownBy w' (some g) := by
  obtain ⟨i0, hi0, hz0, hz1, hz2⟩ := info_parts info5
  rcases hv with ⟨rfl | ⟨ad, c, rfl⟩, rfl⟩ | ⟨b, o', c, rfl, hb, hbs⟩
  · exact ⟨g, cap, w, by simpa using run_append_owned_none (P := Try.prog) (w := w) base 25 ty 5 i0 1 Try.underlying25 hi0 _ n _ hown, by simpa using hown, World.grownBy.refl w _⟩
  · obtain ⟨v', w', hr, hown', hgrow, hnil⟩ := run_append_own (P := Try.prog) w base 25 ty 5 i0 _ 1 1 Try.underlying25 hi0 hz0 hz1 hz2 rfl (by omega) _ n _ hown ad 0 c [] rfl (by intro j u hu; simp at hu) (by simp) (by have := max_big; simp at hsum; omega) (by simp at hsum; omega) hbase
    obtain ⟨g', cap', rfl, _, _, _⟩ := own_form hown' (fun e => by have := hnil.1 e; simp at this)
    exact ⟨g', cap', w', by simpa using hr, by simpa using hown', hgrow⟩
  · obtain ⟨v', w', hr, hown', hgrow, hnil⟩ := run_append_own (P := Try.prog) w base 25 ty 5 i0 _ 1 1 Try.underlying25 hi0 hz0 hz1 hz2 rfl (by omega) _ n _ hown ⟨b, o', none⟩ l.length c (u8L l) (by rw [u8L_len, Nat.mul_one]) hbs.news (u8L_one _) (by have := max_big; omega) (by omega) hbase
    obtain ⟨g', cap', rfl, _, _, _⟩ := own_form hown' (fun e => by have := hnil.1 e; simp at this)
    refine ⟨g', cap', w', hr, ?_, hgrow⟩
    rw [show u8L (xs ++ l) = u8L xs ++ u8L l from by simp [u8L]]
    exact hown'
theorem step_append_v (w : World) {ops : Array Oper} {o : Oper} {a : Act} {K : Act → World → Prop} {Q : Exit → Act → World → Prop} {E : Prop} (hgd : o.guard = none) (s x : Operand)
    (ho : o.op = .call { callee := .builtin .append, args := #[s, x], argTypes := #[25, 25] }) (base g cap n : Nat) (xs : List Nat) (hs : a.eval s = .slice (some ⟨g, 0, none⟩) n cap)
    (hown : w.ownsRow base 5 1 (.slice (some ⟨g, 0, none⟩) n cap) n (u8L xs)) (v : Value) (l : List Nat) (hx : a.eval x = v) (hv : BytesV w w.heap.size v l) (hsum : n + l.length < 1000000000) (hbase : base ≤ w.heap.size)
    (h : ∀ g' cap' w', w'.ownsRow base 5 1 (.slice (some ⟨g', 0, none⟩) (n + l.length) cap') (n + l.length) (u8L (xs ++ l)) → w.grownBy w' (some g) → K (a.put o.dst (.slice (some ⟨g', 0, none⟩) (n + l.length) cap')) w') :
    if Region.wanted o (yielded ops a.tmps) = true then Oper.wp Try.prog o a w K Q else E := by
  have hw : Region.wanted o (yielded ops a.tmps) = true := by simp [Region.wanted, hgd]
  rw [if_pos hw]
  obtain ⟨g', cap', w', hr, h2, h3⟩ := run_append_v w o.type base g cap n xs hown v l hv hsum hbase
  unfold Oper.wp execOp
  simp only [ho, resolve, invoke, builtin, Sem.run_bind, Sem.run_pure, Result.andThen_ok, List.map_toArray, List.map_cons, List.map_nil, hs, hx, hr]
  exact h g' cap' w' h2 h3
/-- Blocks of G, and what is new, have turned. -/
structure Wrote (G : Nat → Prop) (A B : World) : Prop where
  os : B.os = A.os
  tape : B.tape = A.tape
  output : B.output = A.output
  size : A.heap.size ≤ B.heap.size
  block : ∀ b, b < A.heap.size → ¬ G b → B.heap[b]? = A.heap[b]?
theorem Wrote.refl (G : Nat → Prop) (A : World) : Wrote G A A := ⟨rfl, rfl, rfl, Nat.le_refl _, fun _ _ _ => rfl⟩
theorem Wrote.set {G : Nat → Prop} {A B : World} (h : Wrote G A B) {p : Addr} (hp : G p.block) (v : Value) : Wrote G A (B.setCell p v) :=
  ⟨h.os, h.tape, h.output, by simpa [World.setCell] using h.size, fun b hb hne => (heap_setCell_other B p b v (by rintro rfl; exact hne hp)).trans (h.block b hb hne)⟩
theorem Wrote.feed {G : Nat → Prop} {A B : World} {fb m : Nat} {a : Option Addr} {r : List Nat} {o : Bool} (h : FeedS A fb m a r o) (hw : Wrote G A B) (h1 : ¬ G fb) (h2 : ∀ p, a = some p → ¬ G p.block) : FeedS B fb m a r o := by
  obtain ⟨c, hF, hL, hne⟩ := h
  refine ⟨c, (hw.block fb hF.lt h1).trans hF, ?_, hne⟩
  rcases hL with h | ⟨b, oo, cc, hv, hc, hb, hbs⟩
  · exact .inl h
  · have ha : a = some ⟨b, oo, none⟩ := by cases hv; rfl
    exact .inr ⟨b, oo, cc, hv, hc, by have := hw.size; omega, ⟨fun i v hv => (World.cell?_of_block (a := ⟨b, oo + i, none⟩) (hw.block b hb (h2 _ ha))).trans (hbs.lies i v hv), hbs.small⟩⟩
theorem Wrote.bytes {G : Nat → Prop} {A B : World} {a : Option Addr} {n c : Nat} {l : List Nat} (h : BytesV A A.heap.size (.slice a n c) l) (hw : Wrote G A B) (h2 : ∀ p, a = some p → ¬ G p.block) : BytesV B B.heap.size (.slice a n c) l := by
  rcases h with h | ⟨b, o, c', h, hlt, hbs⟩
  · exact .inl h
  · have ha : a = some ⟨b, o, none⟩ := by cases h; rfl
    exact .inr ⟨b, o, c', h, by have := hw.size; omega, ⟨fun i v hv => (World.cell?_of_block (a := ⟨b, o + i, none⟩) (hw.block b hlt (h2 _ ha))).trans (hbs.lies i v hv), hbs.small⟩⟩
theorem Wrote.below {G : Nat → Prop} {w A B : World} (h : Below w.heap.size w A) (hw : Wrote G A B) (hG : ∀ b, G b → w.heap.size ≤ b) : Below w.heap.size w B :=
  ⟨hw.os.trans h.os, hw.tape.trans h.tape, hw.output.trans h.output, Nat.le_trans h.size hw.size, fun i hi => (hw.block i (by have := h.size; omega) (fun hg => by have := hG i hg; omega)).trans (h.block i hi)⟩
/-- A step that comes in. -/
structure StepV where
  v : Value
  l : List Nat
  set : Bool
  most : Int
/-- The steps that come in: a row of structs of three cells. -/
def StepsAt (w : World) (b o : Nat) (ss : List StepV) : Prop :=
  ∀ i s, ss[i]? = some s → w.cell? ⟨b, o + i * 3, none⟩ = some s.v ∧ w.cell? ⟨b, o + i * 3 + 1, none⟩ = some (.bool s.set) ∧ w.cell? ⟨b, o + i * 3 + 2, none⟩ = some (.int .i64 s.most) ∧ BytesV w w.heap.size s.v s.l ∧ s.l.length ≤ 140737488351232
theorem Feeds.tail {m : Nat} {l r : List Nat} {ms : List (List Nat)} {o : Bool} (h : Feeds m l ms r o) : l.drop (l.length - r.length) = r := by
  induction h with
  | short l h4 => simp
  | bad l h4 hb => simp
  | wait l h4 h7 hm hl => simp
  | take l ms r o h4 h7 hm hl hf ih =>
    have hs := hf.sizes
    rw [List.length_drop] at ih hs
    rw [List.drop_drop] at ih
    rw [show l.length - r.length = num4 l + (l.length - num4 l - r.length) by omega]
    exact ih
theorem Feeds.rest_le {m : Nat} {l r : List Nat} {ms : List (List Nat)} {o : Bool} (h : Feeds m l ms r o) : r.length ≤ l.length := by have := h.sizes; omega
/-- What holds at the head of the law's loop. -/
structure Head (w wr : World) (fb m : Nat) (fa la : Option Addr) (lc : Nat) (r : List Nat) (o : Bool) : Prop where
  feed : FeedS wr fb m fa r o
  left : BytesV wr wr.heap.size (.slice la r.length lc) r
  room : r.length ≤ lc
  nil : la = none → lc = 0
  most : lc ≤ maxLen
  lo : 7 ≤ m
  hi : m < 1000000000
  over : o = true → r = []
  apart : ∀ p, la = some p → p.block ≠ fb
  below : Below w.heap.size w wr
theorem Head.grow {w A B : World} {fb m : Nat} {fa la : Option Addr} {lc : Nat} {r : List Nat} {o : Bool} (h : Head w A fb m fa la lc r o) (hb : Below A.heap.size A B) : Head w B fb m fa la lc r o :=
  ⟨h.feed.below hb, h.left.below hb, h.room, h.nil, h.most, h.lo, h.hi, h.over, h.apart, h.below.trans (hb.mono h.below.size)⟩
/-- The feed's rest lies below the heap's end. -/
theorem FeedS.inside {w : World} {fb m : Nat} {a : Option Addr} {r : List Nat} {o : Bool} (h : FeedS w fb m a r o) : ∀ p, a = some p → p.block < w.heap.size := by
  obtain ⟨c, _, hL, _⟩ := h
  intro p hp
  rcases hL with ⟨h, _⟩ | ⟨b, oo, cc, hv, hc, hb, _⟩
  · injection h with h1; rw [h1] at hp; cases hp
  · injection hv with h1; rw [h1] at hp; cases hp; exact hb
/-- Behind Take. -/
structure Mid (w wx : World) (fb m : Nat) (fa1 : Option Addr) (r1 : List Nat) (o1 : Bool) (la : Option Addr) (lc : Nat) (r lb : List Nat) (o : Bool) (ao : Option Addr) (co : Nat) (ms : List (List Nat)) (gs : List (Nat × Nat)) (n₀ : Nat) : Prop where
  feed : FeedS wx fb m fa1 r1 o1
  out : OutAt wx n₀ (.slice ao ms.length co) ms gs
  fresh : ∀ p, fa1 = some p → p.block < n₀
  fbn : fb < n₀
  hi : n₀ ≤ wx.heap.size
  lo : w.heap.size ≤ n₀
  left : BytesV wx wx.heap.size (.slice la r.length lc) r
  below : Below w.heap.size w wx
  told0 : o = false → Feeds m (r ++ lb) ms r1 o1
  told1 : o = true → ms = [] ∧ r1 = [] ∧ o1 = true
theorem Mid.over {w A B : World} {fb m : Nat} {fa1 : Option Addr} {r1 : List Nat} {o1 : Bool} {la : Option Addr} {lc : Nat} {r lb : List Nat} {o : Bool} {ao : Option Addr} {co : Nat} {ms : List (List Nat)} {gs : List (Nat × Nat)} {n₀ g : Nat}
    (h : Mid w A fb m fa1 r1 o1 la lc r lb o ao co ms gs n₀) (hg : A.grownBy B (some g)) (hgn : g < n₀) (hw : w.heap.size ≤ g) (hfb : fb ≠ g) (hfa : ∀ p, fa1 = some p → p.block ≠ g) (hla : ∀ p, la = some p → r ≠ [] → p.block ≠ g) : Mid w B fb m fa1 r1 o1 la lc r lb o ao co ms gs n₀ := by
  refine ⟨h.feed.grown hg (fun e => hfb (by cases e; rfl)) (fun p hp e => hfa p hp (by cases e; rfl)), h.out.turned hg (fun r e => .inl (by cases e; exact hgn)), h.fresh, h.fbn, Nat.le_trans h.hi hg.size, h.lo, ?_, below_only h.below hg h.below.size hw, h.told0, h.told1⟩
  rcases h.left with hl | ⟨b, oo, cc, hv, hb, hbs⟩
  · exact .inl hl
  · by_cases hr : r = []
    · subst hr
      exact .inl ⟨.inr ⟨_, _, hv⟩, rfl⟩
    · exact .inr ⟨b, oo, cc, hv, by have := hg.size; omega, hbs.grown hg hb (fun e => hla ⟨b, oo, none⟩ (by cases hv; rfl) hr (by cases e; rfl))⟩
/-- Behind the reference's own reckoning. -/
structure Fin (w wx : World) (fb m : Nat) (fa1 : Option Addr) (r1 : List Nat) (o1 : Bool) (la : Option Addr) (lc : Nat) (ao : Option Addr) (co : Nat) (ms : List (List Nat)) (gs : List (Nat × Nat)) (n₀ : Nat) (aw : Option Addr) (cw : Nat) : Prop where
  feed : FeedS wx fb m fa1 r1 o1
  out : OutAt wx n₀ (.slice ao ms.length co) ms gs
  want : RowsV wx (.slice aw ms.length cw) ms
  fresh : ∀ p, fa1 = some p → p.block < n₀
  fbn : fb < n₀
  lo : w.heap.size ≤ n₀
  left : BytesV wx wx.heap.size (.slice la r1.length lc) r1
  room : r1.length ≤ lc
  nil : la = none → lc = 0
  most : lc ≤ maxLen
  apart : ∀ p, la = some p → p.block ≠ fb ∧ ∀ i, i < ms.length → p.block ≠ (gs.getD i (0, 0)).1
  below : Below w.heap.size w wx
  over : o1 = true → r1 = []
  few : ms.length < 1000000000
  each : ∀ y ∈ ms, y.length < 1000000000
/-- The messages' blocks. -/
def MB (ms : List (List Nat)) (gs : List (Nat × Nat)) (b : Nat) : Prop := ∃ i, i < ms.length ∧ b = (gs.getD i (0, 0)).1
/-- While the messages are written over. -/
structure Blot (A wr : World) (ms : List (List Nat)) (gs : List (Nat × Nat)) : Prop where
  wrote : Wrote (MB ms gs) A wr
  rows : ∀ i, i < ms.length → ∃ t cs, At wr (gs.getD i (0, 0)).1 t cs ∧ (ms.getD i []).length ≤ cs.size
theorem size_of_cells {w : World} {g : Nat} {t : TypeId} {cs : Array Value} {l : List Nat} (h : At w g t cs) (hb : BytesAt w g 0 l) : l.length ≤ cs.size := by
  rcases Nat.lt_or_ge cs.size l.length with hlt | hge
  · have h1 := hb.cell cs.size hlt
    rw [Nat.zero_add, h.cell] at h1
    simp at h1
  · exact hge
theorem Blot.start {w : World} {n₀ : Nat} {v : Value} {ms : List (List Nat)} {gs : List (Nat × Nat)} (h : OutAt w n₀ v ms gs) : Blot w w ms gs :=
  ⟨Wrote.refl _ _, fun i hi => by
    obtain ⟨h1, _, _, _, t, cs, h5⟩ := h.each i hi
    exact ⟨t, cs, h5, size_of_cells h5 h1⟩⟩
theorem Blot.put {A wr : World} {ms : List (List Nat)} {gs : List (Nat × Nat)} (h : Blot A wr ms gs) {k : Nat} (hk : k < ms.length) (i : Nat) (v : Value) : Blot A (wr.setCell ⟨(gs.getD k (0, 0)).1, i, none⟩ v) ms gs :=
  ⟨h.wrote.set ⟨k, hk, rfl⟩ v, fun j hj => by
    obtain ⟨t, cs, h1, h2⟩ := h.rows j hj
    by_cases he : (gs.getD j (0, 0)).1 = (gs.getD k (0, 0)).1
    · rw [he] at h1 ⊢
      exact ⟨t, _, h1.put i v, by simpa using h2⟩
    · exact ⟨t, cs, h1.far he v, h2⟩⟩
theorem FeedS.drewN' {w : World} {fb m : Nat} {a : Option Addr} {r : List Nat} {o : Bool} (h : FeedS w fb m a r o) (n : Nat) : FeedS (w.drewN n) fb m a r o := h.drewN n
theorem OutAt.below {A B : World} {n₀ : Nat} {v : Value} {ms : List (List Nat)} {gs : List (Nat × Nat)} (h : OutAt A n₀ v ms gs) (hb : Below A.heap.size A B) : OutAt B n₀ v ms gs :=
  h.turned (only_below hb none) (fun r e => by cases e)
theorem RowsV.below {A B : World} {v : Value} {ms : List (List Nat)} (h : RowsV A v ms) (hb : Below A.heap.size A B) : RowsV B v ms := by
  rcases h with h | ⟨g, c, h, hx⟩
  · exact .inl h
  · refine .inr ⟨g, c, h, fun i hi => ?_⟩
    obtain ⟨u, hu, hbv⟩ := hx i hi
    obtain ⟨ob, hob, _⟩ := cells_of_cell hu
    exact ⟨u, (hb.cell (p := ⟨g, i, none⟩) (Array.getElem?_eq_some_iff.1 hob).1).trans hu, hbv.below hb⟩
theorem Fin.grow {w A B : World} {fb m : Nat} {fa1 : Option Addr} {r1 : List Nat} {o1 : Bool} {la : Option Addr} {lc : Nat} {ao : Option Addr} {co : Nat} {ms : List (List Nat)} {gs : List (Nat × Nat)} {n₀ : Nat} {aw : Option Addr} {cw : Nat}
    (h : Fin w A fb m fa1 r1 o1 la lc ao co ms gs n₀ aw cw) (hb : Below A.heap.size A B) : Fin w B fb m fa1 r1 o1 la lc ao co ms gs n₀ aw cw :=
  ⟨h.feed.below hb, h.out.below hb, h.want.below hb, h.fresh, h.fbn, h.lo, h.left.below hb, h.room, h.nil, h.most, h.apart, h.below.trans (hb.mono h.below.size), h.over, h.few, h.each⟩
/-- Behind the messages' writing over: the loop's head again. -/
theorem Fin.head {w A B : World} {fb m : Nat} {fa1 : Option Addr} {r1 : List Nat} {o1 : Bool} {la : Option Addr} {lc : Nat} {ao : Option Addr} {co : Nat} {ms : List (List Nat)} {gs : List (Nat × Nat)} {n₀ : Nat} {aw : Option Addr} {cw : Nat}
    (h : Fin w A fb m fa1 r1 o1 la lc ao co ms gs n₀ aw cw) (hl : 7 ≤ m) (hm : m < 1000000000) (hb : Blot A B ms gs) : Head w B fb m fa1 la lc r1 o1 := by
  have hG : ∀ b, MB ms gs b → n₀ ≤ b := by
    rintro b ⟨i, hi, rfl⟩
    exact (h.out.each i hi).2.1
  refine ⟨Wrote.feed h.feed hb.wrote (fun hg => by have := hG _ hg; have := h.fbn; omega) (fun p hp hg => by have := hG _ hg; have := h.fresh p hp; omega), Wrote.bytes h.left hb.wrote (fun p hp hg => ?_), h.room, h.nil, h.most, hl, hm, h.over, fun p hp => (h.apart p hp).1, Wrote.below h.below hb.wrote (fun b hg => by have := hG _ hg; have := h.lo; omega)⟩
  obtain ⟨i, hi, he⟩ := hg
  exact (h.apart p hp).2 i hi he
theorem Mid.fin {w U C : World} {fb mm : Nat} {fa1 : Option Addr} {r1 : List Nat} {o1 : Bool} {la : Option Addr} {lc : Nat} {r lb : List Nat} {ao : Option Addr} {co : Nat} {ms : List (List Nat)} {gs : List (Nat × Nat)} {n₀ : Nat} {aw : Option Addr} {cw g off lc1 : Nat}
    (h : Mid w U fb mm fa1 r1 o1 la lc r lb false ao co ms gs n₀) (hb : Below U.heap.size U C) (hw : RowsV C (.slice aw ms.length cw) ms) (hlen : r.length + lb.length < 900000000) (hg : U.heap.size ≤ g)
    (hl : BytesV C C.heap.size (.slice (some ⟨g, off, none⟩) r1.length lc1) r1) (hroom : r1.length ≤ lc1) (hmost : lc1 ≤ maxLen) : Fin w C fb mm fa1 r1 o1 (some ⟨g, off, none⟩) lc1 ao co ms gs n₀ aw cw := by
  have hf := h.told0 rfl
  have hsz := hf.sizes
  rw [List.length_append] at hsz
  refine ⟨h.feed.below hb, h.out.below hb, hw, h.fresh, h.fbn, h.lo, hl, hroom, (fun e => by cases e), hmost, ?_, h.below.trans (hb.mono h.below.size), hf.over, by omega, fun y hy => by have := hf.each y hy; rw [List.length_append] at this; omega⟩
  intro p hp
  cases hp
  refine ⟨by have := h.feed.lt; show g ≠ fb; omega, fun i hi => ?_⟩
  have := (h.out.each i hi).2.2.1
  show g ≠ _
  omega
theorem Fin.drewN {w A : World} {fb m : Nat} {fa1 : Option Addr} {r1 : List Nat} {o1 : Bool} {la : Option Addr} {lc : Nat} {ao : Option Addr} {co : Nat} {ms : List (List Nat)} {gs : List (Nat × Nat)} {n₀ : Nat} {aw : Option Addr} {cw : Nat}
    (h : Fin w A fb m fa1 r1 o1 la lc ao co ms gs n₀ aw cw) (n : Nat) : Fin w (A.drewN n) fb m fa1 r1 o1 la lc ao co ms gs n₀ aw cw := h.grow (belowN (Below.refl _ _) n)
/-- The row's own cell while the messages are written over. -/
theorem Blot.row {A wr : World} {n₀ : Nat} {g0 n c : Nat} {ms : List (List Nat)} {gs : List (Nat × Nat)} (h : Blot A wr ms gs) (ho : OutAt A n₀ (.slice (some ⟨g0, 0, none⟩) n c) ms gs) (hg : g0 < A.heap.size) {i : Nat} (hi : i < ms.length) :
    wr.cell? ⟨g0, i, none⟩ = some (.slice (some ⟨(gs.getD i (0, 0)).1, 0, none⟩) (ms.getD i []).length (gs.getD i (0, 0)).2) :=
  (World.cell?_of_block (a := ⟨g0, i, none⟩) (h.wrote.block g0 hg (fun ⟨k, hk, he⟩ => (ho.each k hk).2.2.2.1 (by rw [← he]; rfl)))).trans (ho.elem rfl i hi)
end Go.Proofs.Ytcnijcmddnacaaa.Chunk
