/- slices.Concat of two slices of bytes: a new slice with both, one behind the other. Conditions: fewer than 10^9 bytes in all, at least one (concat_any), or however many (concat_all). -/
import Derived.Test.YtcnijcmddnacaaaChunkGrow
import Derived.Laws.AppendOwnNone
namespace Go.Proofs.Ytcnijcmddnacaaa.Chunk
open Go.RowKit
set_option linter.unusedVariables false
/-- Bytes as a value: nil, an empty slice wherever it points, or a slice that lies somewhere below n. -/
def BytesV (w : World) (n : Nat) (v : Value) (l : List Nat) : Prop :=
  ((v = .slice none 0 0 ∨ ∃ a c, v = .slice (some a) 0 c) ∧ l = []) ∨ ∃ b o c, v = .slice (some ⟨b, o, none⟩) l.length c ∧ b < n ∧ BytesAt w b o l
theorem BytesV.form {w : World} {n : Nat} {v : Value} {l : List Nat} (h : BytesV w n v l) : ∃ a c, v = .slice a l.length c := by
  rcases h with ⟨rfl | ⟨a, c, rfl⟩, rfl⟩ | ⟨b, o, c, rfl, _⟩
  · exact ⟨none, 0, rfl⟩
  · exact ⟨_, c, rfl⟩
  · exact ⟨_, c, rfl⟩
theorem BytesV.small {w : World} {n : Nat} {v : Value} {l : List Nat} (h : BytesV w n v l) : bytes l := by
  rcases h with ⟨_, rfl⟩ | ⟨b, o, c, rfl, _, hb⟩
  · intro x hx; cases hx
  · exact hb.small
theorem wpList_append_v {ops : Array Oper} {rest : List Oper} {o : Oper} {a : Act} {w : World} {Q : Exit → Act → World → Prop} (hgd : o.guard = none) (s x : Operand)
    (ho : o.op = .call { callee := .builtin .append, args := #[s, x], argTypes := #[25, 25] }) (base g cap n : Nat) (xs : List Nat) (hs : a.eval s = .slice (some ⟨g, 0, none⟩) n cap)
    (hown : w.ownsRow base 5 1 (.slice (some ⟨g, 0, none⟩) n cap) n (u8L xs)) (v : Value) (l : List Nat) (hx : a.eval x = v) (hv : BytesV w w.heap.size v l) (hsum : n + l.length < 1000000000) (hbase : base ≤ w.heap.size)
    (h : ∀ g' cap' w', w'.ownsRow base 5 1 (.slice (some ⟨g', 0, none⟩) (n + l.length) cap') (n + l.length) (u8L (xs ++ l)) → w.grownBy w' (some g) → wpList Try.prog ops Q rest (a.put o.dst (.slice (some ⟨g', 0, none⟩) (n + l.length) cap')) w') :
    wpList Try.prog ops Q (o :: rest) a w := by
  obtain ⟨i0, hi0, hz0, hz1, hz2⟩ := info_parts info5
  rcases hv with ⟨rfl | ⟨ad, c, rfl⟩, rfl⟩ | ⟨b, o', c, rfl, hb, hbs⟩
  · refine wpList_append_own_none hgd s x 25 ho base 5 i0 1 Try.underlying25 hi0 _ n _ hs hown hx ?_
    have := h g cap w (by simpa using hown) (World.grownBy.refl w _)
    simpa using this
  · refine wpList_append_own w hgd s x 25 ho base 5 i0 _ 1 1 Try.underlying25 hi0 hz0 hz1 hz2 rfl (by omega) _ n _ hs hown ad 0 c [] hx rfl (by intro j u hu; simp at hu) (by simp) (by have := max_big; simp at hsum; omega) (by simp at hsum; omega) hbase ?_
    intro v' w' hown' hgrow hnil
    obtain ⟨g', cap', rfl, _, _, _⟩ := own_form hown' (fun e => by have := hnil.1 e; simp at this)
    have := h g' cap' w' (by simpa using hown') hgrow
    simpa using this
  · refine wpList_append_own w hgd s x 25 ho base 5 i0 _ 1 1 Try.underlying25 hi0 hz0 hz1 hz2 rfl (by omega) _ n _ hs hown ⟨b, o', none⟩ l.length c (u8L l) hx (by rw [u8L_len, Nat.mul_one]) hbs.news (u8L_one _) (by have := max_big; omega) (by omega) hbase ?_
    intro v' w' hown' hgrow hnil
    obtain ⟨g', cap', rfl, _, _, _⟩ := own_form hown' (fun e => by have := hnil.1 e; simp at this)
    refine h g' cap' w' ?_ hgrow
    rw [show u8L (xs ++ l) = u8L xs ++ u8L l from by simp [u8L]]
    exact hown'
set_option maxRecDepth 100000 in
set_option maxHeartbeats 2000000 in
theorem concat_any (B : Nat) (v1 v2 : Value) (l1 l2 : List Nat) (w : World) (hB : At w B 25 #[v1, v2]) (h1 : BytesV w w.heap.size v1 l1) (h2 : BytesV w w.heap.size v2 l2) (hn : l1.length + l2.length < 900000000) (h0 : 0 < l1.length + l2.length) :
    Calls Try.prog 25 #[.slice (some ⟨B, 0, none⟩) 2 2] w fun e w' => ∃ g c, e = .returned (.slice (some ⟨g, 0, none⟩) (l1 ++ l2).length c) ∧ BytesAt w' g 0 (l1 ++ l2) ∧ (l1 ++ l2).length ≤ c ∧ w.heap.size ≤ g ∧ g < w'.heap.size ∧ Below w.heap.size w w' := by
  have cB0 : w.cell? ⟨B, 0, none⟩ = some v1 := At.cell hB 0
  have cB1 : w.cell? ⟨B, 1, none⟩ = some v2 := At.cell hB 1
  have hBlt := hB.lt
  obtain ⟨a1, c1, rfl⟩ := h1.form
  obtain ⟨a2, c2, rfl⟩ := h2.form
  have H1 := Lib.hid h1
  have H2 := Lib.hid h2
  have HB := Lib.hid hB
  clear h1 h2 hB
  go_enter Try.func25, Try.ntmps25
  go_wp2_with fail
  generalize hn1 : l1.length = n1 at *
  generalize hn2 : l2.length = n2 at *
  have HN1 := Lib.hid hn1
  have HN2 := Lib.hid hn2
  clear hn1 hn2
  go_loopw [3, 5, 11] (fun s _ i wr => w = wr ∧ ((i = .int .i64 0 ∧ s = .int .i64 0) ∨ (i = .int .i64 1 ∧ s = .int .i64 (n1 : Nat)) ∨ (i = .int .i64 2 ∧ s = .int .i64 ((n1 + n2 : Nat) : Int)))) (fun _ _ i _ => 2 - (intOf i).toNat)
  case atStart => exact ⟨rfl, .inl ⟨rfl, rfl⟩⟩
  case round =>
    obtain ⟨rfl, h⟩ := hrel
    rcases h with ⟨rfl, rfl⟩ | ⟨rfl, rfl⟩ | ⟨rfl, rfl⟩
    · go_wp2_with fail
      go_roundw
      case rel => exact ⟨by first | exact trivial | rfl, .inr (.inl ⟨by first | rfl | simp, by first | rfl | simp⟩)⟩
      case measure => simp [intOf]
    · go_wp2_with fail
      go_roundw
      case rel => exact ⟨by first | exact trivial | rfl, .inr (.inr ⟨by first | rfl | simp, by first | rfl | (push_cast; rfl)⟩)⟩
      case measure => simp [intOf]
    · go_wp2_with fail
      refine (grow_any (n1 + n2) w h0 (by omega)).mono ?_
      rintro e w1 ⟨c3, rfl, hc3, hown, hb⟩
      have HO := Lib.hid hown
      have HX := Lib.hid hb
      clear hown hb
      go_wp2_with fail
      go_loopw [6, 8, 27] (fun s _ i wr => Below w.heap.size w wr ∧ ∃ g c n, s = .slice (some ⟨g, 0, none⟩) n c ∧ ((i = .int .i64 0 ∧ n = 0 ∧ wr.ownsRow w.heap.size 5 1 s n (u8L [])) ∨ (i = .int .i64 1 ∧ n = l1.length ∧ wr.ownsRow w.heap.size 5 1 s n (u8L l1)) ∨ (i = .int .i64 2 ∧ n = (l1 ++ l2).length ∧ wr.ownsRow w.heap.size 5 1 s n (u8L (l1 ++ l2))))) (fun _ _ i _ => 2 - (intOf i).toNat)
      case atStart => exact ⟨HX.out, w.heap.size, c3, 0, rfl, .inl ⟨rfl, rfl, HO.out⟩⟩
      case round =>
        obtain ⟨hb, g, c, n, rfl, h⟩ := hrel
        have cB0 := (hb.cell (p := ⟨B, 0, none⟩) hBlt).trans cB0
        have cB1 := (hb.cell (p := ⟨B, 1, none⟩) hBlt).trans cB1
        have hsz := hb.size
        have HBL := Lib.hid hb
        have lift : ∀ v l, BytesV w w.heap.size v l → BytesV wr wr.heap.size v l := fun v l hv => by
          rcases hv with h | ⟨b, o, c, h, hlt, hbs⟩
          · exact .inl h
          · exact .inr ⟨b, o, c, h, by omega, hbs.below HBL.out hlt⟩
        have V1 := Lib.hid (lift _ _ H1.out)
        have V2 := Lib.hid (lift _ _ H2.out)
        have HSZ := Lib.hid (show n1 + n2 < 1000000000 by omega)
        clear hb lift
        rcases h with ⟨rfl, rfl, ho⟩ | ⟨rfl, hn', ho⟩ | ⟨rfl, hn', ho⟩
        · have HOW := Lib.hid ho
          clear ho
          go_wp2_with (at_builtin; refine wpList_append_v rfl _ _ rfl w.heap.size g c 0 [] rfl HOW.out _ l1 rfl V1.out (by rw [HN1.out]; omega) hsz ?_)
          intro g' cap' w' hown' hgr
          have hb' : Below w.heap.size w w' := HBL.out.grown hgr hsz (fun r e => by cases e; exact (HOW.out.lt g rfl).1)
          have HO' := Lib.hid hown'
          have HB' := Lib.hid hb'
          clear hown' hb' hgr
          go_wp2_with fail
          go_roundw
          case rel => exact ⟨HB'.out, g', cap', l1.length, rfl, .inr (.inl ⟨by first | rfl | simp, rfl, HO'.out⟩)⟩
          case measure => simp [intOf]
        · have HOW := Lib.hid ho
          have HNN := Lib.hid hn'
          clear ho hn'
          go_wp2_with (at_builtin; refine wpList_append_v rfl _ _ rfl w.heap.size g c n l1 rfl HOW.out _ l2 rfl V2.out (by rw [HNN.out, HN1.out, HN2.out]; exact HSZ.out) hsz ?_)
          intro g' cap' w' hown' hgr
          have hb' : Below w.heap.size w w' := HBL.out.grown hgr hsz (fun r e => by cases e; exact (HOW.out.lt g rfl).1)
          have HO' := Lib.hid hown'
          have HB' := Lib.hid hb'
          clear hown' hb' hgr
          go_wp2_with fail
          go_roundw
          case rel => exact ⟨HB'.out, g', cap', n + l2.length, rfl, .inr (.inr ⟨by first | rfl | simp, by rw [HNN.out, List.length_append], HO'.out⟩)⟩
          case measure => simp [intOf]
        · have HOW := Lib.hid ho
          have hs12 : bytes (l1 ++ l2) := bytes_app H1.out.small H2.out.small
          have HSM := Lib.hid hs12
          obtain ⟨g', cap', hv, hbg, hlt', hcap⟩ := own_form ho (by intro e; simp at e)
          have HC := Lib.hid (show n ≤ c by simp at hv; omega)
          clear ho hs12 hv hcap
          subst hn'
          go_wp2_with fail
          go_ret
          exact ⟨g, c, rfl, BytesAt.of_own HOW.out HSM.out, HC.out, (HOW.out.lt g rfl).1, (HOW.out.lt g rfl).2, HBL.out⟩
theorem grow_zero (w : World) :
    Calls Try.prog 34 #[.slice none 0 0, .int .i64 0] w fun e w' => e = .returned (.slice none 0 0) ∧ w = w' := by
  go_enter Try.func34, Try.ntmps34
  go_wp2_with fail
  go_ret
  exact ⟨rfl, rfl⟩
theorem wpList_append_v0 {ops : Array Oper} {rest : List Oper} {o : Oper} {a : Act} {w : World} {Q : Exit → Act → World → Prop} (hgd : o.guard = none) (s x : Operand)
    (ho : o.op = .call { callee := .builtin .append, args := #[s, x], argTypes := #[25, 25] }) (base : Nat) (hs : a.eval s = .slice none 0 0)
    (v : Value) (hx : a.eval x = v) (hv : BytesV w w.heap.size v []) (hbase : base ≤ w.heap.size)
    (h : ∀ w', w.grownBy w' none → wpList Try.prog ops Q rest (a.put o.dst (.slice none 0 0)) w') :
    wpList Try.prog ops Q (o :: rest) a w := by
  obtain ⟨i0, hi0, hz0, hz1, hz2⟩ := info_parts info5
  rcases hv with ⟨rfl | ⟨ad, c, rfl⟩, _⟩ | ⟨b, o', c, rfl, hb, hbs⟩
  · refine wpList_append_own_none hgd s x 25 ho base 5 i0 1 Try.underlying25 hi0 _ 0 [] hs (World.ownsRow_nil _ _ _ _) hx ?_
    exact h w (World.grownBy.refl w _)
  · refine wpList_append_own w hgd s x 25 ho base 5 i0 _ 1 1 Try.underlying25 hi0 hz0 hz1 hz2 rfl (by omega) _ 0 [] hs (World.ownsRow_nil _ _ _ _) ad 0 c [] hx rfl (by intro j u hu; simp at hu) (by simp) (by decide) (by omega) hbase ?_
    intro v' w' hown' hgrow hnil
    have := hnil.2 ⟨rfl, rfl⟩
    subst this
    exact h w' hgrow
  · refine wpList_append_own w hgd s x 25 ho base 5 i0 _ 1 1 Try.underlying25 hi0 hz0 hz1 hz2 rfl (by omega) _ 0 [] hs (World.ownsRow_nil _ _ _ _) ⟨b, o', none⟩ 0 c [] hx rfl (by intro j u hu; simp at hu) (by simp) (by decide) (by omega) hbase ?_
    intro v' w' hown' hgrow hnil
    have := hnil.2 ⟨rfl, rfl⟩
    subst this
    exact h w' hgrow
set_option maxRecDepth 100000 in
set_option maxHeartbeats 2000000 in
theorem concat_nil (B : Nat) (v1 v2 : Value) (w : World) (hB : At w B 25 #[v1, v2]) (h1 : BytesV w w.heap.size v1 []) (h2 : BytesV w w.heap.size v2 []) :
    Calls Try.prog 25 #[.slice (some ⟨B, 0, none⟩) 2 2] w fun e w' => e = .returned (.slice none 0 0) ∧ Below w.heap.size w w' := by
  have cB0 : w.cell? ⟨B, 0, none⟩ = some v1 := At.cell hB 0
  have cB1 : w.cell? ⟨B, 1, none⟩ = some v2 := At.cell hB 1
  have hBlt := hB.lt
  obtain ⟨a1, c1, rfl⟩ : ∃ a c, v1 = .slice a 0 c := h1.form
  obtain ⟨a2, c2, rfl⟩ : ∃ a c, v2 = .slice a 0 c := h2.form
  have H1 := Lib.hid h1
  have H2 := Lib.hid h2
  have HB := Lib.hid hB
  clear h1 h2 hB
  go_enter Try.func25, Try.ntmps25
  go_wp2_with fail
  go_loopw [3, 5, 11] (fun s _ i wr => w = wr ∧ s = .int .i64 0 ∧ (i = .int .i64 0 ∨ i = .int .i64 1 ∨ i = .int .i64 2)) (fun _ _ i _ => 2 - (intOf i).toNat)
  case atStart => exact ⟨rfl, rfl, .inl rfl⟩
  case round =>
    obtain ⟨rfl, rfl, h⟩ := hrel
    rcases h with rfl | rfl | rfl
    · go_wp2_with fail
      go_roundw
      case rel => exact ⟨by first | exact trivial | rfl, by first | rfl | simp, .inr (.inl rfl)⟩
      case measure => simp [intOf]
    · go_wp2_with fail
      go_roundw
      case rel => exact ⟨by first | exact trivial | rfl, by first | rfl | simp, .inr (.inr rfl)⟩
      case measure => simp [intOf]
    · go_wp2_with fail
      refine (grow_zero w).mono ?_
      rintro e w1 ⟨rfl, rfl⟩
      go_wp2_with fail
      go_loopw [6, 8, 27] (fun s _ i wr => Below w.heap.size w wr ∧ s = .slice none 0 0 ∧ (i = .int .i64 0 ∨ i = .int .i64 1 ∨ i = .int .i64 2)) (fun _ _ i _ => 2 - (intOf i).toNat)
      case atStart => exact ⟨Below.refl _ _, rfl, .inl rfl⟩
      case round =>
        obtain ⟨hb, rfl, h⟩ := hrel
        have cB0 := (hb.cell (p := ⟨B, 0, none⟩) hBlt).trans cB0
        have cB1 := (hb.cell (p := ⟨B, 1, none⟩) hBlt).trans cB1
        have hsz := hb.size
        have HBL := Lib.hid hb
        have lift : ∀ v l, BytesV w w.heap.size v l → BytesV wr wr.heap.size v l := fun v l hv => by
          rcases hv with h | ⟨b, o, c, h, hlt, hbs⟩
          · exact .inl h
          · exact .inr ⟨b, o, c, h, by omega, hbs.below HBL.out hlt⟩
        have V1 := Lib.hid (lift _ _ H1.out)
        have V2 := Lib.hid (lift _ _ H2.out)
        clear hb lift
        rcases h with rfl | rfl | rfl
        · go_wp2_with (at_builtin; refine wpList_append_v0 rfl _ _ rfl w.heap.size rfl _ rfl V1.out hsz ?_)
          intro w' hgr
          have HB' := Lib.hid (HBL.out.grown hgr hsz (fun r e => by cases e))
          clear hgr
          go_wp2_with fail
          go_roundw
          case rel => exact ⟨HB'.out, rfl, .inr (.inl rfl)⟩
          case measure => simp [intOf]
        · go_wp2_with (at_builtin; refine wpList_append_v0 rfl _ _ rfl w.heap.size rfl _ rfl V2.out hsz ?_)
          intro w' hgr
          have HB' := Lib.hid (HBL.out.grown hgr hsz (fun r e => by cases e))
          clear hgr
          go_wp2_with fail
          go_roundw
          case rel => exact ⟨HB'.out, rfl, .inr (.inr rfl)⟩
          case measure => simp [intOf]
        · go_wp2_with fail
          go_ret
          exact ⟨rfl, HBL.out⟩
theorem concat_all (B : Nat) (v1 v2 : Value) (l1 l2 : List Nat) (w : World) (hB : At w B 25 #[v1, v2]) (h1 : BytesV w w.heap.size v1 l1) (h2 : BytesV w w.heap.size v2 l2) (hn : l1.length + l2.length < 900000000) :
    Calls Try.prog 25 #[.slice (some ⟨B, 0, none⟩) 2 2] w fun e w' => ∃ a c, e = .returned (.slice a (l1.length + l2.length) c) ∧ Below w.heap.size w w' ∧
      ((a = none ∧ c = 0 ∧ l1 ++ l2 = []) ∨ ∃ g, a = some ⟨g, 0, none⟩ ∧ BytesAt w' g 0 (l1 ++ l2) ∧ l1.length + l2.length ≤ c ∧ w.heap.size ≤ g ∧ g < w'.heap.size) := by
  by_cases h0 : 0 < l1.length + l2.length
  · refine (concat_any B v1 v2 l1 l2 w hB h1 h2 hn h0).mono ?_
    rintro e w' ⟨g, c, rfl, hbs, hc, hg, hg1, hb⟩
    rw [List.length_append] at hc
    exact ⟨_, c, by rw [List.length_append], hb, .inr ⟨g, rfl, hbs, hc, hg, hg1⟩⟩
  · obtain rfl : l1 = [] := List.eq_nil_of_length_eq_zero (by omega)
    obtain rfl : l2 = [] := List.eq_nil_of_length_eq_zero (by omega)
    refine (concat_nil B v1 v2 w hB h1 h2).mono ?_
    rintro e w' ⟨rfl, hb⟩
    exact ⟨none, 0, rfl, hb, .inl ⟨rfl, rfl, rfl⟩⟩
end Go.Proofs.Ytcnijcmddnacaaa.Chunk
