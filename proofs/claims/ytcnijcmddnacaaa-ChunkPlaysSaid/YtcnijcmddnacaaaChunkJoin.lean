/- A row of messages joined to another one; what a cut row of bytes is. Conditions: lengths. -/
import Derived.Test.YtcnijcmddnacaaaChunkLists
namespace Go.Proofs.Ytcnijcmddnacaaa.Chunk
open Go.RowKit Go.Shelf
set_option linter.unusedVariables false
theorem getD_left {α : Type} (l m : List α) (d : α) (i : Nat) (h : i < l.length) : (l ++ m).getD i d = l.getD i d := by
  rw [List.getD_eq_getElem?_getD, List.getD_eq_getElem?_getD, List.getElem?_append_left h]
theorem getD_right {α : Type} (l m : List α) (d : α) (i : Nat) (h : l.length ≤ i) : (l ++ m).getD i d = m.getD (i - l.length) d := by
  rw [List.getD_eq_getElem?_getD, List.getD_eq_getElem?_getD, List.getElem?_append_right h]
/-- Two rows of messages joined in the first one's row, or a new one. -/
theorem OutAt.join {B C : World} {n₀ n₁ : Nat} {v v' : Value} {ms ms' : List (List Nat)} {gs gs' : List (Nat × Nat)} {g' cap : Nat} (h : OutAt B n₀ v ms gs) (h' : OutAt B n₁ v' ms' gs') (hn : n₀ ≤ n₁) (hsep : ∀ k, v.ownBlock = some k → k < n₁)
    (hgrow : B.grownBy C v.ownBlock) (hown : C.ownsRow n₀ 25 1 (.slice (some ⟨g', 0, none⟩) (ms.length + ms'.length) cap) (ms.length + ms'.length) (List.zipWith rowV ms gs ++ List.zipWith rowV ms' gs')) (hat : v.ownBlock = some g' ∨ B.heap.size ≤ g') (h0 : 0 < ms'.length) :
    OutAt C n₀ (.slice (some ⟨g', 0, none⟩) (ms.length + ms'.length) cap) (ms ++ ms') (gs ++ gs') := by
  have hl := h.len
  have hl' := h'.len
  refine ⟨by simp [hl, hl'], ?_, ?_, fun i hi => ?_⟩
  · rw [List.zipWith_append hl.symm, List.length_append]
    exact hown
  · constructor
    · intro e; cases e
    · intro e
      have := congrArg List.length e
      simp at this
      have : ms'.length = 0 := by rw [this.2]; rfl
      omega
  · have key : ∀ (gc : Nat × Nat) (x : List Nat), BytesAt B gc.1 0 x → gc.1 < B.heap.size → v.ownBlock ≠ some gc.1 → (∃ t cs, At B gc.1 t cs) → n₀ ≤ gc.1 →
        BytesAt C gc.1 0 x ∧ n₀ ≤ gc.1 ∧ gc.1 < C.heap.size ∧ (Value.slice (some ⟨g', 0, none⟩) (ms.length + ms'.length) cap).ownBlock ≠ some gc.1 ∧ ∃ t cs, At C gc.1 t cs := by
      rintro gc x hx hlt hne ⟨t, cs, hA⟩ hlo
      refine ⟨hx.grown hgrow hlt (fun e => hne e.symm), hlo, by have := hgrow.size; omega, ?_, t, cs, hA.grown hgrow (fun e => hne e.symm)⟩
      simp only [Value.ownBlock]
      intro e
      rcases hat with hat | hat
      · exact hne (by rw [hat]; exact e)
      · cases e; omega
    rw [List.length_append] at hi
    by_cases hlt : i < ms.length
    · obtain ⟨h1, h2, h3, h4, h5⟩ := h.each i hlt
      rw [getD_left _ _ _ _ hlt, getD_left _ _ _ _ (by omega)]
      exact key _ _ h1 h3 h4 h5 h2
    · obtain ⟨h1, h2, h3, h4, h5⟩ := h'.each (i - ms.length) (by omega)
      rw [getD_right _ _ _ _ (by omega), getD_right _ _ _ _ (by omega), hl]
      exact key _ _ h1 h3 (fun e => by have := hsep _ e; omega) h5 (by omega)
theorem info25' : (Try.prog.info? 25).map (fun i => (i.zero, i.size, i.bytes)) = some (some (.slice none 0 0), 1, 24) := by kernel_rfl
/-- append of a row of messages to another one. -/
theorem wpList_append_rows {ops : Array Oper} {rest : List Oper} {o : Oper} {a : Act} {w : World} {Q : Exit → Act → World → Prop} (hgd : o.guard = none) (s x : Operand)
    (ho : o.op = .call { callee := .builtin .append, args := #[s, x], argTypes := #[28, 28] }) (n₀ n₁ : Nat) (v v' : Value) (ms ms' : List (List Nat)) (gs gs' : List (Nat × Nat)) (hs : a.eval s = v) (hx : a.eval x = v')
    (h : OutAt w n₀ v ms gs) (h' : OutAt w n₁ v' ms' gs') (hsum : ms.length + ms'.length < 1000000000) (hbase : n₀ ≤ w.heap.size) (hn : n₀ ≤ n₁) (hsep : ∀ k, v.ownBlock = some k → k < n₁)
    (hK : ∀ a' c' w', OutAt w' n₀ (.slice a' (ms.length + ms'.length) c') (ms ++ ms') (gs ++ gs') → w.grownBy w' v.ownBlock → ((∃ g, a' = some ⟨g, 0, none⟩ ∧ w.heap.size ≤ g) ∨ (Value.slice a' (ms.length + ms'.length) c').ownBlock = v.ownBlock) → wpList Try.prog ops Q rest (a.put o.dst (.slice a' (ms.length + ms'.length) c')) w') :
    wpList Try.prog ops Q (o :: rest) a w := by
  obtain ⟨i0, hi0, hz0, hz1, hz2⟩ := info_parts info25'
  by_cases h0 : 0 < ms'.length
  · obtain ⟨a2, c2, rfl⟩ := h'.form
    obtain ⟨g2, rfl, _, _⟩ := h'.block h0
    refine wpList_append_lies w hgd s x 28 ho n₀ 25 i0 _ 1 24 Try.underlying28 hi0 hz0 hz1 hz2 rfl (by omega) v ms.length (List.zipWith rowV ms gs) hs h.own ⟨g2, 0, none⟩ ms'.length c2 (List.zipWith rowV ms' gs') hx (by rw [List.length_zipWith, h'.len]; omega) (fun j u hu => h'.own.cells rfl j u hu) ?_ h0 (by have := max_big; omega) (by omega) hbase w.heap.size rfl ?_
    · intro u hu
      obtain ⟨i, hi, rfl⟩ := List.getElem_of_mem hu
      rw [List.getElem_zipWith]; rfl
    · intro g cap w' hown hgr hat hlt
      have hj := h.join h' hn hsep hgr hown (by rcases hat with hat | hat; · exact .inl hat
                                                · exact .inr (by omega)) h0
      exact hK (some ⟨g, 0, none⟩) cap w' hj hgr (by
        rcases hat with hat | hat
        · exact .inr hat.symm
        · exact .inl ⟨g, rfl, by omega⟩)
  · obtain rfl : ms' = [] := List.eq_nil_of_length_eq_zero (by omega)
    obtain rfl : gs' = [] := List.eq_nil_of_length_eq_zero (by rw [h'.len]; rfl)
    obtain rfl := h'.nil.2 rfl
    obtain ⟨a2, c2, rfl⟩ := h.form
    refine wpList_append_own_none hgd s x 28 ho n₀ 25 i0 1 Try.underlying28 hi0 _ ms.length _ hs h.own hx ?_
    have := hK a2 c2 w (by simpa using h) (World.grownBy.refl w _) (.inr (by simp))
    simpa using this
/-- A row of bytes without its first ones. -/
theorem BytesV.cut {w : World} {n k c : Nat} {a : Option Addr} {l : List Nat} (h : BytesV w n (.slice a l.length c) l) (hk : k ≤ l.length) (hc : l.length ≤ c) (ha : a = none → c = 0) :
    BytesV w n (.slice (if c = k then a else a.map (·.add (k * 1))) (l.drop k).length (c - k)) (l.drop k) := by
  rw [List.length_drop]
  rcases h with ⟨h | ⟨ad, c', h⟩, rfl⟩ | ⟨b, o, c', h, hlt, hbs⟩
  · cases h
    obtain rfl : k = 0 := by simp at hk; omega
    exact .inl ⟨.inl rfl, rfl⟩
  · cases h
    obtain rfl : k = 0 := by simp at hk; omega
    refine .inl ⟨.inr ?_, rfl⟩
    by_cases h0 : c = 0
    · rw [if_pos h0]; exact ⟨ad, c - 0, rfl⟩
    · rw [if_neg h0]; exact ⟨ad.add (0 * 1), c - 0, rfl⟩
  · cases h
    by_cases h0 : c = k
    · rw [if_pos h0]
      have : l.drop k = [] := List.drop_eq_nil_of_le (by omega)
      rw [this]
      exact .inl ⟨.inr ⟨_, c - k, by rw [show l.length - k = 0 by omega]⟩, rfl⟩
    · rw [if_neg h0]
      refine .inr ⟨b, o + k, c - k, ?_, hlt, hbs.drop k⟩
      rw [List.length_drop, Option.map_some, add_plain, Nat.mul_one]
theorem BytesV.first {w : World} {n k c : Nat} {a : Option Addr} {l : List Nat} (h : BytesV w n (.slice a l.length c) l) (hk : k ≤ l.length) : BytesV w n (.slice a k c) (l.take k) := by
  have hl : (l.take k).length = k := by rw [List.length_take]; omega
  rcases h with ⟨h, rfl⟩ | ⟨b, o, c', h, hlt, hbs⟩
  · obtain rfl : k = 0 := by simp at hk; omega
    exact .inl ⟨h, rfl⟩
  · cases h
    exact .inr ⟨b, o, c, by rw [hl], hlt, hbs.take k⟩
end Go.Proofs.Ytcnijcmddnacaaa.Chunk
