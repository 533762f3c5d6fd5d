/- A feed as it lies in memory, and what its functions answer of it, in plain words. Conditions: fewer than 9 * 10^8 bytes are at hand. -/
import Derived.Test.YtcnijcmddnacaaaChunkNext
import Derived.Test.YtcnijcmddnacaaaChunkPlain
namespace Go.Proofs.Ytcnijcmddnacaaa.Chunk
open Go.RowKit Go.Shelf
set_option linter.unusedVariables false
/-- A feed: its greatest message, where its rest lies, its rest, whether it is over. -/
def FeedS (w : World) (fb m : Nat) (a : Option Addr) (r : List Nat) (o : Bool) : Prop :=
  ∃ c, FeedAt w fb m (.slice a r.length c) o ∧ LeftAt w.heap.size w (.slice a r.length c) r ∧ ∀ b, a = some b → b.block ≠ fb
section
variable {w w' : World} {fb m : Nat} {a : Option Addr} {r : List Nat} {o : Bool}
theorem FeedS.lt (h : FeedS w fb m a r o) : fb < w.heap.size := by
  obtain ⟨c, h1, _⟩ := h
  exact At.lt h1
theorem FeedS.grown {row : Option Nat} (h : FeedS w fb m a r o) (hg : w.grownBy w' row) (h1 : some fb ≠ row) (h2 : ∀ b, a = some b → some b.block ≠ row) : FeedS w' fb m a r o := by
  obtain ⟨c, hF, hL, hne⟩ := h
  refine ⟨c, At.grown hF hg h1, ?_, hne⟩
  rcases hL with h | ⟨b, oo, cc, hv, hc, hb, hbs⟩
  · exact .inl h
  · have ha : a = some ⟨b, oo, none⟩ := by cases hv; rfl
    exact .inr ⟨b, oo, cc, hv, hc, by have := hg.size; omega, hbs.grown hg hb (h2 _ ha)⟩
theorem FeedS.below (h : FeedS w fb m a r o) (hb : Below w.heap.size w w') : FeedS w' fb m a r o :=
  h.grown (only_below hb none) (by simp) (fun b _ => by simp)
theorem FeedS.alloc (h : FeedS w fb m a r o) (x : Obj) : FeedS (w.alloc x) fb m a r o := h.below ((Below.refl _ _).alloc (Nat.le_refl _) _)
theorem FeedS.bytes (h : FeedS w fb m a r o) : bytes r := by
  obtain ⟨c, hF, hL, hne⟩ := h
  rcases hL with ⟨_, rfl⟩ | ⟨b, oo, cc, hv, hc, hb, hbs⟩
  · intro x hx; cases hx
  · exact hbs.small
end
theorem OutAt.form {w : World} {n₀ : Nat} {v : Value} {ms : List (List Nat)} {gs : List (Nat × Nat)} (h : OutAt w n₀ v ms gs) : ∃ a c, v = .slice a ms.length c := by
  rcases h.own.2 with ⟨rfl, hn⟩ | ⟨g, cap, cur, rfl, _⟩
  · exact ⟨none, 0, by rw [hn]⟩
  · exact ⟨_, cap, rfl⟩
/-- What a Take leaves. -/
structure Took (w w' : World) (fb m : Nat) (n₀ : Nat) (ao : Option Addr) (co : Nat) (gs : List (Nat × Nat)) (a' : Option Addr) (ms : List (List Nat)) (r : List Nat) (o : Bool) : Prop where
  out : OutAt w' n₀ (.slice ao ms.length co) ms gs
  feed : FeedS w' fb m a' r o
  fresh : ∀ b, a' = some b → w.heap.size ≤ b.block ∧ b.block < n₀
  grown : w.grownBy w' (some fb)
  lo : w.heap.size ≤ n₀
  hi : n₀ ≤ w'.heap.size
theorem take_feed (fb m : Nat) (a : Option Addr) (v2 : Value) (l l2 ms r) (o : Bool) (w : World) (hF : FeedS w fb m a l false) (h2 : BytesV w w.heap.size v2 l2)
    (hm : m < 1000000000) (hn : l.length + l2.length < 900000000) (hf : Feeds m (l ++ l2) ms r o) :
    Calls Try.prog 13 #[.pointer (some ⟨fb, 0, none⟩), v2] w fun e w' => ∃ n₀ ao co gs a', e = .returned (.slice ao ms.length co) ∧ Took w w' fb m n₀ ao co gs a' ms r o := by
  obtain ⟨c, hA, hL, hne⟩ := hF
  refine (take_any fb m _ v2 l l2 w hA hL h2 (fun b o c h => by cases h; exact hne _ rfl) hm hn).mono ?_
  rintro e w' ⟨n₀, ms', r', o', v, vo, gs, h1, rfl, h3, h4, h5, h6, h7, h8, h9⟩
  obtain ⟨rfl, rfl, rfl⟩ := hf.det h1
  obtain ⟨ao, co, rfl⟩ := h3.form
  have hv : ∃ a' c', v = .slice a' r.length c' := by
    rcases h5 with ⟨rfl, rfl⟩ | ⟨b, oo, cc, rfl, _⟩
    · exact ⟨none, 0, rfl⟩
    · exact ⟨_, cc, rfl⟩
  obtain ⟨a', c', rfl⟩ := hv
  have hfb := hA.lt
  have hfr : ∀ b, a' = some b → w.heap.size ≤ b.block ∧ b.block < n₀ := by
    intro b hb
    subst hb
    rcases h5 with ⟨h, _⟩ | ⟨b', oo, cc, hv, hc, hb', hbs⟩
    · cases h
    · cases hv
      exact ⟨h6 _ _ _ rfl, hb'⟩
  refine ⟨n₀, ao, co, gs, a', rfl, h3, ⟨c', h4, ?_, fun b hb => ?_⟩, hfr, h7, h8, h9⟩
  · rcases h5 with h | ⟨b', oo, cc, hv, hc, hb', hbs⟩
    · exact .inl h
    · exact .inr ⟨b', oo, cc, hv, hc, by omega, hbs⟩
  · have := (hfr b hb).1
    have := At.lt hA
    omega
theorem take_shut (fb m : Nat) (a : Option Addr) (v2 : Value) (l : List Nat) (w : World) (hF : FeedS w fb m a l true) :
    Calls Try.prog 13 #[.pointer (some ⟨fb, 0, none⟩), v2] w fun e w' => e = .returned (.slice none 0 0) ∧ w = w' := by
  obtain ⟨c, hA, _⟩ := hF
  exact take_over fb m _ v2 w hA
theorem next_feed (fb m : Nat) (a : Option Addr) (l : List Nat) (o : Bool) (w : World) (hF : FeedS w fb m a l o) (hl : l.length < 900000000) :
    Calls Try.prog 21 #[.pointer (some ⟨fb, 0, none⟩)] w fun e w' => e = .returned (.int .i64 (nextN l o : Nat)) ∧ Below w.heap.size w w' := by
  obtain ⟨c, hA, hL, _⟩ := hF
  exact next_any fb m _ l o w hA hL hl
theorem left_feed (fb m : Nat) (a : Option Addr) (l : List Nat) (o : Bool) (w : World) (hF : FeedS w fb m a l o) :
    Calls Try.prog 14 #[.pointer (some ⟨fb, 0, none⟩)] w fun e w' => e = .returned (.int .i64 l.length) ∧ w = w' := by
  obtain ⟨c, hA, _⟩ := hF
  exact left_any fb m _ c a o w hA
theorem over_feed (fb m : Nat) (a : Option Addr) (l : List Nat) (o : Bool) (w : World) (hF : FeedS w fb m a l o) :
    Calls Try.prog 17 #[.pointer (some ⟨fb, 0, none⟩)] w fun e w' => e = .returned (.bool o) ∧ w = w' := by
  obtain ⟨c, hA, _⟩ := hF
  exact over_any fb m _ o w hA
theorem setmost_feed (fb m : Nat) (a : Option Addr) (l : List Nat) (o : Bool) (x : Int) (w : World) (hF : FeedS w fb m a l o) :
    Calls Try.prog 18 #[.pointer (some ⟨fb, 0, none⟩), .int .i64 x] w fun e w' => e = .returned (.tuple #[]) ∧ FeedS w' fb (mostN x) a l o ∧ w.grownBy w' (some fb) := by
  obtain ⟨c, hA, hL, hne⟩ := hF
  refine (setmost_any fb m _ o x w hA).mono ?_
  rintro e w' ⟨rfl, h1, hg⟩
  refine ⟨rfl, ⟨c, h1, ?_, hne⟩, hg⟩
  rcases hL with h | ⟨b', oo, cc, hv, hc, hb', hbs⟩
  · exact .inl h
  · refine .inr ⟨b', oo, cc, hv, hc, by have := hg.size; omega, hbs.grown hg hb' (fun e => ?_)⟩
    cases hv; cases e
    exact hne _ rfl rfl
theorem new_feed (x : Int) (w : World) :
    Calls Try.prog 12 #[.int .i64 x] w fun e w' => e = .returned (.pointer (some ⟨w.heap.size, 0, none⟩)) ∧ FeedS w' w.heap.size (mostN x) none [] false ∧ Below w.heap.size w w' := by
  refine (new_any x w).mono ?_
  rintro e w' ⟨rfl, h1, hb, _⟩
  exact ⟨rfl, ⟨0, h1, .inl ⟨rfl, rfl⟩, fun b h => by cases h⟩, hb⟩
theorem mostN_lo (x : Int) : 7 ≤ mostN x := by unfold mostN; omega
theorem mostN_hi (x : Int) : mostN x < 1000000000 := by unfold mostN; omega
end Go.Proofs.Ytcnijcmddnacaaa.Chunk
