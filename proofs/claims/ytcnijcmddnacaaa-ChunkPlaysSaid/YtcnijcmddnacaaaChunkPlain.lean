/- What comes out of bytes: one answer, whole bytes cut where one will; what is left. No program in sight. No conditions beside 7 ≤ m where it is said. -/
import Derived.Test.YtcnijcmddnacaaaChunkWhole
namespace Go.Proofs.Ytcnijcmddnacaaa.Chunk
set_option linter.unusedVariables false
variable {m : Nat} {l a b r r' : List Nat} {ms ms' : List (List Nat)} {o o' : Bool}
theorem num4_congr {l k : List Nat} (h : ∀ i, i < 4 → l.getD i 0 = k.getD i 0) : num4 l = num4 k := by
  simp only [num4, numk, h 0 (by omega), h 1 (by omega), h 2 (by omega), h 3 (by omega)]
theorem getD_app (l b : List Nat) (i : Nat) (h : i < l.length) : (l ++ b).getD i 0 = l.getD i 0 := by
  rw [List.getD_eq_getElem?_getD, List.getD_eq_getElem?_getD, List.getElem?_append_left h]
theorem num4_app (l b : List Nat) (h : 4 ≤ l.length) : num4 (l ++ b) = num4 l := num4_congr fun i hi => getD_app l b i (by omega)
theorem Feeds.det (h : Feeds m l ms r o) : ∀ {ms' r' o'}, Feeds m l ms' r' o' → ms = ms' ∧ r = r' ∧ o = o' := by
  induction h with
  | short l h4 => intro ms' r' o' k; cases k <;> first | exact ⟨rfl, rfl, rfl⟩ | omega
  | bad l h4 hb => intro ms' r' o' k; cases k <;> first | exact ⟨rfl, rfl, rfl⟩ | omega
  | wait l h4 h7 hm hl => intro ms' r' o' k; cases k <;> first | exact ⟨rfl, rfl, rfl⟩ | omega
  | take l ms r o h4 h7 hm hl hf ih =>
    intro ms' r' o' k
    cases k with
    | short => omega
    | bad => omega
    | wait => omega
    | take _ ms2 _ _ _ _ _ _ k =>
      obtain ⟨h1, h2, h3⟩ := ih k
      exact ⟨by rw [h1], h2, h3⟩
theorem Feeds.some (m : Nat) : ∀ (n : Nat) (l : List Nat), l.length ≤ n → ∃ ms r o, Feeds m l ms r o := by
  intro n
  induction n with
  | zero => exact fun l h => ⟨_, _, _, .short l (by omega)⟩
  | succ n ih =>
    intro l h
    by_cases h4 : l.length < 4
    · exact ⟨_, _, _, .short l h4⟩
    by_cases hb : num4 l < 7 ∨ m < num4 l
    · exact ⟨_, _, _, .bad l (by omega) hb⟩
    by_cases hw : l.length < num4 l
    · exact ⟨_, _, _, .wait l (by omega) (by omega) (by omega) hw⟩
    obtain ⟨ms, r, o, hf⟩ := ih (l.drop (num4 l)) (by rw [List.length_drop]; omega)
    exact ⟨_, _, _, .take l ms r o (by omega) (by omega) (by omega) (by omega) hf⟩
/-- A rest that waits for more. -/
def Stuck (m : Nat) (r : List Nat) : Prop := r.length < 4 ∨ (4 ≤ r.length ∧ 7 ≤ num4 r ∧ num4 r ≤ m ∧ r.length < num4 r)
theorem Feeds.stuck (h : Feeds m l ms r o) : o = false → Stuck m r := by
  induction h with
  | short l h4 => exact fun _ => .inl h4
  | bad l h4 hb => exact fun h => by cases h
  | wait l h4 h7 hm hl => exact fun _ => .inr ⟨h4, h7, hm, hl⟩
  | take l ms r o h4 h7 hm hl hf ih => exact ih
theorem Stuck.feeds (h : Stuck m r) : Feeds m r [] r false := by
  rcases h with h | ⟨h1, h2, h3, h4⟩
  · exact .short r h
  · exact .wait r h1 h2 h3 h4
theorem Stuck.small (h : Stuck m r) (hm : 7 ≤ m) : r.length < m := by
  rcases h with h | ⟨h1, h2, h3, h4⟩ <;> omega
theorem Stuck.nil : Stuck m [] := .inl (by simp)
theorem Feeds.over (h : Feeds m l ms r o) : o = true → r = [] := by
  induction h with
  | short => intro h; cases h
  | bad => exact fun _ => rfl
  | wait => intro h; cases h
  | take l ms r o h4 h7 hm hl hf ih => exact ih
theorem Feeds.more (h : Feeds m a ms r o) : o = false → ∀ {b ms' r' o'}, Feeds m (r ++ b) ms' r' o' → Feeds m (a ++ b) (ms ++ ms') r' o' := by
  induction h with
  | short l h4 => exact fun _ {b ms' r' o'} k => k
  | bad l h4 hb => exact fun h => by cases h
  | wait l h4 h7 hm hl => exact fun _ {b ms' r' o'} k => k
  | take l ms r o h4 h7 hm hl hf ih =>
    intro ho b ms' r' o' k
    have hn := num4_app l b h4
    have h2 := Feeds.take (m := m) (l ++ b) (ms ++ ms') r' o' (by rw [List.length_append]; omega) (by omega) (by omega) (by rw [hn, List.length_append]; omega)
    rw [hn, List.drop_append_of_le_length hl, List.take_append_of_le_length hl] at h2
    exact h2 (ih ho k)
theorem Feeds.moreOver (h : Feeds m a ms r o) : o = true → ∀ b, Feeds m (a ++ b) ms [] true := by
  induction h with
  | short => intro h; cases h
  | bad l h4 hb =>
    intro _ b
    exact .bad _ (by rw [List.length_append]; omega) (by rw [num4_app l b h4]; exact hb)
  | wait => intro h; cases h
  | take l ms r o h4 h7 hm hl hf ih =>
    intro ho b
    have hn := num4_app l b h4
    have h2 := Feeds.take (m := m) (l ++ b) ms [] true (by rw [List.length_append]; omega) (by omega) (by omega) (by rw [hn, List.length_append]; omega)
    rw [hn, List.drop_append_of_le_length hl, List.take_append_of_le_length hl] at h2
    exact h2 (ih ho b)
theorem Feeds.sizes (h : Feeds m l ms r o) : ms.length * 7 + r.length ≤ l.length := by
  induction h with
  | short => simp
  | bad => simp
  | wait => simp
  | take l ms r o h4 h7 hm hl hf ih =>
    rw [List.length_drop] at ih
    rw [List.length_cons]
    omega
theorem Feeds.each (h : Feeds m l ms r o) : ∀ x ∈ ms, x.length ≤ l.length := by
  induction h with
  | short => intro x hx; cases hx
  | bad => intro x hx; cases hx
  | wait => intro x hx; cases hx
  | take l ms r o h4 h7 hm hl hf ih =>
    intro x hx
    rcases List.mem_cons.1 hx with rfl | hx
    · rw [List.length_take]; omega
    · have := ih x hx; rw [List.length_drop] at this; omega
theorem Feeds.bytesR (h : Feeds m l ms r o) : bytes l → bytes r := by
  induction h with
  | short => exact id
  | bad => exact fun _ x hx => by cases hx
  | wait => exact id
  | take l ms r o h4 h7 hm hl hf ih => exact fun h => ih (bytes_drop h _)
/-- Bytes that come to a rest that waits: fewer than are lacking, or just as many. -/
def lack (r : List Nat) : Nat := if r.length < 4 then 4 - r.length else max 1 (num4 r - r.length)
theorem lack_short (h : r.length < 4) : lack r = 4 - r.length := if_pos h
theorem lack_long (h : 4 ≤ r.length) : lack r = max 1 (num4 r - r.length) := if_neg (by omega)
theorem Stuck.lack_pos (h : Stuck m r) : 1 ≤ lack r := by
  rcases h with h | ⟨h1, h2, h3, h4⟩
  · rw [lack_short h]; omega
  · rw [lack_long h1]; omega
theorem Stuck.lack_le (h : Stuck m r) (hm : 7 ≤ m) : lack r ≤ m := by
  rcases h with h | ⟨h1, h2, h3, h4⟩
  · rw [lack_short h]; omega
  · rw [lack_long h1]; omega
theorem Stuck.fewer (h : Stuck m r) (b : List Nat) (hb : b.length < lack r) : Stuck m (r ++ b) ∧ lack (r ++ b) = lack r - b.length := by
  rcases h with h | ⟨h1, h2, h3, h4⟩
  · rw [lack_short h] at hb
    have hl : (r ++ b).length < 4 := by rw [List.length_append]; omega
    rw [lack_short h, lack_short hl]
    refine ⟨.inl hl, ?_⟩
    rw [List.length_append]; omega
  · rw [lack_long h1] at hb
    have hl : 4 ≤ (r ++ b).length := by rw [List.length_append]; omega
    have hn := num4_app r b h1
    rw [lack_long h1, lack_long hl, hn]
    have hla : (r ++ b).length = r.length + b.length := List.length_append
    refine ⟨.inr ⟨hl, by rw [hn]; omega, by rw [hn]; omega, by rw [hn]; omega⟩, by omega⟩
theorem Stuck.just (h : Stuck m r) (b : List Nat) (hb : b.length = lack r) : ∃ ms r' o, Feeds m (r ++ b) ms r' o ∧ ms.length ≤ 1 := by
  rcases h with h | ⟨h1, h2, h3, h4⟩
  · rw [lack_short h] at hb
    have hl : (r ++ b).length = 4 := by rw [List.length_append]; omega
    by_cases hbad : num4 (r ++ b) < 7 ∨ m < num4 (r ++ b)
    · exact ⟨_, _, _, .bad _ (by omega) hbad, by simp⟩
    · exact ⟨_, _, _, .wait _ (by omega) (by omega) (by omega) (by omega), by simp⟩
  · rw [lack_long h1] at hb
    have hn := num4_app r b h1
    have hl : (r ++ b).length = num4 (r ++ b) := by rw [List.length_append, hn]; omega
    refine ⟨_, _, _, .take _ [] [] false (by omega) (by omega) (by omega) (by omega) ?_, by simp⟩
    rw [List.drop_eq_nil_of_le (by omega)]
    exact .short [] (by simp)
end Go.Proofs.Ytcnijcmddnacaaa.Chunk
