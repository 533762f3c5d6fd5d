/- How a feed and its bytes lie in memory; what the leaves that the feed calls answer: Clone, New, width, Take, Num of the cursor. Conditions beside lengths: none. -/
import Derived.Test.YtcnijcmddnacaaaProg
import Derived.WalkKit
import Derived.Lib.Hide
import Derived.Laws.Rows
import Derived.Laws.Tables
import Derived.Deep.WholeRow
import Derived.Deep.MidRow
import Derived.Deep.Draws
import Derived.Laws.CopyOwn
import Derived.OwnWalk
import Derived.Lib.SliceRun
import Derived.Deep.AppendLies
namespace Go.Proofs.Ytcnijcmddnacaaa.Chunk
open Go.RowKit
set_option linter.unusedVariables false
/-- Block g is just these cells of type t, none of them frozen. -/
def At (w : World) (g : Nat) (t : TypeId) (cs : Array Value) : Prop := w.heap[g]? = some (.cells cs t (0, 0))
section
variable {w w' : World} {g : Nat} {t : TypeId} {cs : Array Value}
theorem At.lt (h : At w g t cs) : g < w.heap.size := (Array.getElem?_eq_some_iff.1 h).1
theorem At.cell (h : At w g t cs) (i : Nat) : w.cell? ⟨g, i, none⟩ = cs[i]? := cell_of_row w g i cs t (0, 0) h
theorem At.free (h : At w g t cs) (i : Nat) : w.frozen? ⟨g, i, none⟩ = false := frozen_of_row w g i cs t h
theorem At.new (w : World) (t : TypeId) (cs : Array Value) : At (w.alloc (.cells cs t)) w.heap.size t cs := heap_alloc_last w _
theorem At.alloc (h : At w g t cs) (o : Obj) : At (w.alloc o) g t cs := (Below.heap_alloc w o g h.lt).trans h
theorem At.drewN (h : At w g t cs) (n : Nat) : At (w.drewN n) g t cs := h
theorem At.drew (h : At w g t cs) : At w.drew g t cs := h
theorem At.put (h : At w g t cs) (i : Nat) (v : Value) : At (w.setCell ⟨g, i, none⟩ v) g t (cs.setIfInBounds i v) := heap_setCell_same w g i cs t v h
theorem At.far (h : At w g t cs) {p : Addr} (hp : g ≠ p.block) (v : Value) : At (w.setCell p v) g t cs := (heap_setCell_other w p g v hp).trans h
theorem At.row (h : At w g t cs) (cs' : Array Value) : At (w.setRow g cs') g t cs' := setRow_heap w g cs cs' t _ h
theorem At.farRow (h : At w g t cs) {k : Nat} (hk : g ≠ k) (cs' : Array Value) : At (w.setRow k cs') g t cs := (setRow_other w k g cs' hk).trans h
theorem At.below {B : Nat} (h : At w g t cs) (hb : Below B w w') (hg : g < B) : At w' g t cs := (hb.block g hg).trans h
theorem At.grown {row : Option Nat} (h : At w g t cs) (hb : w.grownBy w' row) (hg : some g ≠ row) : At w' g t cs := (hb.block g h.lt hg).trans h
theorem At.range (h : At w g t cs) (o n : Nat) : w.rangeAt g o ((cs.toList.drop o).take n) := by
  intro j v hv
  rw [h.cell]
  rw [List.getElem?_take] at hv
  split at hv
  · rw [List.getElem?_drop] at hv; simpa using hv
  · cases hv
end
theorem belowN {B : Nat} {a w : World} (h : Below B a w) (n : Nat) : Below B a (w.drewN n) := ⟨h.os, h.tape, h.output, h.size, h.block⟩
/-- Only block g, and what is new, has turned. -/
theorem only_set {a w : World} {g : Nat} (h : a.grownBy w (some g)) {p : Addr} (hp : p.block = g ∨ a.heap.size ≤ p.block) (v : Value) : a.grownBy (w.setCell p v) (some g) :=
  ⟨h.os, h.tape, h.output, by simpa [World.setCell] using h.size, fun i hi hne => (heap_setCell_other w p i v (by
    rintro rfl
    rcases hp with hp | hp
    · exact hne (by rw [hp])
    · omega)).trans (h.block i hi hne)⟩
theorem only_drewN {a w : World} {row : Option Nat} (h : a.grownBy w row) (n : Nat) : a.grownBy (w.drewN n) row := ⟨h.os, h.tape, h.output, h.size, h.block⟩
theorem only_drew {a w : World} {row : Option Nat} (h : a.grownBy w row) : a.grownBy w.drew row := ⟨h.os, h.tape, h.output, h.size, h.block⟩
theorem only_below {a w : World} (h : Below a.heap.size a w) (row : Option Nat) : a.grownBy w row := ⟨h.os, h.tape, h.output, h.size, fun i hi _ => h.block i hi⟩
theorem only_trans {a b c : World} {row : Option Nat} (h : a.grownBy b row) (k : b.grownBy c row) : a.grownBy c row :=
  ⟨k.os.trans h.os, k.tape.trans h.tape, k.output.trans h.output, Nat.le_trans h.size k.size, fun i hi hne => (k.block i (Nat.lt_of_lt_of_le hi h.size) hne).trans (h.block i hi hne)⟩
/-- A turn of a block that is new to 'a' is no turn to 'a'. -/
theorem below_only {a b c : World} {g : Nat} {B : Nat} (h : Below B a b) (k : b.grownBy c (some g)) (hB : B ≤ b.heap.size) (hg : B ≤ g) : Below B a c :=
  h.grown k hB (fun r e => by cases e; exact hg)

theorem size_alloc (w : World) (o : Obj) : (w.alloc o).heap.size = w.heap.size + 1 := by simp
def u8L (l : List Nat) : List Value := l.map fun (n : Nat) => Value.int .u8 (n : Int)
theorem u8L_get (l : List Nat) (i : Nat) (h : i < l.length) : (u8L l)[i]? = some (.int .u8 (l.getD i 0 : Nat)) := by
  simp [u8L, List.getElem?_eq_getElem h]
theorem u8L_len (l : List Nat) : (u8L l).length = l.length := by simp [u8L]
theorem u8L_one (l : List Nat) : ∀ v ∈ u8L l, v.oneCell' = true := by
  intro v hv; simp only [u8L, List.mem_map] at hv; obtain ⟨n, _, rfl⟩ := hv; rfl
def bytes (l : List Nat) : Prop := ∀ x ∈ l, x < 256
theorem bytes_getD {l : List Nat} (h : bytes l) (i : Nat) : l.getD i 0 < 256 := by
  rw [List.getD_eq_getElem?_getD]
  rcases hi : l[i]? with _ | x
  · simp
  · exact h x (List.mem_of_getElem? hi)
theorem bytes_take {l : List Nat} (h : bytes l) (n : Nat) : bytes (l.take n) := fun x hx => h x (List.mem_of_mem_take hx)
theorem bytes_drop {l : List Nat} (h : bytes l) (n : Nat) : bytes (l.drop n) := fun x hx => h x (List.mem_of_mem_drop hx)
theorem bytes_app {l m : List Nat} (h : bytes l) (k : bytes m) : bytes (l ++ m) := fun x hx => by
  rcases List.mem_append.1 hx with hx | hx
  · exact h x hx
  · exact k x hx
/-- Bytes that lie somewhere. -/
structure BytesAt (w : World) (b o : Nat) (bs : List Nat) : Prop where
  lies : w.rangeAt b o (u8L bs)
  small : bytes bs
theorem add_plain (b o i : Nat) : (⟨b, o, none⟩ : Addr).add i = ⟨b, o + i, none⟩ := by unfold Addr.add; split <;> simp_all
section
variable {w w' : World} {b o : Nat} {l : List Nat}
theorem BytesAt.cell (h : BytesAt w b o l) (k : Nat) (hk : k < l.length) : w.cell? ⟨b, o + k, none⟩ = some (.int .u8 (l.getD k 0 : Nat)) :=
  h.lies k _ (u8L_get l k hk)
theorem BytesAt.below {B : Nat} (h : BytesAt w b o l) (hb : Below B w w') (hg : b < B) : BytesAt w' b o l := ⟨fun i v hv => (hb.cell (p := ⟨b, o + i, none⟩) hg).trans (h.lies i v hv), h.small⟩
theorem BytesAt.alloc (h : BytesAt w b o l) (hb : b < w.heap.size) (x : Obj) : BytesAt (w.alloc x) b o l :=
  ⟨fun i v hv => (World.cell?_of_block (Below.heap_alloc w x b hb)).trans (h.lies i v hv), h.small⟩
theorem BytesAt.grown {row : Option Nat} (h : BytesAt w b o l) (hg : w.grownBy w' row) (hb : b < w.heap.size) (hne : some b ≠ row) : BytesAt w' b o l :=
  ⟨fun i v hv => (hg.cell_far ⟨b, o + i, none⟩ hb hne).trans (h.lies i v hv), h.small⟩
theorem BytesAt.news (h : BytesAt w b o l) : ∀ j u, (u8L l)[j]? = some u → w.cell? ((⟨b, o, none⟩ : Addr).add j) = some u := fun j u hu => by
  rw [add_plain]; exact h.lies j u hu
theorem BytesAt.take (h : BytesAt w b o l) (n : Nat) : BytesAt w b o (l.take n) :=
  ⟨fun i v hv => h.lies i v (by
    rw [u8L, List.map_take, List.getElem?_take] at hv
    split at hv
    · exact hv
    · cases hv), bytes_take h.small n⟩
theorem BytesAt.drop (h : BytesAt w b o l) (n : Nat) : BytesAt w b (o + n) (l.drop n) :=
  ⟨fun i v hv => by
    rw [show o + n + i = o + (n + i) by omega]
    exact h.lies (n + i) v (by
      rw [u8L, List.map_drop, List.getElem?_drop] at hv
      exact hv), bytes_drop h.small n⟩
theorem BytesAt.of_own {B g n cap : Nat} (h : w.ownsRow B 5 1 (.slice (some ⟨g, 0, none⟩) n cap) n (u8L l)) (hb : bytes l) : BytesAt w g 0 l :=
  ⟨fun i v hv => by
    have := h.cells rfl i v hv
    rw [add_plain] at this
    exact this, hb⟩
end
theorem info5 : (Try.prog.info? 5).map (fun i => (i.zero, i.size, i.bytes)) = some (some (.int .u8 0), 1, 1) := by kernel_rfl
theorem own_form {w : World} {B n : Nat} {e : TypeId} {v : Value} {xs : List Value} (h : w.ownsRow B e 1 v n xs) (hne : ¬ v = .slice none 0 0) : ∃ g cap, v = .slice (some ⟨g, 0, none⟩) n cap ∧ B ≤ g ∧ g < w.heap.size ∧ n ≤ cap := by
  rcases h.2 with ⟨hv, _⟩ | ⟨g, cap, cur, hv, hb, hg, hn, _⟩
  · exact absurd hv hne
  · exact ⟨g, cap, hv, hb, (Array.getElem?_eq_some_iff.1 hg).1, hn⟩
theorem own_at {w : World} {B n g cap : Nat} {e : TypeId} {xs : List Value} (h : w.ownsRow B e 1 (.slice (some ⟨g, 0, none⟩) n cap) n xs) : ∃ t cs, At w g t cs := by
  rcases h.2 with ⟨hv, _⟩ | ⟨g', cap', cur, hv, hb, hg, hn, _⟩
  · cases hv
  · cases hv; exact ⟨_, _, hg⟩
theorem max_big : 1000000000000 ≤ maxLen := by decide
theorem below_trans {B : Nat} {a b c : World} (h : Below B a b) (k : Below b.heap.size b c) (hB : B ≤ b.heap.size) : Below B a c :=
  h.trans ⟨k.os, k.tape, k.output, k.size, fun i hi => k.block i (by omega)⟩

set_option maxRecDepth 100000 in
set_option maxHeartbeats 1000000 in
theorem clone_own (b o c0 : Nat) (l : List Nat) (w : World) (hb : BytesAt w b o l) (hlt : b < w.heap.size) (hn : l.length < 1000000000) :
    Calls Try.prog 27 #[.slice (some ⟨b, o, none⟩) l.length c0] w fun e w' => ∃ g c, e = .returned (.slice (some ⟨g, 0, none⟩) l.length c) ∧ BytesAt w' g 0 l ∧ l.length ≤ c ∧ w.heap.size ≤ g ∧ g < w'.heap.size ∧ Below w.heap.size w w' ∧ ∃ t cs, At w' g t cs := by
  obtain ⟨i0, hi0, hz0, hz1, hz2⟩ := info_parts info5
  have HI0 := Lib.hid hi0
  have HZ0 := Lib.hid hz0
  have HZ1 := Lib.hid hz1
  have HZ2 := Lib.hid hz2
  have hm1 : 0 + l.length ≤ maxLen := by have := max_big; omega
  have hm2 : (0 + l.length) * 1 ≤ 140737488355328 := by omega
  have HNW := Lib.hid ((hb.below ((Below.refl w.heap.size w).alloc (Nat.le_refl _) (.cells #[] 5)) hlt).news)
  have HS := Lib.hid hb.small
  clear hb hi0 hz0 hz1 hz2
  generalize hnn : l.length = n at *
  have HL1 := Lib.hid (show (u8L l).length = n * 1 by rw [u8L_len, hnn, Nat.mul_one])
  clear hnn
  have heq := Lib.run_eql_slice_nil (P := Try.prog) w 25 5 (some ⟨b, o, none⟩) n c0 0 0 Try.underlying25
  go_enter Try.func27, Try.ntmps27
  go_wp2_with (at_builtin; refine wpList_append_own _ rfl _ _ _ rfl w.heap.size 5 i0 _ 1 1 Try.underlying25 HI0.out HZ0.out HZ1.out HZ2.out rfl (by omega) (.slice (some ⟨w.heap.size, 0, none⟩) 0 0) 0 [] rfl (World.ownsRow_made w #[] 0 (Nat.le_refl _) (Nat.zero_le _) rfl) ⟨b, o, none⟩ n c0 (u8L l) rfl HL1.out HNW.out (u8L_one _) hm1 hm2 (by simp) ?_)
  intro v1 w1 hown1 hgrow1 hnil1
  obtain ⟨g1, cap1, rfl, hb1, hl1, hc1⟩ := own_form hown1 hnil1
  have b1 : Below w.heap.size w w1 := ((Below.refl w.heap.size w).alloc (Nat.le_refl _) _).grown hgrow1 (by simp) (fun r e => by simp [Value.ownBlock] at e; omega)
  have hown1 : w1.ownsRow w.heap.size 5 1 (.slice (some ⟨g1, 0, none⟩) n cap1) n (u8L l) := by simpa using hown1
  have hat1 : ∃ t cs, At w1 g1 t cs := own_at hown1
  have HAT := Lib.hid hat1
  have HO := Lib.hid hown1
  have HB := Lib.hid b1
  have hc1 : n ≤ cap1 := by omega
  clear hown1 b1 hgrow1 hnil1 hat1
  go_wp2_with fail
  go_ret
  exact ⟨g1, cap1, by first | rfl | simp, BytesAt.of_own HO.out HS.out, hc1, hb1, hl1, HB.out, HAT.out⟩
theorem clone_any (b o c0 : Nat) (l : List Nat) (w : World) (hb : BytesAt w b o l) (hlt : b < w.heap.size) (hn : l.length < 1000000000) :
    Calls Try.prog 27 #[.slice (some ⟨b, o, none⟩) l.length c0] w fun e w' => ∃ g c, e = .returned (.slice (some ⟨g, 0, none⟩) l.length c) ∧ BytesAt w' g 0 l ∧ l.length ≤ c ∧ w.heap.size ≤ g ∧ g < w'.heap.size ∧ Below w.heap.size w w' :=
  (clone_own b o c0 l w hb hlt hn).mono fun _ _ ⟨g, c, h1, h2, h3, h4, h5, h6, _⟩ => ⟨g, c, h1, h2, h3, h4, h5, h6⟩
set_option maxRecDepth 100000 in
theorem width4 (w : World) : Calls Try.prog 36 #[.int .i64 4] w fun e w' => e = .returned (.bool true) ∧ w = w' := by
  go_enter Try.func36, Try.ntmps36
  go_wp2
  go_ret
  exact ⟨rfl, rfl⟩
end Go.Proofs.Ytcnijcmddnacaaa.Chunk
