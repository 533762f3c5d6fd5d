/- How a hash and its arrays lie in memory: small facts on blocks, lists of cells and what a store makes of them. No conditions beside lengths. -/
import Derived.Test.YtcnijcmddnacaaaDoorShaPlain
import Derived.WalkKit
import Derived.Lib.Hide
import Derived.Deep.WholeRow
import Derived.Deep.MidRow
import Derived.Deep.Draws
import Derived.Laws.CopyOwn
namespace Go.Proofs.YtcnijcmddnacaaaDoor
open Go.RowKit
set_option linter.unusedVariables false
/-- Block g is just these cells of type t, none of them frozen. -/
def At (w : World) (g : Nat) (t : TypeId) (cs : Array Value) : Prop := w.heap[g]? = some (.cells cs t (0, 0))
section
variable {w w' : World} {g : Nat} {t : TypeId} {cs : Array Value}
theorem At.lt (h : At w g t cs) : g < w.heap.size := (Array.getElem?_eq_some_iff.1 h).1
theorem At.cell (h : At w g t cs) (i : Nat) : w.cell? ⟨g, i, none⟩ = cs[i]? := cell_of_row w g i cs t (0, 0) h
theorem At.free (h : At w g t cs) (i : Nat) : w.frozen? ⟨g, i, none⟩ = false := frozen_of_row w g i cs t h
theorem At.new (w : World) (t : TypeId) (cs : Array Value) : At (w.alloc (.cells cs t)) w.heap.size t cs := heap_alloc_last w _
theorem At.alloc (h : At w g t cs) (o : Obj) : At (w.alloc o) g t cs := (Below.heap_alloc w o g h.lt).trans h
theorem At.drewN (h : At w g t cs) (n : Nat) : At (w.drewN n) g t cs := h
theorem At.drew (h : At w g t cs) : At w.drew g t cs := h
theorem At.put (h : At w g t cs) (i : Nat) (v : Value) : At (w.setCell ⟨g, i, none⟩ v) g t (cs.setIfInBounds i v) := heap_setCell_same w g i cs t v h
theorem At.far (h : At w g t cs) {p : Addr} (hp : g ≠ p.block) (v : Value) : At (w.setCell p v) g t cs := (heap_setCell_other w p g v hp).trans h
theorem At.row (h : At w g t cs) (cs' : Array Value) : At (w.setRow g cs') g t cs' := setRow_heap w g cs cs' t _ h
theorem At.farRow (h : At w g t cs) {k : Nat} (hk : g ≠ k) (cs' : Array Value) : At (w.setRow k cs') g t cs := (setRow_other w k g cs' hk).trans h
theorem At.below {B : Nat} (h : At w g t cs) (hb : Below B w w') (hg : g < B) : At w' g t cs := (hb.block g hg).trans h
theorem At.grown {row : Option Nat} (h : At w g t cs) (hb : w.grownBy w' row) (hg : some g ≠ row) : At w' g t cs := (hb.block g h.lt hg).trans h
theorem At.range (h : At w g t cs) (o n : Nat) : w.rangeAt g o ((cs.toList.drop o).take n) := by
  intro j v hv
  rw [h.cell]
  rw [List.getElem?_take] at hv
  split at hv
  · rw [List.getElem?_drop] at hv; simpa using hv
  · cases hv
end
theorem belowN {B : Nat} {a w : World} (h : Below B a w) (n : Nat) : Below B a (w.drewN n) := ⟨h.os, h.tape, h.output, h.size, h.block⟩
/-- Only block g, and what is new, has turned. -/
theorem only_set {a w : World} {g : Nat} (h : a.grownBy w (some g)) {p : Addr} (hp : p.block = g ∨ a.heap.size ≤ p.block) (v : Value) : a.grownBy (w.setCell p v) (some g) :=
  ⟨h.os, h.tape, h.output, by simpa [World.setCell] using h.size, fun i hi hne => (heap_setCell_other w p i v (by
    rintro rfl
    rcases hp with hp | hp
    · exact hne (by rw [hp])
    · omega)).trans (h.block i hi hne)⟩
theorem only_drewN {a w : World} {row : Option Nat} (h : a.grownBy w row) (n : Nat) : a.grownBy (w.drewN n) row := ⟨h.os, h.tape, h.output, h.size, h.block⟩
theorem only_drew {a w : World} {row : Option Nat} (h : a.grownBy w row) : a.grownBy w.drew row := ⟨h.os, h.tape, h.output, h.size, h.block⟩
theorem only_below {a w : World} (h : Below a.heap.size a w) (row : Option Nat) : a.grownBy w row := ⟨h.os, h.tape, h.output, h.size, fun i hi _ => h.block i hi⟩
theorem only_trans {a b c : World} {row : Option Nat} (h : a.grownBy b row) (k : b.grownBy c row) : a.grownBy c row :=
  ⟨k.os.trans h.os, k.tape.trans h.tape, k.output.trans h.output, Nat.le_trans h.size k.size, fun i hi hne => (k.block i (Nat.lt_of_lt_of_le hi h.size) hne).trans (h.block i hi hne)⟩
/-- A turn of a block that is new to 'a' is no turn to 'a'. -/
theorem below_only {a b c : World} {g : Nat} {B : Nat} (h : Below B a b) (k : b.grownBy c (some g)) (hB : B ≤ b.heap.size) (hg : B ≤ g) : Below B a c :=
  h.grown k hB (fun r e => by cases e; exact hg)
/-! ### Lists of cells -/
def u32L (l : List Nat) : List Value := l.map fun (n : Nat) => Value.int .u32 (n : Int)
def u8L (l : List Nat) : List Value := l.map fun (n : Nat) => Value.int .u8 (n : Int)
theorem u32L_get (l : List Nat) (i : Nat) (h : i < l.length) : (u32L l)[i]? = some (.int .u32 (l.getD i 0 : Nat)) := by
  simp [u32L, List.getElem?_eq_getElem h]
theorem u8L_get (l : List Nat) (i : Nat) (h : i < l.length) : (u8L l)[i]? = some (.int .u8 (l.getD i 0 : Nat)) := by
  simp [u8L, List.getElem?_eq_getElem h]
theorem u32L_set (l : List Nat) (i v : Nat) : (u32L l).set i (.int .u32 (v : Int)) = u32L (l.set i v) := by simp [u32L, List.map_set]
theorem u8L_set (l : List Nat) (i v : Nat) : (u8L l).set i (.int .u8 (v : Int)) = u8L (l.set i v) := by simp [u8L, List.map_set]
theorem u32L_len (l : List Nat) : (u32L l).length = l.length := by simp [u32L]
theorem u8L_len (l : List Nat) : (u8L l).length = l.length := by simp [u8L]
theorem u32L_one (l : List Nat) : ∀ v ∈ u32L l, v.oneCell' = true := by
  intro v hv; simp only [u32L, List.mem_map] at hv; obtain ⟨n, _, rfl⟩ := hv; rfl
theorem u8L_one (l : List Nat) : ∀ v ∈ u8L l, v.oneCell' = true := by
  intro v hv; simp only [u8L, List.mem_map] at hv; obtain ⟨n, _, rfl⟩ := hv; rfl
/-- The words of an array that is filled from its head. -/
def fill64 (l : List Nat) : List Nat := l ++ List.replicate (64 - l.length) 0
theorem fill64_set (l : List Nat) (v : Nat) (h : l.length < 64) : (fill64 l).set l.length v = fill64 (l ++ [v]) := by
  unfold fill64
  rw [List.set_append_right _ _ (Nat.le_refl _), Nat.sub_self, List.length_append, List.length_singleton, show 64 - l.length = (64 - (l.length + 1)) + 1 by omega, List.replicate_succ, List.set_cons_zero, List.append_assoc, List.singleton_append]
theorem fill64_len (l : List Nat) (h : l.length ≤ 64) : (fill64 l).length = 64 := by simp [fill64]; omega
theorem fill64_get (l : List Nat) (i : Nat) (h : i < l.length) : (fill64 l).getD i 0 = l.getD i 0 := by
  unfold fill64
  rw [List.getD_eq_getElem?_getD, List.getD_eq_getElem?_getD, List.getElem?_append_left h]
theorem fill64_full (l : List Nat) (h : l.length = 64) : fill64 l = l := by simp [fill64, h]
/-- A hash's cells. -/
def words (r : Sha.R) : List Nat := [r.a, r.b, r.c, r.d, r.e, r.f, r.g, r.h]
def hashL (ws part : List Nat) (fill total : Nat) : List Value := u32L ws ++ (u8L part ++ [.int .i64 (fill : Int), .int .u64 (total : Int)])
def hashA (ws part : List Nat) (fill total : Nat) : Array Value := (hashL ws part fill total).toArray
section
variable {ws part : List Nat} {fill total : Nat}
theorem hash_word (hw : ws.length = 8) (i : Nat) (h : i < 8) : (hashA ws part fill total)[i]? = some (.int .u32 (ws.getD i 0 : Nat)) := by
  simp only [hashA, hashL, List.getElem?_toArray]
  rw [List.getElem?_append_left (by rw [u32L_len]; omega)]
  exact u32L_get _ _ (by omega)
theorem hash_part (hw : ws.length = 8) (hp : part.length = 64) (i : Nat) (h : i < 64) : (hashA ws part fill total)[8 + i]? = some (.int .u8 (part.getD i 0 : Nat)) := by
  simp only [hashA, hashL, List.getElem?_toArray]
  rw [List.getElem?_append_right (by rw [u32L_len]; omega), List.getElem?_append_left (by rw [u32L_len, u8L_len]; omega), u32L_len, hw, show 8 + i - 8 = i by omega]
  exact u8L_get _ _ (by omega)
theorem hash_fill (hw : ws.length = 8) (hp : part.length = 64) : (hashA ws part fill total)[72]? = some (.int .i64 (fill : Int)) := by
  simp only [hashA, hashL, List.getElem?_toArray]
  rw [List.getElem?_append_right (by rw [u32L_len]; omega), List.getElem?_append_right (by rw [u32L_len, u8L_len]; omega), u32L_len, u8L_len, hw, hp]
  rfl
theorem hash_total (hw : ws.length = 8) (hp : part.length = 64) : (hashA ws part fill total)[73]? = some (.int .u64 (total : Int)) := by
  simp only [hashA, hashL, List.getElem?_toArray]
  rw [List.getElem?_append_right (by rw [u32L_len]; omega), List.getElem?_append_right (by rw [u32L_len, u8L_len]; omega), u32L_len, u8L_len, hw, hp]
  rfl
theorem hash_size (hw : ws.length = 8) (hp : part.length = 64) : (hashA ws part fill total).size = 74 := by
  simp [hashA, hashL, u32L_len, u8L_len, hw, hp]
theorem hash_set_word (hw : ws.length = 8) (i v : Nat) (h : i < 8) : (hashA ws part fill total).setIfInBounds i (.int .u32 (v : Int)) = hashA (ws.set i v) part fill total := by
  apply Array.toList_inj.1
  simp only [hashA, hashL, Array.toList_setIfInBounds]
  rw [List.set_append_left _ _ (by rw [u32L_len]; omega), u32L_set]
theorem hash_set_part (hw : ws.length = 8) (hp : part.length = 64) (i v : Nat) (h : i < 64) : (hashA ws part fill total).setIfInBounds (8 + i) (.int .u8 (v : Int)) = hashA ws (part.set i v) fill total := by
  apply Array.toList_inj.1
  simp only [hashA, hashL, Array.toList_setIfInBounds]
  rw [List.set_append_right _ _ (by rw [u32L_len]; omega), u32L_len, hw, show 8 + i - 8 = i by omega, List.set_append_left _ _ (by rw [u8L_len]; omega), u8L_set]
theorem hash_set_fill (hw : ws.length = 8) (hp : part.length = 64) (v : Nat) : (hashA ws part fill total).setIfInBounds 72 (.int .i64 (v : Int)) = hashA ws part v total := by
  apply Array.toList_inj.1
  simp only [hashA, hashL, Array.toList_setIfInBounds]
  rw [List.set_append_right _ _ (by rw [u32L_len]; omega), List.set_append_right _ _ (by rw [u32L_len, u8L_len]; omega), u32L_len, u8L_len, hw, hp]
  rfl
theorem hash_set_total (hw : ws.length = 8) (hp : part.length = 64) (v : Nat) : (hashA ws part fill total).setIfInBounds 73 (.int .u64 (v : Int)) = hashA ws part fill v := by
  apply Array.toList_inj.1
  simp only [hashA, hashL, Array.toList_setIfInBounds]
  rw [List.set_append_right _ _ (by rw [u32L_len]; omega), List.set_append_right _ _ (by rw [u32L_len, u8L_len]; omega), u32L_len, u8L_len, hw, hp]
  rfl
theorem hash_one : (hashA ws part fill total).all (·.oneCell') = true := by
  rw [Array.all_eq_true_iff_forall_mem]
  intro v hv
  simp only [hashA, hashL, List.mem_toArray, List.mem_append, List.mem_cons, List.not_mem_nil, or_false] at hv
  rcases hv with hv | hv | rfl | rfl
  · exact u32L_one _ _ hv
  · exact u8L_one _ _ hv
  · rfl
  · rfl
end
theorem words_len (r : Sha.R) : (words r).length = 8 := rfl
end Go.Proofs.YtcnijcmddnacaaaDoor
