/- What the program's Of, Text and the law's 'awake' answer: the stream's digest, its text, true. Conditions: fewer than 2^31 bytes, and the table of constants is laid. -/
import Derived.Test.YtcnijcmddnacaaaDoorShaSum
import Derived.Laws.IdiomStrings
import Derived.Lib.SlBytesConst
import Derived.Great.BuildSlice
namespace Go.Proofs.YtcnijcmddnacaaaDoor
open Go.RowKit
set_option linter.unusedVariables false
theorem u8A_one (l : List Nat) : (u8L l).toArray.all (·.oneCell') = true := by
  rw [Array.all_eq_true_iff_forall_mem]
  intro v hv
  exact u8L_one _ v (by simpa using hv)
theorem size27 (l : List Nat) (h : l.length = 32) : (Tryd.prog.info? 27).map (·.size) = some (u8L l).toArray.size := by
  simp only [List.size_toArray, u8L_len, h]; exact (zero_of_info zero27).2
theorem stream_len (bs : List Nat) : (Sha.stream bs).length = 32 := Sha.digest_len _
theorem BytesAt.alloc {w : World} {b o : Nat} {bs : List Nat} (h : BytesAt w b o bs) (hb : b < w.heap.size) (x : Obj) : BytesAt (w.alloc x) b o bs :=
  ⟨fun i v hv => (World.cell?_of_block (Below.heap_alloc w x b hb)).trans (h.lies i v hv), h.small⟩
set_option maxRecDepth 100000 in
set_option maxHeartbeats 2000000 in
theorem of_any (b o cap : Nat) (bs : List Nat) (w : World) (hb : BytesAt w b o bs) (hlt : b < w.heap.size) (hn : bs.length < 2147483648) (hK : KSat w) :
    Calls Tryd.prog 7 #[.slice (some ⟨b, o, none⟩) bs.length cap] w fun e w' => e = .returned (.agg (u8L (Sha.stream bs)).toArray) ∧ Below w.heap.size w w' := by
  have hz27 := (zero_of_info zero27).1
  have HK := Lib.hid hK
  have HB := Lib.hid hb
  have h0 := hK.lt
  clear hK hb
  go_enter Tryd.func7, Tryd.ntmps7
  go_wp2_with fail
  refine (new_any _).mono ?_
  rintro e w1 ⟨rfl, hw1⟩
  have h1 := hash_new (w.alloc (.cells Z32 27))
  have b1 : Below w.heap.size w w1 := by rw [hw1]; exact ((Below.refl _ w).alloc (Nat.le_refl _) _).alloc (by rw [size_alloc]; omega) _
  have a1 : At w1 w.heap.size 27 Z32 := by rw [hw1]; exact (At.new _ _ _).alloc _
  have B1 : BytesAt w1 b o bs := by rw [hw1]; exact (HB.out.alloc hlt _).alloc (by rw [size_alloc]; omega) _
  rw [← hw1] at h1
  rw [size_alloc] at h1
  clear hw1
  have HB1 := Lib.hid B1
  clear B1
  go_wp2_with fail
  refine (add_any (w.heap.size + 1) Sha.St0 0 b o cap bs w1 h1 HB1.out (by omega) hn (by omega) (HK.out.below b1 h0) (by omega)).mono ?_
  rintro e w2 ⟨rfl, h2, g2⟩
  rw [Nat.zero_add] at h2
  have b2 := below_only b1 g2 (by have := h1.lies.lt; omega) (by omega)
  have a2 := a1.grown g2 (by simp)
  have H2 := Lib.hid h2
  clear h2
  go_wp2_with fail
  refine (sum_any (w.heap.size + 1) bs w2 H2.out hn (HK.out.below b2 h0) (by omega)).mono ?_
  rintro e w3 ⟨rfl, b3⟩
  have a3 := a2.below b3 a2.lt
  have b4 : Below w.heap.size w w3 := ⟨b3.os.trans b2.os, b3.tape.trans b2.tape, b3.output.trans b2.output, Nat.le_trans b2.size b3.size, fun i hi => (b3.block i (by have := b2.size; omega)).trans (b2.block i hi)⟩
  have A3 := Lib.hid a3
  have HZ := Lib.hid (size27 _ (stream_len bs))
  clear b3 b2 b1 a3 a2 a1 g2 h1 hn
  have HO : ∃ out, out = Sha.stream bs := ⟨_, rfl⟩
  obtain ⟨out, ho⟩ := HO
  have HO := Lib.hid ho
  rw [← ho] at HZ ⊢
  clear ho
  go_wp2_with (refine wpList_store_row rfl 27 (.tmp 2) (.tmp 9) rfl w.heap.size (u8L out).toArray rfl rfl 27 Z32 A3.out HZ.out ?c2 (u8A_one _) ?_)
  case c2 =>
    have := HZ.out
    have h2 := (zero_of_info zero27).2
    rw [h2] at this
    exact (show Z32.size = 32 from rfl).trans (Option.some.inj this)
  refine bodyPost_ret (results_cell_row rfl _ _ w.heap.size 27 (u8L out).toArray (0, 0) _ rfl (setRow_heap _ _ _ _ _ _ A3.out) Tryd.underlying27 rfl HZ.out) rfl ⟨by rw [HO.out], ?_⟩
  exact below_setRow b4 (Nat.le_refl _) _
def txt (l : List Nat) : ByteArray := ⟨(l.map UInt8.ofNat).toArray⟩
def Z42 : Array Value := (u8L (List.replicate 64 0)).toArray
theorem zero42 : (Tryd.prog.info? 42).map (fun i => (i.zero, i.size)) = some (some (.agg Z42), 64) := by kernel_rfl
def Tk (d : List Nat) (k : Nat) : List Nat := Sha.text (d.take k) ++ List.replicate (64 - 2 * k) 0
theorem text_len (d : List Nat) : (Sha.text d).length = 2 * d.length := by
  induction d with
  | nil => rfl
  | cons x d ih => simp only [Sha.text, List.flatMap_cons, List.length_append, List.length_cons, List.length_nil] at *; omega
theorem Tk_len (d : List Nat) (k : Nat) (hd : d.length = 32) (h : k ≤ 32) : (Tk d k).length = 64 := by
  simp only [Tk, List.length_append, text_len, List.length_take, List.length_replicate]; omega
theorem text_snoc (d : List Nat) (x : Nat) : Sha.text (d ++ [x]) = Sha.text d ++ [Sha.hexd.getD (x / 16) 0, Sha.hexd.getD (x % 16) 0] := by
  simp [Sha.text]
theorem Tk_set (d : List Nat) (k : Nat) (hd : d.length = 32) (h : k < 32) : ((Tk d k).set (2 * k) (Sha.hexd.getD (d.getD k 0 / 16) 0)).set (2 * k + 1) (Sha.hexd.getD (d.getD k 0 % 16) 0) = Tk d (k + 1) := by
  unfold Tk
  have ht : (Sha.text (d.take k)).length = 2 * k := by rw [text_len, List.length_take]; omega
  rw [take_snoc d k (by omega), text_snoc, show 64 - 2 * k = (64 - 2 * (k + 1)) + 1 + 1 by omega, List.replicate_succ, List.replicate_succ, List.set_append_right _ _ (by omega), ht, Nat.sub_self, List.set_cons_zero,
    List.set_append_right _ _ (by omega), ht, show 2 * k + 1 - 2 * k = 1 by omega, List.set_cons_succ, List.set_cons_zero, List.append_assoc]
  rfl
theorem text_lt (d : List Nat) (j : Nat) : (Sha.text d).getD j 0 < 256 := by
  have h : ∀ x ∈ Sha.text d, x < 256 := by
    intro x hx
    have hh : ∀ i, Sha.hexd.getD i 0 < 256 := by
      intro i
      rw [List.getD_eq_getElem?_getD]
      rcases hi : Sha.hexd[i]? with _ | y
      · simp
      · exact (by decide : ∀ y ∈ Sha.hexd, y < 256) y (List.mem_of_getElem? hi)
    simp only [Sha.text, List.mem_flatMap, List.mem_cons, List.not_mem_nil, or_false] at hx
    obtain ⟨y, _, rfl | rfl⟩ := hx
    · exact hh _
    · exact hh _
  rw [List.getD_eq_getElem?_getD]
  rcases hi : (Sha.text d)[j]? with _ | x
  · simp
  · exact h x (List.mem_of_getElem? hi)
theorem hex_at (q : Nat) (h : q < (ByteArray.mk #[48, 49, 50, 51, 52, 53, 54, 55, 56, 57, 97, 98, 99, 100, 101, 102]).size) :
    ((ByteArray.mk #[48, 49, 50, 51, 52, 53, 54, 55, 56, 57, 97, 98, 99, 100, 101, 102])[q]'h).toNat = Sha.hexd.getD q 0 := by
  have h16 : q < 16 := h
  have H : ∀ i : Fin 16, ((#[48, 49, 50, 51, 52, 53, 54, 55, 56, 57, 97, 98, 99, 100, 101, 102] : Array UInt8)[i.1]'i.2).toNat = Sha.hexd.getD i.1 0 := by decide +kernel
  exact H ⟨q, h16⟩
theorem u8L_setA (l : List Nat) (i v : Nat) : (u8L l).toArray.setIfInBounds i (.int .u8 (v : Int)) = (u8L (l.set i v)).toArray := by
  apply Array.toList_inj.1
  rw [Array.toList_setIfInBounds]
  show (u8L l).set i _ = u8L (l.set i v)
  rw [u8L_set]
set_option maxRecDepth 100000 in
set_option maxHeartbeats 2000000 in
theorem text_any (d : List Nat) (w : World) (hd : d.length = 32) (hb : Sha.bytes d) :
    Calls Tryd.prog 9 #[.agg (u8L d).toArray] w fun e w' => e = .returned (.string (txt (Sha.text d))) ∧ Below w.heap.size w w' := by
  have hz42 := (zero_of_info zero42).1
  have HZ := Lib.hid (size27 d hd)
  have HB := Lib.hid hb
  clear hb
  go_enter Tryd.func9, Tryd.ntmps9
  go_wp2_with fail
  have a1 : At ((w.alloc (.cells (u8L d).toArray 27)).alloc (.cells Z42 42)) w.heap.size 27 (u8L d).toArray := (At.new _ _ _).alloc _
  have t1 : At ((w.alloc (.cells (u8L d).toArray 27)).alloc (.cells Z42 42)) (w.heap.size + 1) 42 (u8L (Tk d 0)).toArray := by
    have := At.new (w.alloc (.cells (u8L d).toArray 27)) 42 Z42
    rw [size_alloc] at this
    exact this
  have b1 : Below w.heap.size w ((w.alloc (.cells (u8L d).toArray 27)).alloc (.cells Z42 42)) := ((Below.refl _ w).alloc (Nat.le_refl _) _).alloc (by rw [size_alloc]; omega) _
  generalize hw1 : (w.alloc (.cells (u8L d).toArray 27)).alloc (.cells Z42 42) = w1 at *
  clear hw1
  have A1 := Lib.hid a1
  go_loopw [5] (fun i wr => ∃ k : Nat, k ≤ 32 ∧ i = .int .i64 k ∧ At wr (w.heap.size + 1) 42 (u8L (Tk d k)).toArray ∧ w1.grownBy wr (some (w.heap.size + 1))) (fun i _ => 32 - (intOf i).toNat)
  case atStart => exact ⟨0, by omega, rfl, t1, World.grownBy.refl _ _⟩
  case round =>
    obtain ⟨k, hk, rfl, hk2, hkg⟩ := hrel
    have HK3 := Lib.hid hk2
    by_cases hlt : k < 32
    · have hG := A1.out.grown hkg (by simp)
      have cx : wr.cell? ⟨w.heap.size, k, none⟩ = some (.int .u8 (d.getD k 0 : Nat)) := (hG.cell k).trans (by rw [List.getElem?_toArray]; exact u8L_get d k (by omega))
      have f1 := hk2.free (2 * k)
      have f2 := hk2.free (2 * k + 1)
      have c1 : wr.cell? ⟨w.heap.size + 1, 2 * k, none⟩ = some (.int .u8 ((Tk d k).getD (2 * k) 0 : Nat)) := (hk2.cell (2 * k)).trans (by rw [List.getElem?_toArray]; exact u8L_get (Tk d k) (2 * k) (by rw [Tk_len _ _ hd hk]; omega))
      have c2 : wr.cell? ⟨w.heap.size + 1, 2 * k + 1, none⟩ = some (.int .u8 ((Tk d k).getD (2 * k + 1) 0 : Nat)) := (hk2.cell (2 * k + 1)).trans (by rw [List.getElem?_toArray]; exact u8L_get (Tk d k) (2 * k + 1) (by rw [Tk_len _ _ hd hk]; omega))
      have hx := Sha.bytes_getD HB.out k
      have HT := Lib.hid (Tk_set d k hd hlt)
      clear hG hk2 a1 t1
      generalize d.getD k 0 = x at *
      have hand : bits .and .u8 (x : Int) 15 = ((x % 16 : Nat) : Int) := (u8_and15 (x := (x : Int)) (by omega) (by omega)).trans (by omega)
      have q0 : 0 ≤ (x : Int) / 16 := by omega
      have q1 : (x : Int) / 16 < 16 := by omega
      have r0 : 0 ≤ (x : Int) % 16 := by omega
      have r1 : (x : Int) % 16 < 16 := by omega
      go_wp2_with fail
      go_region
      rw [hex_at, hex_at]
      go_wp2_with fail
      go_roundw
      case rel =>
        refine ⟨k + 1, by omega, by go_num, ?_, only_drew (only_set (g := w.heap.size + 1) (p := ⟨w.heap.size + 1, 2 * k + 1, none⟩) (only_set (g := w.heap.size + 1) (p := ⟨w.heap.size + 1, 2 * k, none⟩) hkg (.inl rfl) _) (.inl rfl) _)⟩
        have := (HK3.out.put (2 * k) (.int .u8 (Sha.hexd.getD (x / 16) 0 : Nat))).put (2 * k + 1) (.int .u8 (Sha.hexd.getD (x % 16) 0 : Nat))
        rw [u8L_setA, u8L_setA, HT.out] at this
        exact this
      case measure => simp [intOf]; omega
    · have hd2 : decide ((k : Int) < 32) = false := by simp; omega
      have hk32 : k = 32 := by omega
      have h7 := HK3.out
      rw [hk32] at h7
      rw [show Tk d 32 = Sha.text d from by unfold Tk; rw [List.take_of_length_le (by omega)]; simp] at h7
      have hcv := run_convert_bytes_back (P := Tryd.prog) wr 24 9 5 ⟨w.heap.size + 1, 0, none⟩ 64 ((Sha.text d).map UInt8.ofNat) Tryd.underlying24 Tryd.underlying5 Tryd.underlying9 (by
        intro j hj
        rw [List.length_map] at hj
        have e : (⟨w.heap.size + 1, 0, none⟩ : Addr).add j = ⟨w.heap.size + 1, j, none⟩ := by simp [Addr.add]; omega
        rw [e, h7.cell, List.getElem?_toArray, u8L_get _ _ hj, List.getElem_map]
        have hs := text_lt d j
        rw [List.getD_eq_getElem?_getD, List.getElem?_eq_getElem hj] at hs ⊢
        simp only [Option.getD_some] at hs ⊢
        rw [UInt8.toNat_ofNat', Nat.mod_eq_of_lt (by omega)])
      rw [show ((Sha.text d).map UInt8.ofNat).length = 64 from by rw [List.length_map, text_len, hd]] at hcv
      clear h7 hk2 a1 t1
      go_wp2_with fail
      go_ret
      exact ⟨rfl, below_only b1 hkg (by have := b1.size; omega) (by omega)⟩
theorem stream_bytes (bs : List Nat) : Sha.bytes (Sha.stream bs) := by
  intro x hx
  simp only [Sha.stream, Sha.digest, List.mem_map] at hx
  obtain ⟨i, _, rfl⟩ := hx
  exact Nat.mod_lt _ (by omega)
def abcS : ByteArray := ⟨#[98, 97, 55, 56, 49, 54, 98, 102, 56, 102, 48, 49, 99, 102, 101, 97, 52, 49, 52, 49, 52, 48, 100, 101, 53, 100, 97, 101, 50, 50, 50, 51, 98, 48, 48, 51, 54, 49, 97, 51, 57, 54, 49, 55, 55, 97, 57, 99, 98, 52, 49, 48, 102, 102, 54, 49, 102, 50, 48, 48, 49, 53, 97, 100]⟩
theorem abc_txt : txt (Sha.text (Sha.stream [97, 98, 99])) = abcS := by rw [Sha.abc]; unfold txt abcS; decide +kernel
set_option maxRecDepth 100000 in
set_option maxHeartbeats 2000000 in
theorem awake_any (w : World) (hK : KSat w) : Calls Tryd.prog 5 #[] w fun e w' => e = .returned (.bool true) ∧ Below w.heap.size w w' := by
  have kc := fun (w : World) (C : Array Value) (n c : Nat) => Lib.run_convert_bytes_const (P := Tryd.prog) w 24 5 C n c Tryd.underlying24 Tryd.underlying5
  have HK := Lib.hid hK
  have h0 := hK.lt
  clear hK
  go_enter Tryd.func5, Tryd.ntmps5
  go_wp2_with fail
  have b1 : Below w.heap.size w (w.alloc (.cells #[.int .u8 97, .int .u8 98, .int .u8 99] 5 (3, 4))) := (Below.refl _ w).alloc (Nat.le_refl _) _
  have B1 : BytesAt (w.alloc (.cells #[.int .u8 97, .int .u8 98, .int .u8 99] 5 (3, 4))) w.heap.size 0 [97, 98, 99] := by
    refine ⟨?_, by unfold Sha.bytes; decide⟩
    intro i v hv
    rw [Nat.zero_add, cell_of_row _ _ _ _ 5 (3, 4) (heap_alloc_last w _), ← hv]
    show (#[Value.int .u8 97, .int .u8 98, .int .u8 99] : Array Value)[i]? = _
    rw [← List.getElem?_toArray]
    rfl
  have lt1 : w.heap.size < (w.alloc (.cells #[.int .u8 97, .int .u8 98, .int .u8 99] 5 (3, 4))).heap.size := by rw [size_alloc]; omega
  generalize hw1 : w.alloc (.cells #[.int .u8 97, .int .u8 98, .int .u8 99] 5 (3, 4)) = w1 at *
  clear hw1
  refine (of_any w.heap.size 0 3 [97, 98, 99] w1 B1 lt1 (by decide) (HK.out.below b1 h0)).mono ?_
  rintro e w2 ⟨rfl, b2⟩
  go_wp2_with fail
  refine (text_any (Sha.stream [97, 98, 99]) w2 (stream_len _) (stream_bytes _)).mono ?_
  rintro e w3 ⟨rfl, b3⟩
  rw [abc_txt]
  unfold abcS
  go_wp2_with fail
  go_ret
  refine ⟨rfl, ?_⟩
  have b4 : Below w.heap.size w w2 := b1.trans ⟨b2.os, b2.tape, b2.output, b2.size, fun i hi => b2.block i (by omega)⟩
  exact b4.trans ⟨b3.os, b3.tape, b3.output, b3.size, fun i hi => b3.block i (by have := b2.size; omega)⟩
end Go.Proofs.YtcnijcmddnacaaaDoor
