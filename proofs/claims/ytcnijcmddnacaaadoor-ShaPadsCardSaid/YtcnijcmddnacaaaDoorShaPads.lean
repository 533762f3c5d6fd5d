/- The law ShaPads walked: true, whatever the length and the byte. Conditions: the table of constants is laid. -/
import Derived.Test.YtcnijcmddnacaaaDoorShaRefOf
import Derived.Deep.OwnRows
import Derived.Laws.OwnMore
import Derived.ChangeKeysEq
import Derived.Laws.StructEq
namespace Go.Proofs.YtcnijcmddnacaaaDoor
open Go.RowKit
set_option linter.unusedVariables false
def fillB (n k x : Nat) : List Nat := List.replicate k x ++ List.replicate (n - k) 0
theorem fillB_len (n k x : Nat) (h : k ≤ n) : (fillB n k x).length = n := by simp [fillB]; omega
theorem fillB_zero (n x : Nat) : fillB n 0 x = List.replicate n 0 := by simp [fillB]
theorem fillB_set (n k x : Nat) (h : k < n) : (fillB n k x).set k x = fillB n (k + 1) x := by
  unfold fillB
  rw [List.set_append_right _ _ (by simp), List.length_replicate, Nat.sub_self, show n - k = (n - (k + 1)) + 1 by omega, List.replicate_succ, List.set_cons_zero, List.replicate_succ', List.append_assoc, List.singleton_append]
theorem fillB_all (n x : Nat) : fillB n n x = List.replicate n x := by simp [fillB]
theorem plain5 : Tryd.prog.plainKey 5 = true := by kernel_rfl
theorem cellsOne5 : Tryd.prog.cellsOf 5 = 1 := by kernel_rfl
theorem eqItems_same (l : List Nat) (w : World) (d : Nat) : ∀ is : List Nat, (∀ i ∈ is, i < l.length) → (Op.eqItems (d + 1) 5 1 (u8L l).toArray (u8L l).toArray is).run Tryd.prog w = .ok true w
  | [], _ => by simp [Op.eqItems]
  | i :: is, h => by
    have hi := h i (List.mem_cons_self ..)
    have hx : (u8L l).toArray[i * 1]? = some (.int .u8 (l.getD i 0 : Nat)) := by rw [Nat.mul_one, List.getElem?_toArray]; exact u8L_get l i hi
    have ih := eqItems_same l w d is (fun j hj => h j (List.mem_cons_of_mem _ hj))
    simp only [Op.eqItems, Sem.run_bind, run_part_plain w plain5 hx, Result.andThen_ok, run_equalIn_int w d 5 .u8 .u8 _ _ Tryd.underlying5, beq_self_eq_true, Bool.not_true, Bool.false_eq_true, if_false, ih]
theorem eq_same (l : List Nat) (h : l.length = 32) (w : World) : (Op.equalIn 10000 27 (.agg (u8L l).toArray) (.agg (u8L l).toArray)).run Tryd.prog w = .ok true w := by
  obtain ⟨i0, hi0, _⟩ := info_parts info5
  rw [show 10000 = 9999 + 1 from rfl, run_equalIn_array w 9999 _ _ Tryd.underlying27 hi0, cellsOne5]
  exact eqItems_same l w 9998 _ (fun i hi => by rw [h]; exact List.mem_range.1 hi)
theorem made_bytes (n : Nat) : madeCells #[Value.int .u8 0] n = (u8L (List.replicate n 0)).toArray := by
  apply Array.toList_inj.1
  rw [toList_madeCells_one]
  simp [u8L]

set_option maxRecDepth 100000 in
set_option maxHeartbeats 2000000 in
theorem pads_any (n x : Nat) (w : World) (hn : n < 65536) (hx : x < 256) (hK : KSat w) :
    Calls Tryd.prog 3 #[.int .u16 (n : Int), .int .u8 (x : Int)] w fun e w' => e = .returned (.bool true) ∧ Below w.heap.size w w' := by
  obtain ⟨i0, hi0, hz0, hz1, hz2⟩ := info_parts info5
  have HI0 := Lib.hid hi0
  have HZ0 := Lib.hid hz0
  have HZ1 := Lib.hid hz1
  have HZ2 := Lib.hid hz2
  have HK := Lib.hid hK
  have h0 := hK.lt
  clear hi0 hz0 hz1 hz2 hK
  obtain ⟨L, hL⟩ : ∃ L, L = n % 4000 := ⟨_, rfl⟩
  have qL : (n : Int) % 4000 = (L : Int) := by omega
  have lL : L < 4000 := by omega
  clear hL
  have hm1 : i0.bytes * L ≤ 281474976710656 := by rw [HZ2.out]; omega
  have HM1 := Lib.hid hm1
  clear hm1
  go_enter Tryd.func3, Tryd.ntmps3
  go_wp2_with fail
  refine (awake_any w HK.out).mono ?_
  rintro e w1 ⟨rfl, b1⟩
  go_wp2_with (at_make; refine wpList_make_row _ rfl _ _ _ rfl 5 i0 (.int .u8 0) Tryd.underlying24 HI0.out HZ0.out HZ1.out rfl .i64 .i64 L (by rw [← qL]; rfl) (by rw [← qL]; rfl) HM1.out (by omega) ?_)
  rw [made_bytes]
  have hb1 : At (w1.alloc (.cells (u8L (List.replicate L 0)).toArray 5)) w1.heap.size 5 (u8L (fillB L 0 x)).toArray := by rw [fillB_zero]; exact At.new _ _ _
  have b2 : Below w.heap.size w (w1.alloc (.cells (u8L (List.replicate L 0)).toArray 5)) := b1.alloc b1.size _
  have hsz : w1.heap.size < (w1.alloc (.cells (u8L (List.replicate L 0)).toArray 5)).heap.size := by rw [size_alloc]; omega
  have hB1 := b1.size
  generalize w1.heap.size = D at *
  generalize w1.alloc (.cells (u8L (List.replicate L 0)).toArray 5) = w2 at *
  have HB1 := Lib.hid hb1
  have HB2 := Lib.hid b2
  clear hb1 b2 b1
  go_wp2_with fail
  go_loopw [6] (fun i wr => ∃ k : Nat, k ≤ L ∧ i = .int .i64 k ∧ At wr D 5 (u8L (fillB L k x)).toArray ∧ w2.grownBy wr (some D)) (fun i _ => L - (intOf i).toNat)
  case atStart => exact ⟨0, by omega, rfl, HB1.out, World.grownBy.refl _ _⟩
  case round =>
    obtain ⟨k, hk, rfl, hA, hg⟩ := hrel
    by_cases hlt : k < L
    · have cx : wr.cell? ⟨D, k, none⟩ = some (.int .u8 ((fillB L k x).getD k 0 : Nat)) := (hA.cell k).trans (by rw [List.getElem?_toArray]; exact u8L_get _ _ (by rw [fillB_len _ _ _ hk]; exact hlt))
      have fx := hA.free k
      have HA := Lib.hid hA
      have HS := Lib.hid (fillB_set L k x hlt)
      clear hA
      generalize (fillB L k x).getD k 0 = old at *
      go_wp2_with fail
      go_roundw
      case rel =>
        refine ⟨k + 1, by omega, by go_num, ?_, only_set hg (.inl rfl) _⟩
        have := HA.out.put k (.int .u8 (x : Int))
        rw [u8L_setA, HS.out] at this
        exact this
      case measure => simp [intOf]; omega
    · have hd : decide ((k : Int) < (L : Int)) = false := by simp; omega
      have hkL : k = L := by omega
      rw [hkL, fillB_all] at hA
      have hbs : BytesAt wr D 0 (List.replicate L x) := ⟨fun i v hv => by rw [Nat.zero_add, hA.cell, List.getElem?_toArray]; exact hv, fun y hy => by rw [(List.mem_replicate.1 hy).2]; exact hx⟩
      have b3 : Below w.heap.size w wr := HB2.out.grown hg (by omega) (fun r e => by cases e; omega)
      have hD := hA.lt
      have HA := Lib.hid hA
      have HBS := Lib.hid hbs
      have hln : (List.replicate L x).length = L := List.length_replicate ..
      have HB3 := Lib.hid b3
      clear hkL hA hbs b3 hg
      generalize List.replicate L x = bs at *
      obtain ⟨w3, rfl⟩ : ∃ w3 : World, w3 = wr := ⟨_, rfl⟩
      go_wp2_with fail
      clear hd
      subst hln
      refine (padded_any D 0 bs.length bs w3 HBS.out hD (by omega)).mono ?_
      rintro e w4 ⟨g, cp, rfl, _, _, _, b34⟩
      have b4 : Below w.heap.size w w4 := HB3.out.trans ⟨b34.os, b34.tape, b34.output, b34.size, fun i hi => b34.block i (by omega)⟩
      have B4 := Lib.hid (HBS.out.below b34 hD)
      have hD4 : D < w4.heap.size := by have := b34.size; omega
      have HB4 := Lib.hid b4
      have hpm := Sha.pad_mod bs
      have hpg := Sha.pad_gt bs
      have hpl := Sha.pad_le bs
      clear b34 b4
      have hst := Sha.stream_eq bs
      have HST := Lib.hid hst
      clear hst
      generalize (Sha.pad bs).length = P at *
      have z1 : (P : Int) % 64 = 0 := by omega
      have z2 : (P : Int) > (bs.length : Int) + 8 := by omega
      have z3 : (P : Int) ≤ (bs.length : Int) + 72 := by omega
      go_wp2_with fail
      refine (of_any D 0 bs.length bs w4 B4.out hD4 (by omega) (HK.out.below HB4.out h0)).mono ?_
      rintro e w5 ⟨rfl, b45⟩
      have b5 : Below w.heap.size w w5 := HB4.out.trans ⟨b45.os, b45.tape, b45.output, b45.size, fun i hi => b45.block i (by have := HB4.out.size; omega)⟩
      have B5 := Lib.hid (B4.out.below b45 hD4)
      have hD5 : D < w5.heap.size := by have := b45.size; omega
      have HB5 := Lib.hid b5
      clear b45 b5
      go_wp2_with fail
      refine (refof_any D 0 bs.length bs w5 B5.out hD5 (by omega)).mono ?_
      rintro e w6 ⟨rfl, b56⟩
      have b6 : Below w.heap.size w w6 := HB5.out.trans ⟨b56.os, b56.tape, b56.output, b56.size, fun i hi => b56.block i (by have := HB5.out.size; omega)⟩
      have HB6 := Lib.hid b6
      clear b56 b6
      rw [← HST.out]
      have heq := eq_same (Sha.stream bs) (stream_len bs) w6
      go_wp2_with fail
      go_ret
      exact ⟨rfl, HB6.out⟩
end Go.Proofs.YtcnijcmddnacaaaDoor
