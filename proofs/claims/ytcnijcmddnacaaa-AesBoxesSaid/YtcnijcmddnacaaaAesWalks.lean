/- The walks of AesBoxes: what each Go function that the law reaches answers, for every byte; no conditions beside the byte's range. -/
import Derived.Test.YtcnijcmddnacaaaProg
import Derived.Test.YtcnijcmddnacaaaAesPlain
import Derived.WalkKit
import Derived.Lib.Hide
import Derived.Deep.WholeRow
import Derived.Laws.CopyOwn
namespace Go.Proofs.Ytcnijcmddnacaaa
open Go.RowKit
set_option linter.unusedVariables false
theorem dbl_bits (a : Nat) (ha : a < 256) : bits .xor .u8 ((a : Int) * 2 % 256) 27 = ((a * 2 % 256 ^^^ 27 : Nat) : Int) := by
  have := u8_xor_nat (a * 2 % 256) 27 (by omega) (by omega)
  simpa using this
theorem shl_bits (a b m : Nat) (ha : a < 256) (hb : b < 256) : bits .xor .u8 (a : Int) ((b : Int) * (m : Int) % 256) = ((a ^^^ (b * m % 256) : Nat) : Int) := by
  have := u8_xor_nat a (b * m % 256) ha (by omega)
  simpa using this
theorem rot_bits (x m d : Nat) (hx : x < 256) : bits .or .u8 ((x : Int) * (m : Int) % 256) ((x : Int) / (d : Int)) = ((rotN x m d : Nat) : Int) := by
  have := u8_or_nat (x * m % 256) (x / d) (by omega) (Nat.lt_of_le_of_lt (Nat.div_le_self _ _) hx)
  simpa [rotN] using this
theorem ret_u8 {a b : Int} (h : a = b) : Ending.returned (.int .u8 a) = Ending.returned (.int .u8 b) := by rw [h]
def dblI (x : Int) : Int := if 128 ≤ x then bits .xor .u8 (x * 2 % 256) 27 else x * 2 % 256
theorem double_int (x : Int) (hx : 0 ≤ x) (hx' : x < 256) (w : World) :
    Calls Try.prog 31 #[.int .u8 x] w fun e w' => e = .returned (.int .u8 (dblI x)) ∧ w = w' := by
  go_enter Try.func31, Try.ntmps31
  go_wp2
  · have h : 128 ≤ x := by assumption
    go_ret
    exact ⟨by simp [dblI, h], rfl⟩
  · have h : ¬ 128 ≤ x := by omega
    go_ret
    exact ⟨by simp [dblI, h], rfl⟩
theorem dblI_nat (a : Nat) (ha : a < 256) : dblI (a : Int) = (dblN a : Nat) := by
  unfold dblI dblN
  by_cases h : 128 ≤ a
  · rw [if_pos h, if_pos (by omega)]; exact dbl_bits a ha
  · rw [if_neg h, if_neg (by omega)]; omega
theorem double_any (a : Nat) (ha : a < 256) (w : World) :
    Calls Try.prog 31 #[.int .u8 (a : Int)] w fun e w' => e = .returned (.int .u8 (dblN a : Nat)) ∧ w = w' := by
  rw [← dblI_nat a ha]
  exact double_int a (by omega) (by omega) w
theorem rot_1 (x : Nat) (hx : x < 256) (w : World) :
    Calls Try.prog 32 #[.int .u8 (x : Int), .int .i64 1] w fun e w' => e = .returned (.int .u8 (rotN x 2 128 : Nat)) ∧ w = w' := by
  have h3 : bits .and .u64 1 7 = 1 := by decide
  go_enter Try.func32, Try.ntmps32
  go_wp2
  go_ret
  exact ⟨ret_u8 (rot_bits x 2 128 hx), rfl⟩
theorem left_1 (x : Nat) (hx : x < 256) (w : World) :
    Calls Try.prog 24 #[.int .u8 (x : Int), .int .u64 1] w fun e w' => e = .returned (.int .u8 (rotN x 2 128 : Nat)) ∧ w = w' := by
  go_enter Try.func24, Try.ntmps24
  go_wp2
  go_ret
  exact ⟨ret_u8 (rot_bits x 2 128 hx), rfl⟩
theorem rot_2 (x : Nat) (hx : x < 256) (w : World) :
    Calls Try.prog 32 #[.int .u8 (x : Int), .int .i64 2] w fun e w' => e = .returned (.int .u8 (rotN x 4 64 : Nat)) ∧ w = w' := by
  have h3 : bits .and .u64 2 7 = 2 := by decide
  go_enter Try.func32, Try.ntmps32
  go_wp2
  go_ret
  exact ⟨ret_u8 (rot_bits x 4 64 hx), rfl⟩
theorem left_2 (x : Nat) (hx : x < 256) (w : World) :
    Calls Try.prog 24 #[.int .u8 (x : Int), .int .u64 2] w fun e w' => e = .returned (.int .u8 (rotN x 4 64 : Nat)) ∧ w = w' := by
  go_enter Try.func24, Try.ntmps24
  go_wp2
  go_ret
  exact ⟨ret_u8 (rot_bits x 4 64 hx), rfl⟩
theorem rot_3 (x : Nat) (hx : x < 256) (w : World) :
    Calls Try.prog 32 #[.int .u8 (x : Int), .int .i64 3] w fun e w' => e = .returned (.int .u8 (rotN x 8 32 : Nat)) ∧ w = w' := by
  have h3 : bits .and .u64 3 7 = 3 := by decide
  go_enter Try.func32, Try.ntmps32
  go_wp2
  go_ret
  exact ⟨ret_u8 (rot_bits x 8 32 hx), rfl⟩
theorem left_3 (x : Nat) (hx : x < 256) (w : World) :
    Calls Try.prog 24 #[.int .u8 (x : Int), .int .u64 3] w fun e w' => e = .returned (.int .u8 (rotN x 8 32 : Nat)) ∧ w = w' := by
  go_enter Try.func24, Try.ntmps24
  go_wp2
  go_ret
  exact ⟨ret_u8 (rot_bits x 8 32 hx), rfl⟩
theorem rot_4 (x : Nat) (hx : x < 256) (w : World) :
    Calls Try.prog 32 #[.int .u8 (x : Int), .int .i64 4] w fun e w' => e = .returned (.int .u8 (rotN x 16 16 : Nat)) ∧ w = w' := by
  have h3 : bits .and .u64 4 7 = 4 := by decide
  go_enter Try.func32, Try.ntmps32
  go_wp2
  go_ret
  exact ⟨ret_u8 (rot_bits x 16 16 hx), rfl⟩
theorem left_4 (x : Nat) (hx : x < 256) (w : World) :
    Calls Try.prog 24 #[.int .u8 (x : Int), .int .u64 4] w fun e w' => e = .returned (.int .u8 (rotN x 16 16 : Nat)) ∧ w = w' := by
  go_enter Try.func24, Try.ntmps24
  go_wp2
  go_ret
  exact ⟨ret_u8 (rot_bits x 16 16 hx), rfl⟩

def Z256 : Array Value := Array.replicate 256 (.int .u8 0)
theorem zero45 : (Try.prog.info? 45).map (fun i => (i.zero, i.size)) = some (some (.agg Z256), 256) := by kernel_rfl
theorem Z256_size : Z256.size = 256 := by simp [Z256]
def tabV (t : List Nat) : Array Value := (t.map fun (n : Nat) => Value.int .u8 (n : Int)).toArray
theorem tabV_size (t : List Nat) : (tabV t).size = t.length := by simp [tabV]
theorem tabV_set (t : List Nat) (i v : Nat) : (tabV t).setIfInBounds i (.int .u8 (v : Int)) = tabV (t.set i v) := by
  simp [tabV, List.map_set]
theorem Z256_tab : Z256 = tabV (List.replicate 256 0) := by unfold Z256 tabV; rw [List.map_replicate, List.toArray_replicate]; rfl
theorem st_len (k : Nat) : (stN k).2.2.length = 256 := by
  induction k with
  | zero => show ((List.replicate 256 0).set 0 99).length = 256; rw [List.length_set, List.length_replicate]
  | succ k ih => show ((stN k).2.2.set _ _).length = 256; rw [List.length_set]; exact ih
theorem st_lt (k : Nat) : (stN k).1 < 256 ∧ (stN k).2.1 < 256 := by
  induction k with
  | zero => exact ⟨by show 1 < 256; omega, by show 1 < 256; omega⟩
  | succ k ih => exact ⟨pN_lt _ ih.1, qN_lt _ ih.2⟩
theorem st_p (k : Nat) : (stN (k + 1)).1 = pN (stN k).1 := rfl
theorem st_q (k : Nat) : (stN (k + 1)).2.1 = qN (stN k).2.1 := rfl
theorem st_t (k : Nat) : (stN (k + 1)).2.2 = (stN k).2.2.set (pN (stN k).1) (sbN (qN (stN k).2.1)) := rfl
theorem size45 (t : List Nat) (h : t.length = 256) : (Try.prog.info? 45).map (·.size) = some (tabV t).size := by
  rw [tabV_size, h]; exact (zero_of_info zero45).2
theorem tab_one (t : List Nat) : (tabV t).all (·.oneCell') = true := by
  rw [Array.all_eq_true_iff_forall_mem]
  intro v hv
  simp only [tabV, List.mem_toArray, List.mem_map] at hv
  obtain ⟨n, _, rfl⟩ := hv
  rfl
set_option maxRecDepth 100000 in
set_option maxHeartbeats 400000 in
theorem boxes_any (w : World) :
    Calls Try.prog 22 #[] w fun e w' => e = .returned (.agg (tabV boxN)) ∧ Below w.heap.size w w' := by
  have hz := (zero_of_info zero45).1
  have hZ := Z256_size
  go_enter Try.func22, Try.ntmps22
  go_wp2_with fail
  go_loopw [2, 3, 5] (fun p q i wr => ∃ k : Nat, k ≤ 255 ∧ i = .int .i64 k ∧ p = .int .u8 ((stN k).1 : Nat) ∧ q = .int .u8 ((stN k).2.1 : Nat) ∧ wr.heap[w.heap.size + 1]? = some (.cells (tabV (stN k).2.2) 45 (0, 0)) ∧ wr.heap[w.heap.size]? = some (.cells Z256 45 (0, 0)) ∧ Below w.heap.size w wr) (fun _ _ i _ => 255 - (intOf i).toNat)
  case atStart =>
    refine ⟨0, by omega, rfl, rfl, rfl, ?_, ?_, ?_⟩
    · rw [heap_alloc2_new, Z256_tab]
      exact congrArg (fun c => some (Obj.cells c 45 (0, 0))) (tabV_set _ 0 99)
    · exact heap_alloc2_old w _ _
    · exact ((Below.refl _ _).alloc (Nat.le_refl _) _).alloc (by simp) _
  case round =>
    obtain ⟨k, hk, rfl, rfl, rfl, ht, h0, hb⟩ := hrel
    by_cases hlt : k < 255
    · have hp1 := (st_lt k).1
      have hq1 := (st_lt k).2
      have hl := st_len k
      have hsp := st_p k
      have hsq := st_q k
      have hst := st_t k
      generalize (stN k).1 = p at *
      generalize (stN k).2.1 = q at *
      generalize (stN k).2.2 = t at *
      have HT := Lib.hid ht
      have H0 := Lib.hid h0
      have HP := Lib.hid hsp
      have HSQ := Lib.hid hsq
      have HST := Lib.hid hst
      have hpn := pN_lt p hp1
      have e0 : bits .xor .u8 (p : Int) (dblN p : Int) = (pN p : Int) := u8_xor_nat p _ hp1 (dblN_lt p)
      obtain ⟨q1, hq1d⟩ : ∃ q1, q1 = q ^^^ (q * 2 % 256) := ⟨_, rfl⟩
      obtain ⟨q2, hq2d⟩ : ∃ q2, q2 = q1 ^^^ (q1 * 4 % 256) := ⟨_, rfl⟩
      obtain ⟨q3, hq3d⟩ : ∃ q3, q3 = q2 ^^^ (q2 * 16 % 256) := ⟨_, rfl⟩
      have l1 : q1 < 256 := by rw [hq1d]; exact xor_lt hq1 (by omega)
      have l2 : q2 < 256 := by rw [hq2d]; exact xor_lt l1 (by omega)
      have l3 : q3 < 256 := by rw [hq3d]; exact xor_lt l2 (by omega)
      have e1 : bits .xor .u8 (q : Int) ((q : Int) * 2 % 256) = (q1 : Int) := by rw [hq1d]; exact shl_bits q q 2 hq1 hq1
      have e2 : bits .xor .u8 (q1 : Int) ((q1 : Int) * 4 % 256) = (q2 : Int) := by rw [hq2d]; exact shl_bits q1 q1 4 l1 l1
      have e3 : bits .xor .u8 (q2 : Int) ((q2 : Int) * 16 % 256) = (q3 : Int) := by rw [hq3d]; exact shl_bits q2 q2 16 l2 l2
      have h3 : q3 = q3N q := by rw [hq3d, hq2d, hq1d]; rfl
      obtain ⟨q4, hq4d⟩ : ∃ q4, q4 = qN q := ⟨_, rfl⟩
      have l4 : q4 < 256 := by rw [hq4d]; exact qN_lt q hq1
      have hcell : wr.cell? ⟨w.heap.size + 1, pN p, none⟩ = some (.int .u8 ((t[pN p]?.getD 0 : Nat) : Int)) := by
        rw [cell_of_row wr _ _ _ _ _ ht]
        simp [tabV, List.getElem?_eq_getElem (show pN p < t.length by omega)]
      have hfro : wr.frozen? ⟨w.heap.size + 1, pN p, none⟩ = false := frozen_of_row wr _ _ _ _ ht
      have s1 : bits .xor .u8 (q4 : Int) (rotN q4 2 128 : Int) = ((q4 ^^^ rotN q4 2 128 : Nat) : Int) := u8_xor_nat _ _ l4 (rotN_lt _ _ _ l4)
      have m1 := xor_lt l4 (rotN_lt q4 2 128 l4)
      have s2 : bits .xor .u8 ((q4 ^^^ rotN q4 2 128 : Nat) : Int) (rotN q4 4 64 : Int) = ((q4 ^^^ rotN q4 2 128 ^^^ rotN q4 4 64 : Nat) : Int) := u8_xor_nat _ _ m1 (rotN_lt _ _ _ l4)
      have m2 := xor_lt m1 (rotN_lt q4 4 64 l4)
      have s3 : bits .xor .u8 ((q4 ^^^ rotN q4 2 128 ^^^ rotN q4 4 64 : Nat) : Int) (rotN q4 8 32 : Int) = ((q4 ^^^ rotN q4 2 128 ^^^ rotN q4 4 64 ^^^ rotN q4 8 32 : Nat) : Int) := u8_xor_nat _ _ m2 (rotN_lt _ _ _ l4)
      have m3 := xor_lt m2 (rotN_lt q4 8 32 l4)
      have s4 : bits .xor .u8 ((q4 ^^^ rotN q4 2 128 ^^^ rotN q4 4 64 ^^^ rotN q4 8 32 : Nat) : Int) (rotN q4 16 16 : Int) = ((q4 ^^^ rotN q4 2 128 ^^^ rotN q4 4 64 ^^^ rotN q4 8 32 ^^^ rotN q4 16 16 : Nat) : Int) := u8_xor_nat _ _ m3 (rotN_lt _ _ _ l4)
      have m4 := xor_lt m3 (rotN_lt q4 16 16 l4)
      have s5 : bits .xor .u8 ((q4 ^^^ rotN q4 2 128 ^^^ rotN q4 4 64 ^^^ rotN q4 8 32 ^^^ rotN q4 16 16 : Nat) : Int) 99 = ((sbN q4 : Nat) : Int) := u8_xor_nat _ 99 m4 (by omega)
      have HQ := Lib.hid (show q4 = qN q from hq4d)
      have e4 : 128 ≤ q3 → bits .xor .u8 (q3 : Int) 9 = (q4 : Int) := fun h => by
        rw [hq4d, qN, if_pos (by omega), ← h3]; exact u8_xor_nat q3 9 l3 (by omega)
      have e5 : ¬ 128 ≤ q3 → q3 = q4 := fun h => by
        rw [hq4d, qN, if_neg (by omega), ← h3]
      clear hq1d hq2d hq3d h3 hq4d m1 m2 m3 m4 hsp hsq hst hl ht h0
      by_cases h9 : 128 ≤ q3
      · have e4 := e4 h9
        clear e5
        go_wp2_with (first | (go_at_call 31; refine (double_any _ hp1 _).mono ?_; rintro e w' ⟨rfl, rfl⟩) | (go_at_call 32; with_reducible refine (rot_1 _ l4 _).mono ?_; rintro e w' ⟨rfl, rfl⟩) | (go_at_call 32; with_reducible refine (rot_2 _ l4 _).mono ?_; rintro e w' ⟨rfl, rfl⟩) | (go_at_call 32; with_reducible refine (rot_3 _ l4 _).mono ?_; rintro e w' ⟨rfl, rfl⟩) | (go_at_call 32; with_reducible refine (rot_4 _ l4 _).mono ?_; rintro e w' ⟨rfl, rfl⟩))
        go_roundw
        case rel => exact ⟨k + 1, by omega, by go_num, by rw [HP.out], by rw [HSQ.out, HQ.out], by rw [heap_setCell_same _ _ _ _ _ _ HT.out, tabV_set, HST.out, HQ.out], by rw [heap_setCell_other _ _ _ _ (by simp)]; exact H0.out, hb.setCell (by simp) _⟩
        case measure => simp [intOf]; omega
      · have e5 := e5 h9
        clear e4
        subst e5
        go_wp2_with (first | (go_at_call 31; refine (double_any _ hp1 _).mono ?_; rintro e w' ⟨rfl, rfl⟩) | (go_at_call 32; with_reducible refine (rot_1 _ l4 _).mono ?_; rintro e w' ⟨rfl, rfl⟩) | (go_at_call 32; with_reducible refine (rot_2 _ l4 _).mono ?_; rintro e w' ⟨rfl, rfl⟩) | (go_at_call 32; with_reducible refine (rot_3 _ l4 _).mono ?_; rintro e w' ⟨rfl, rfl⟩) | (go_at_call 32; with_reducible refine (rot_4 _ l4 _).mono ?_; rintro e w' ⟨rfl, rfl⟩))
        go_roundw
        case rel => exact ⟨k + 1, by omega, by go_num, by rw [HP.out], by rw [HSQ.out, HQ.out], by rw [heap_setCell_same _ _ _ _ _ _ HT.out, tabV_set, HST.out, HQ.out], by rw [heap_setCell_other _ _ _ _ (by simp)]; exact H0.out, hb.setCell (by simp) _⟩
        case measure => simp [intOf]; omega
    · obtain rfl : k = 255 := by omega
      have hs := size45 boxN (st_len 255)
      have HS := Lib.hid hs
      have HT : wr.heap[w.heap.size + 1]? = some (.cells (tabV boxN) 45 (0, 0)) := ht
      have HT := Lib.hid HT
      have H0 := Lib.hid h0
      clear ht h0 hs
      go_wp2_with (first | (refine wpList_load_row rfl 45 _ rfl (w.heap.size + 1) rfl 45 (tabV boxN) (0, 0) _ HT.out Try.underlying45 rfl HS.out ?_) | (refine wpList_store_row rfl 45 _ _ rfl w.heap.size (tabV boxN) rfl rfl 45 Z256 H0.out HS.out ?c1 (tab_one _) ?_))
      case c1 => rw [tabV_size, Z256_size]; exact (st_len 255).symm
      refine bodyPost_ret (results_cell_row rfl _ _ w.heap.size 45 (tabV boxN) (0, 0) _ rfl (setRow_heap _ _ _ _ _ _ H0.out) Try.underlying45 rfl HS.out) rfl ⟨rfl, ?_⟩
      exact below_setRow hb (Nat.le_refl _) _
set_option maxRecDepth 100000 in
theorem box_any (x : Nat) (hx : x < 256) (w : World) :
    Calls Try.prog 9 #[.int .u8 (x : Int)] w fun e w' => e = .returned (.int .u8 (boxN.getD x 0 : Nat)) ∧ Below w.heap.size w w' := by
  have hz := (zero_of_info zero45).1
  have hl : boxN.length = 256 := st_len 255
  have HL := Lib.hid hl
  have HS := Lib.hid (size45 boxN hl)
  clear hl
  go_enter Try.func9, Try.ntmps9
  have hv : (tabV boxN)[x]? = some (.int .u8 (boxN.getD x 0 : Nat)) := by
    simp [tabV, List.getElem?_eq_getElem (show x < boxN.length by rw [HL.out]; exact hx)]
  go_wp2_with fail
  refine (boxes_any _).mono ?_
  rintro e w1 ⟨rfl, hb1⟩
  have hsr := World.setRow_alloc_new w1 Z256 (tabV boxN) 45
  go_wp2_with (refine wpList_store_row rfl 45 _ _ rfl w1.heap.size (tabV boxN) rfl rfl 45 Z256 (heap_alloc_new _ _) HS.out ?c1 (tab_one _) ?_)
  case c1 => rw [tabV_size, Z256_size]; exact HL.out.symm
  go_ret
  exact ⟨rfl, hb1.alloc hb1.size _⟩

theorem ofInt_i64 (a : Nat) (ha : a < 9223372036854775808) : (BitVec.ofInt 64 (a : Int)).toNat = a := by
  rw [BitVec.ofInt_natCast, BitVec.toNat_ofNat]; exact Nat.mod_eq_of_lt (by omega)
theorem i64_xor_nat (a b : Nat) (ha : a < 9223372036854775808) (hb : b < 9223372036854775808) : bits .xor .i64 (a : Int) (b : Int) = ((a ^^^ b : Nat) : Int) := by
  have hx : a ^^^ b < 2 ^ 63 := Nat.xor_lt_two_pow (by omega) (by omega)
  show IntKind.i64.wrap ((BitVec.ofInt 64 (a : Int) ^^^ BitVec.ofInt 64 (b : Int)).toNat : Int) = _
  rw [BitVec.toNat_xor, ofInt_i64 a ha, ofInt_i64 b hb, IntKind.wrap_i64]
  omega
theorem red_lt : ∀ y : Fin 512, 256 ≤ y.val → y.val ^^^ 283 < 256 := by decide +kernel
theorem bit_yes {b k : Nat} (h : (((b : Int) / 2 ^ k).tmod 2 == 1) = true) : b / 2 ^ k % 2 = 1 := by
  have h1 : ((b : Int) / 2 ^ k).tmod 2 = 1 := by simpa using h
  have e : ((b : Int) / 2 ^ k) = ((b / 2 ^ k : Nat) : Int) := by simp
  rw [e, Int.tmod_eq_emod_of_nonneg (Int.natCast_nonneg _)] at h1
  exact_mod_cast h1
theorem bit_no {b k : Nat} (h : (((b : Int) / 2 ^ k).tmod 2 == 1) = false) : ¬ b / 2 ^ k % 2 = 1 := by
  have h1 : ¬ ((b : Int) / 2 ^ k).tmod 2 = 1 := by simpa using h
  have e : ((b : Int) / 2 ^ k) = ((b / 2 ^ k : Nat) : Int) := by simp
  rw [e, Int.tmod_eq_emod_of_nonneg (Int.natCast_nonneg _)] at h1
  exact_mod_cast h1
theorem i64_eq {a b : Int} (h : a = b) : Value.int .i64 a = Value.int .i64 b := by rw [h]
theorem ts_lt (a b : Nat) (ha : a < 256) : ∀ k, (timesSt a b k).1 < 256 ∧ (timesSt a b k).2 < 256
  | 0 => ⟨by show 0 < 256; omega, ha⟩
  | k + 1 => by
    obtain ⟨h1, h2⟩ := ts_lt a b ha k
    show (timesStep b _ k).1 < 256 ∧ (timesStep b _ k).2 < 256
    unfold timesStep
    constructor
    · dsimp only; split
      · exact xor_lt h1 h2
      · exact h1
    · dsimp only; split
      · exact red_lt ⟨(timesSt a b k).2 * 2, by omega⟩ (by assumption)
      · omega
set_option maxRecDepth 100000 in
set_option maxHeartbeats 400000 in
theorem times_any (a b : Nat) (ha : a < 256) (hb : b < 256) (w : World) :
    Calls Try.prog 33 #[.int .u8 (a : Int), .int .u8 (b : Int)] w fun e w' => e = .returned (.int .u8 (timesN a b : Nat)) ∧ w = w' := by
  go_enter Try.func33, Try.ntmps33
  go_wp2_with fail
  go_loop [5, 6, 7] (fun o x i => ∃ k : Nat, k ≤ 8 ∧ i = .int .i64 k ∧ o = .int .i64 ((timesSt a b k).1 : Nat) ∧ x = .int .i64 ((timesSt a b k).2 : Nat)) (fun _ _ i => 8 - (intOf i).toNat)
  case atStart => exact ⟨0, by omega, rfl, rfl, rfl⟩
  case round =>
    obtain ⟨k, hk, rfl, rfl, rfl⟩ := hrel
    have hts := ts_lt a b ha k
    have hstep : timesSt a b (k + 1) = timesStep b (timesSt a b k) k := rfl
    by_cases hlt : k < 8
    · have HS := Lib.hid hstep
      clear hstep
      generalize timesSt a b k = s at *
      obtain ⟨o, x⟩ := s
      obtain ⟨h1, h2⟩ := hts
      dsimp only at h1 h2
      have hx1 : bits .xor .i64 (o : Int) (x : Int) = ((o ^^^ x : Nat) : Int) := i64_xor_nat o x (by omega) (by omega)
      have hx2 : bits .xor .i64 ((x : Int) * 2) 283 = ((x * 2 ^^^ 283 : Nat) : Int) := i64_xor_nat (x * 2) 283 (by omega) (by omega)
      have HX1 := Lib.hid hx1
      have HX2 := Lib.hid hx2
      clear hx1 hx2
      go_wp2
      · have hbit := bit_yes (b := b) (k := k) (by assumption)
        have hc : 256 ≤ (x : Int) * 2 := by assumption
        go_round
        case rel => exact ⟨k + 1, by omega, by go_num, by rw [HS.out, HX1.out]; simp only [timesStep]; rw [if_pos hbit], by rw [HS.out, HX2.out]; simp only [timesStep]; rw [if_pos (by omega)]⟩
        case measure => simp [intOf]; omega
      · have hbit := bit_yes (b := b) (k := k) (by assumption)
        have hc : (x : Int) * 2 < 256 := by assumption
        go_round
        case rel => exact ⟨k + 1, by omega, by go_num, by rw [HS.out, HX1.out]; simp only [timesStep]; rw [if_pos hbit], by rw [HS.out]; simp only [timesStep]; rw [if_neg (by omega)]; exact i64_eq (by omega)⟩
        case measure => simp [intOf]; omega
      · have hbit := bit_no (b := b) (k := k) (by assumption)
        have hc : 256 ≤ (x : Int) * 2 := by assumption
        go_round
        case rel => exact ⟨k + 1, by omega, by go_num, by rw [HS.out]; simp only [timesStep]; rw [if_neg hbit], by rw [HS.out, HX2.out]; simp only [timesStep]; rw [if_pos (by omega)]⟩
        case measure => simp [intOf]; omega
      · have hbit := bit_no (b := b) (k := k) (by assumption)
        have hc : (x : Int) * 2 < 256 := by assumption
        go_round
        case rel => exact ⟨k + 1, by omega, by go_num, by rw [HS.out]; simp only [timesStep]; rw [if_neg hbit], by rw [HS.out]; simp only [timesStep]; rw [if_neg (by omega)]; exact i64_eq (by omega)⟩
        case measure => simp [intOf]; omega
    · obtain rfl : k = 8 := by omega
      clear hstep
      have hfin : timesN a b = (timesSt a b 8).1 % 256 := rfl
      have HF := Lib.hid hfin
      clear hfin
      generalize timesSt a b 8 = s at *
      go_wp2
      go_ret
      exact ⟨ret_u8 (by rw [HF.out]; omega), rfl⟩
theorem timesN_lt (a b : Nat) : timesN a b < 256 := Nat.mod_lt _ (by omega)
theorem invN_lt (x : Nat) : ∀ k, invN x k < 256
  | 0 => by show 1 < 256; omega
  | _ + 1 => timesN_lt _ _
set_option maxRecDepth 100000 in
set_option maxHeartbeats 400000 in
theorem inverse_any (x : Nat) (hx : x < 256) (w : World) :
    Calls Try.prog 23 #[.int .u8 (x : Int)] w fun e w' => e = .returned (.int .u8 (invN x 254 : Nat)) ∧ w = w' := by
  go_enter Try.func23, Try.ntmps23
  go_wp2_with fail
  go_loop [3, 4] (fun o i => ∃ k : Nat, k ≤ 254 ∧ i = .int .i64 k ∧ o = .int .u8 (invN x k : Nat)) (fun _ i => 254 - (intOf i).toNat)
  case atStart => exact ⟨0, by omega, rfl, rfl⟩
  case round =>
    obtain ⟨k, hk, rfl, rfl⟩ := hrel
    have ho := invN_lt x k
    have hstep : invN x (k + 1) = timesN (invN x k) x := rfl
    by_cases hlt : k < 254
    · have HS := Lib.hid hstep
      clear hstep
      generalize invN x k = o at *
      go_wp2_with (go_at_call 33; refine (times_any _ _ ho hx _).mono ?_; rintro e w' ⟨rfl, rfl⟩)
      go_round
      case rel => exact ⟨k + 1, by omega, by go_num, by rw [HS.out]⟩
      case measure => simp [intOf]; omega
    · obtain rfl : k = 254 := by omega
      clear hstep ho
      generalize hg : invN x 254 = o at *
      have HG := Lib.hid hg
      clear hg
      go_wp2
      go_ret
      exact ⟨by rw [HG.out]; rfl, rfl⟩
set_option maxRecDepth 100000 in
set_option maxHeartbeats 400000 in
theorem refbox_any (x : Nat) (hx : x < 256) (w : World) :
    Calls Try.prog 10 #[.int .u8 (x : Int)] w fun e w' => e = .returned (.int .u8 (refN x : Nat)) ∧ w = w' := by
  have l4 := invN_lt x 254
  have hf : refN x = sbN (invN x 254) := rfl
  have HF := Lib.hid hf
  clear hf
  generalize hq : invN x 254 = q4 at *
  have HQ := Lib.hid hq
  clear hq
  have s1 : bits .xor .u8 (q4 : Int) (rotN q4 2 128 : Int) = ((q4 ^^^ rotN q4 2 128 : Nat) : Int) := u8_xor_nat _ _ l4 (rotN_lt _ _ _ l4)
  have m1 := xor_lt l4 (rotN_lt q4 2 128 l4)
  have s2 : bits .xor .u8 ((q4 ^^^ rotN q4 2 128 : Nat) : Int) (rotN q4 4 64 : Int) = ((q4 ^^^ rotN q4 2 128 ^^^ rotN q4 4 64 : Nat) : Int) := u8_xor_nat _ _ m1 (rotN_lt _ _ _ l4)
  have m2 := xor_lt m1 (rotN_lt q4 4 64 l4)
  have s3 : bits .xor .u8 ((q4 ^^^ rotN q4 2 128 ^^^ rotN q4 4 64 : Nat) : Int) (rotN q4 8 32 : Int) = ((q4 ^^^ rotN q4 2 128 ^^^ rotN q4 4 64 ^^^ rotN q4 8 32 : Nat) : Int) := u8_xor_nat _ _ m2 (rotN_lt _ _ _ l4)
  have m3 := xor_lt m2 (rotN_lt q4 8 32 l4)
  have s4 : bits .xor .u8 ((q4 ^^^ rotN q4 2 128 ^^^ rotN q4 4 64 ^^^ rotN q4 8 32 : Nat) : Int) (rotN q4 16 16 : Int) = ((q4 ^^^ rotN q4 2 128 ^^^ rotN q4 4 64 ^^^ rotN q4 8 32 ^^^ rotN q4 16 16 : Nat) : Int) := u8_xor_nat _ _ m3 (rotN_lt _ _ _ l4)
  have m4 := xor_lt m3 (rotN_lt q4 16 16 l4)
  have s5 : bits .xor .u8 ((q4 ^^^ rotN q4 2 128 ^^^ rotN q4 4 64 ^^^ rotN q4 8 32 ^^^ rotN q4 16 16 : Nat) : Int) 99 = ((sbN q4 : Nat) : Int) := u8_xor_nat _ 99 m4 (by omega)
  clear m1 m2 m3 m4
  go_enter Try.func10, Try.ntmps10
  go_wp2_with fail
  refine (inverse_any x hx _).mono ?_
  rintro e w' ⟨rfl, rfl⟩
  rw [HQ.out]
  go_wp2_with (first | (go_at_call 24; with_reducible refine (left_1 _ l4 _).mono ?_; rintro e w' ⟨rfl, rfl⟩) | (go_at_call 24; with_reducible refine (left_2 _ l4 _).mono ?_; rintro e w' ⟨rfl, rfl⟩) | (go_at_call 24; with_reducible refine (left_3 _ l4 _).mono ?_; rintro e w' ⟨rfl, rfl⟩) | (go_at_call 24; with_reducible refine (left_4 _ l4 _).mono ?_; rintro e w' ⟨rfl, rfl⟩))
  go_ret
  exact ⟨by rw [HF.out]; rfl, rfl⟩
theorem box_0 : boxN.getD 0 0 = 99 := by rw [boxN_eq]; rfl
theorem box_83 : boxN.getD 83 0 = 237 := by rw [boxN_eq]; rfl
theorem box0 (w : World) : Calls Try.prog 9 #[.int .u8 0] w fun e w' => e = .returned (.int .u8 99) ∧ Below w.heap.size w w' := by
  have h := box_any 0 (by omega) w
  rw [box_0] at h
  exact h
theorem box83 (w : World) : Calls Try.prog 9 #[.int .u8 83] w fun e w' => e = .returned (.int .u8 237) ∧ Below w.heap.size w w' := by
  have h := box_any 83 (by omega) w
  rw [box_83] at h
  exact h
theorem awake_any (w : World) : Calls Try.prog 8 #[] w fun e w' => e = .returned (.bool true) ∧ Below w.heap.size w w' := by
  go_enter Try.func8, Try.ntmps8
  go_wp2_with fail
  refine (box0 _).mono ?_
  rintro e w1 ⟨rfl, hb1⟩
  go_wp2_with fail
  refine (box83 _).mono ?_
  rintro e w2 ⟨rfl, hb2⟩
  go_wp2_with fail
  go_ret
  exact ⟨rfl, hb1.trans (hb2.mono hb1.size)⟩
theorem boxes_bool {a b x y : Nat} (h : a = b ↔ x = y) : Ending.returned (.bool (((a : Int) == (b : Int)) == ((x : Int) == (y : Int)))) = Ending.returned (.bool true) := by
  have e : (((a : Int) == (b : Int)) == ((x : Int) == (y : Int))) = true := by
    by_cases hxy : x = y
    · simp [hxy, h.2 hxy]
    · have h1 : ((a : Int) == (b : Int)) = false := beq_eq_false_iff_ne.2 (fun e => hxy (h.1 (by omega)))
      have h2 : ((x : Int) == (y : Int)) = false := beq_eq_false_iff_ne.2 (fun e => hxy (by omega))
      rw [h1, h2]; rfl
  rw [e]
theorem law_any (x y : Nat) (hx : x < 256) (hy : y < 256) (w : World) : Calls Try.prog 3 #[.int .u8 (x : Int), .int .u8 (y : Int)] w fun e w' => e = .returned (.bool true) ∧ Below w.heap.size w w' := by
  have hr : refN x = boxN.getD x 0 := by
    rw [boxN_eq, ← ref_eq]; simp [hx]
  have hapart : (boxN[x]?.getD 0 = boxN[y]?.getD 0) ↔ x = y := by
    rw [boxN_eq]
    refine ⟨fun h => ?_, fun h => by rw [h]⟩
    have lx : x < L.length := by rw [show L.length = 256 from by decide +kernel]; exact hx
    have ly : y < L.length := by rw [show L.length = 256 from by decide +kernel]; exact hy
    rw [List.getElem?_eq_getElem lx, List.getElem?_eq_getElem ly] at h
    exact (List.getElem_inj L_nodup).1 h
  have HA := Lib.hid hapart
  clear hapart
  go_enter Try.func3, Try.ntmps3
  go_wp2_with fail
  refine (awake_any _).mono ?_
  rintro e w1 ⟨rfl, hb1⟩
  go_wp2_with fail
  refine (box_any x hx _).mono ?_
  rintro e w2 ⟨rfl, hb2⟩
  go_wp2_with fail
  refine (refbox_any x hx _).mono ?_
  rintro e w' ⟨rfl, rfl⟩
  go_wp2_with fail
  refine (box_any x hx _).mono ?_
  rintro e w3 ⟨rfl, hb3⟩
  go_wp2_with fail
  refine (box_any y hy _).mono ?_
  rintro e w4 ⟨rfl, hb4⟩
  go_wp2_with fail
  go_ret
  refine ⟨?_, ((hb1.trans (hb2.mono hb1.size)).trans (hb3.mono ?_)).trans (hb4.mono ?_)⟩
  · exact boxes_bool HA.out
  · exact Nat.le_trans hb1.size hb2.size
  · exact Nat.le_trans hb1.size (Nat.le_trans hb2.size hb3.size)
end Go.Proofs.Ytcnijcmddnacaaa
