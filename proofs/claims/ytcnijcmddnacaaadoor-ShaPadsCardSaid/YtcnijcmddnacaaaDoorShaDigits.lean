/- The law ShaDigits walked: true, whatever the thirty-two bytes. Conditions: the table of constants is laid. -/
import Derived.Test.YtcnijcmddnacaaaDoorShaOf
namespace Go.Proofs.YtcnijcmddnacaaaDoor
open Go.RowKit
set_option linter.unusedVariables false
def nib (d : List Nat) (i : Nat) : Nat := if i % 2 = 1 then d.getD (i / 2) 0 % 16 else d.getD (i / 2) 0 / 16
theorem nib_lt (d : List Nat) (hb : Sha.bytes d) (i : Nat) : nib d i < 16 := by
  have := Sha.bytes_getD hb (i / 2)
  unfold nib; split <;> omega
theorem text_get (d : List Nat) : ∀ i, i < 2 * d.length → (Sha.text d).getD i 0 = Sha.hexd.getD (nib d i) 0 := by
  induction d with
  | nil => intro i h; simp at h
  | cons x d ih =>
    intro i h
    show ([Sha.hexd.getD (x / 16) 0, Sha.hexd.getD (x % 16) 0] ++ Sha.text d).getD i 0 = _
    match i with
    | 0 => rfl
    | 1 => rfl
    | i + 2 =>
      show (Sha.text d).getD i 0 = _
      rw [ih i (by rw [List.length_cons] at h; omega)]
      have e : nib (x :: d) (i + 2) = nib d i := by
        unfold nib
        rw [show (i + 2) / 2 = i / 2 + 1 by omega, show (i + 2) % 2 = i % 2 by omega]
        rfl
      rw [e]
def fnd (q m : Nat) : Int := if q < m then (q : Int) else -1
theorem fnd_zero (q : Nat) : fnd q 0 = -1 := rfl
theorem fnd_hit (q : Nat) : fnd q (q + 1) = (q : Int) := if_pos (by omega)
theorem fnd_miss (q m : Nat) (h : ¬ m = q) : fnd q (m + 1) = fnd q m := by
  unfold fnd
  by_cases h2 : q < m
  · rw [if_pos h2, if_pos (by omega)]
  · rw [if_neg h2, if_neg (by omega)]
theorem fnd_all (q : Nat) (h : q < 16) : fnd q 16 = (q : Int) := if_pos h
theorem hexd_inj : ∀ a < 16, ∀ b < 16, Sha.hexd.getD a 0 = Sha.hexd.getD b 0 → a = b := by decide
theorem txt_size (l : List Nat) : (txt l).size = l.length := by simp [txt, ByteArray.size]
theorem txt_get (l : List Nat) (h : ∀ j, l.getD j 0 < 256) (i : Nat) (hi : i < (txt l).size) : ((txt l)[i]'hi).toNat = l.getD i 0 := by
  have hl : i < l.length := by rw [txt_size] at hi; exact hi
  have e : (txt l)[i]'hi = UInt8.ofNat (l[i]'hl) := by
    exact (List.getElem_toArray ..).trans (List.getElem_map ..)
  have hs := h i
  rw [List.getD_eq_getElem?_getD, List.getElem?_eq_getElem hl] at hs ⊢
  simp only [Option.getD_some] at hs ⊢
  rw [e, UInt8.toNat_ofNat', Nat.mod_eq_of_lt (by omega)]
set_option maxRecDepth 100000 in
set_option maxHeartbeats 2000000 in
theorem digits_any (d : List Nat) (w : World) (hd : d.length = 32) (hb : Sha.bytes d) (hK : KSat w) :
    Calls Tryd.prog 4 #[.agg (u8L d).toArray] w fun e w' => e = .returned (.bool true) ∧ Below w.heap.size w w' := by
  have HZ := Lib.hid (size27 d hd)
  have HB := Lib.hid hb
  have HK := Lib.hid hK
  have h0 := hK.lt
  have HI := Lib.hid (fun i (hi : i < (txt (Sha.text d)).size) => txt_get (Sha.text d) (text_lt d) i hi)
  have HX := Lib.hid (text_get d)
  have hsz : (txt (Sha.text d)).size = 64 := by rw [txt_size, text_len, hd]
  clear hb hK
  go_enter Tryd.func4, Tryd.ntmps4
  go_wp2_with fail
  have a1 : At (w.alloc (.cells (u8L d).toArray 27)) w.heap.size 27 (u8L d).toArray := At.new _ _ _
  have b1 : Below w.heap.size w (w.alloc (.cells (u8L d).toArray 27)) := (Below.refl _ w).alloc (Nat.le_refl _) _
  generalize hw1 : w.alloc (.cells (u8L d).toArray 27) = w1 at *
  clear hw1
  refine (awake_any w1 (HK.out.below b1 h0)).mono ?_
  rintro e w2 ⟨rfl, b2⟩
  have a2 := a1.below b2 a1.lt
  have b3 : Below w.heap.size w w2 := b1.trans ⟨b2.os, b2.tape, b2.output, b2.size, fun i hi => b2.block i (by have := b1.size; omega)⟩
  have A2 := Lib.hid a2
  clear a1 a2 b1 b2
  go_wp2_with (refine wpList_load_row rfl 27 (.tmp 1) rfl w.heap.size rfl 27 (u8L d).toArray (0, 0) _ A2.out Tryd.underlying27 rfl HZ.out ?_)
  refine (text_any d w2 hd HB.out).mono ?_
  rintro e w3 ⟨rfl, b4⟩
  have A3 := Lib.hid (A2.out.below b4 A2.out.lt)
  have b5 : Below w.heap.size w w3 := b3.trans ⟨b4.os, b4.tape, b4.output, b4.size, fun i hi => b4.block i (by have := b3.size; omega)⟩
  clear b4 b3 A2
  generalize txt (Sha.text d) = S at *
  go_wp2_with fail
  go_loopw [4, 5, 6, 7] (fun i _ _ _ wr => ∃ k : Nat, k ≤ 64 ∧ i = .int .i64 k ∧ w3.grownBy wr none) (fun i _ _ _ _ => 64 - (intOf i).toNat)
  case atStart => exact ⟨0, by omega, rfl, World.grownBy.refl _ _⟩
  case round =>
    obtain ⟨k, hk, rfl, hg⟩ := hrel
    by_cases hlt : k < 64
    · have hkk : (k : Int) < 64 := by omega
      obtain ⟨wo, rfl⟩ : ∃ wo : World, wo = wr := ⟨_, rfl⟩
      go_wp2_with fail
      have hS : (S[k]'(by rw [hsz]; exact hlt)).toNat = Sha.hexd.getD (nib d k) 0 := (HI.out k (by rw [hsz]; exact hlt)).trans (HX.out k (by omega))
      have hq := nib_lt d HB.out k
      generalize hnq : nib d k = q at *
      have HQ := Lib.hid hnq
      clear hnq
      generalize hey : Sha.hexd.getD q 0 = y at *
      have HY := Lib.hid hey
      clear hey
      go_loopw [5, 6] (fun b j wr => ∃ m : Nat, m ≤ 16 ∧ j = .int .i64 m ∧ b = .int .i64 (fnd q m) ∧ wo.grownBy wr none) (fun _ j _ => 16 - (intOf j).toNat)
      case atStart => exact ⟨0, by omega, rfl, by rw [fnd_zero], World.grownBy.refl _ _⟩
      case round =>
        obtain ⟨m, hm, rfl, rfl, hgi⟩ := hrel
        by_cases hlm : m < 16
        · have hmm : (m : Int) < 16 := by omega
          have HE := Lib.hid (show Sha.hexd.getD m 0 = y ↔ m = q from ⟨fun h => hexd_inj m hlm q hq (h.trans HY.out.symm), fun h => by rw [h]; exact HY.out⟩)
          by_cases hmq : m = q
          · have HMQ := Lib.hid hmq
            clear hmq
            go_wp2_with fail
            go_region
            rw [hex_at]
            have hxy := HE.out.2 HMQ.out
            rw [hxy]
            have hyy : ((y : Int) == (y : Int)) = true := by simp
            clear hxy
            go_wp2_with fail
            go_roundw
            case rel =>
              refine ⟨m + 1, by omega, by go_num, ?_, only_drew hgi⟩
              rw [HMQ.out, fnd_hit]
            case measure => simp [intOf]; omega
          · have HMQ := Lib.hid hmq
            clear hmq
            go_wp2_with fail
            go_region
            rw [hex_at]
            have hxy : ¬ Sha.hexd.getD m 0 = y := fun h => HMQ.out (HE.out.1 h)
            generalize Sha.hexd.getD m 0 = x at *
            have hyy : ((x : Int) == (y : Int)) = false := by simp; omega
            clear hxy
            go_wp2_with fail
            go_roundw
            case rel =>
              refine ⟨m + 1, by omega, by go_num, ?_, only_drew hgi⟩
              rw [fnd_miss q m HMQ.out]
            case measure => simp [intOf]; omega
        · have hdm : decide ((m : Int) < 16) = false := by simp; omega
          have h16 : fnd q m = (q : Int) := by rw [show m = 16 by omega]; exact fnd_all q hq
          rw [h16]
          have hA := A3.out.grown (only_trans hg hgi) (by simp)
          have cx : wr.cell? ⟨w.heap.size, k / 2, none⟩ = some (.int .u8 (d.getD (k / 2) 0 : Nat)) := (hA.cell (k / 2)).trans (by rw [List.getElem?_toArray]; exact u8L_get d (k / 2) (by omega))
          have hx := Sha.bytes_getD HB.out (k / 2)
          have hnib := HQ.out
          unfold nib at hnib
          generalize d.getD (k / 2) 0 = x at *
          clear h16 hA
          by_cases hodd : k % 2 = 1
          · rw [if_pos hodd] at hnib
            have ho : (k : Int) % 2 = 1 := by omega
            have hxq : (x : Int) % 16 = (q : Int) := by omega
            clear hodd hnib
            go_wp2_with fail
            go_roundw
            case rel => exact ⟨k + 1, by omega, by go_num, only_trans hg hgi⟩
            case measure => simp [intOf]; omega
          · rw [if_neg hodd] at hnib
            have ho : (k : Int) % 2 = 0 := by omega
            have hxq : (x : Int) / 16 = (q : Int) := by omega
            clear hodd hnib
            go_wp2_with fail
            go_roundw
            case rel => exact ⟨k + 1, by omega, by go_num, only_trans hg hgi⟩
            case measure => simp [intOf]; omega
    · have hd2 : decide ((k : Int) < 64) = false := by simp; omega
      go_wp2_with fail
      go_ret
      exact ⟨rfl, b5.grown hg b5.size (fun r e => by cases e)⟩
end Go.Proofs.YtcnijcmddnacaaaDoor
