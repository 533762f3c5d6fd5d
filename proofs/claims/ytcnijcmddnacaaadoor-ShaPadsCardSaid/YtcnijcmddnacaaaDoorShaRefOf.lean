/- What the reference's Of answers: the digest by whole blocks. Conditions: fewer than 2^31 bytes. -/
import Derived.Test.YtcnijcmddnacaaaDoorShaRefBlock
import Derived.Test.YtcnijcmddnacaaaDoorShaRefPad
import Derived.Test.YtcnijcmddnacaaaDoorShaOf
namespace Go.Proofs.YtcnijcmddnacaaaDoor
open Go.RowKit
set_option linter.unusedVariables false
theorem WordsAt.new (w : World) (l : List Nat) : WordsAt (w.alloc (.cells (u32L l).toArray 38)) w.heap.size l := fun i v hv => by
  rw [Nat.zero_add, (At.new w 38 (u32L l).toArray).cell, List.getElem?_toArray]
  exact hv
def R0L : List Nat := [1779033703, 3144134277, 1013904242, 2773480762, 1359893119, 2600822924, 528734635, 1541459225]
theorem blocks_ok : ∀ (n : Nat) (l : List Nat) (r : Sha.R), r.ok → (Sha.blocks r n l).ok
  | 0, _, _, h => h
  | n + 1, l, r, h => blocks_ok n _ _ (Sha.blockR_ok _ _)
theorem blocks_snoc : ∀ (n : Nat) (l : List Nat) (r : Sha.R), Sha.blocks r (n + 1) l = Sha.blockR (Sha.blocks r n l) ((l.drop (64 * n)).take 64)
  | 0, l, r => rfl
  | n + 1, l, r => by
    show Sha.blocks (Sha.blockR r (l.take 64)) (n + 1) (l.drop 64) = _
    rw [blocks_snoc n (l.drop 64) (Sha.blockR r (l.take 64)), List.drop_drop]
    show _ = Sha.blockR (Sha.blocks (Sha.blockR r (l.take 64)) n (l.drop 64)) _
    rw [show 64 + 64 * n = 64 * (n + 1) by omega]
theorem part_get (l : List Nat) (k i : Nat) (hi : i < 64) : (((l.drop (64 * k)).take 64).getD i 0) = l.getD (64 * k + i) 0 := by
  rw [List.getD_eq_getElem?_getD, List.getD_eq_getElem?_getD, List.getElem?_take, if_pos hi, List.getElem?_drop]

set_option maxRecDepth 100000 in
set_option maxHeartbeats 2000000 in
theorem refof_any (b o c0 : Nat) (bs : List Nat) (w : World) (hb : BytesAt w b o bs) (hlt : b < w.heap.size) (hn : bs.length < 2147483648) :
    Calls Tryd.prog 8 #[.slice (some ⟨b, o, none⟩) bs.length c0] w fun e w' => e = .returned (.agg (u8L (Sha.byBlocks bs)).toArray) ∧ Below w.heap.size w w' := by
  have hz27 := (zero_of_info zero27).1
  have HB := Lib.hid hb
  have HPM := Lib.hid (Sha.pad_mod bs)
  have HPL := Lib.hid (Sha.pad_le bs)
  have HPB := Lib.hid (Sha.bytes_pad bs hb.small)
  have hby : Sha.byBlocks bs = Sha.digest (Sha.blocks Sha.R0 ((Sha.pad bs).length / 64) (Sha.pad bs)) := rfl
  have HBY := Lib.hid hby
  clear hb hby
  generalize Sha.byBlocks bs = out at *
  go_enter Tryd.func8, Tryd.ntmps8
  go_wp2_with fail
  have b1 : Below w.heap.size w ((w.alloc (.cells Z32 27)).alloc (.cells (u32L R0L).toArray 38)) := ((Below.refl _ w).alloc (Nat.le_refl _) _).alloc (by rw [size_alloc]; omega) _
  have a1 : At ((w.alloc (.cells Z32 27)).alloc (.cells (u32L R0L).toArray 38)) w.heap.size 27 Z32 := (At.new _ _ _).alloc _
  have h1 : WordsAt ((w.alloc (.cells Z32 27)).alloc (.cells (u32L R0L).toArray 38)) (w.heap.size + 1) R0L := by
    have := WordsAt.new (w.alloc (.cells Z32 27)) R0L
    rw [size_alloc] at this
    exact this
  have s1 : ((w.alloc (.cells Z32 27)).alloc (.cells (u32L R0L).toArray 38)).heap.size = w.heap.size + 2 := by rw [size_alloc, size_alloc]
  change Calls Tryd.prog 13 #[] ((w.alloc (.cells Z32 27)).alloc (.cells (u32L R0L).toArray 38)) _
  generalize (w.alloc (.cells Z32 27)).alloc (.cells (u32L R0L).toArray 38) = w1 at *
  refine (refK_any w1).mono ?_
  rintro e w2 ⟨rfl, hw2⟩
  have hK2 : WordsAt w2 w1.heap.size Sha.KS := by rw [hw2]; exact WordsAt.new _ _
  have s2 : w2.heap.size = w1.heap.size + 1 := by rw [hw2, size_alloc]
  have b12 : Below w1.heap.size w1 w2 := by rw [hw2]; exact (Below.refl _ w1).alloc (Nat.le_refl _) _
  have b2 : Below w.heap.size w w2 := b1.trans ⟨b12.os, b12.tape, b12.output, b12.size, fun i hi => b12.block i (by omega)⟩
  have a2 := a1.below b12 (by omega)
  have h2 := h1.below b12 (by omega)
  have HB2 := Lib.hid (HB.out.below b2 hlt)
  have HK2 := Lib.hid hK2
  clear hw2 hK2 b12 a1 h1 b1
  generalize w1.heap.size = gk at *
  obtain rfl : gk = w.heap.size + 2 := s1
  go_wp2_with fail
  refine (padded_any b o c0 bs w2 HB2.out (by omega) hn).mono ?_
  rintro e w3 ⟨gp, cp, rfl, hcp, hp3, hgp, b23⟩
  have b3 : Below w.heap.size w w3 := b2.trans ⟨b23.os, b23.tape, b23.output, b23.size, fun i hi => b23.block i (by omega)⟩
  have HA3 := Lib.hid (a2.below b23 (by omega))
  have HH3 := Lib.hid (h2.below b23 (by omega))
  have HK3 := Lib.hid (HK2.out.below b23 (by omega))
  have HP3 := Lib.hid hp3
  have HC := Lib.hid hcp
  have s3 := b23.size
  have B3 := Lib.hid b3
  have hpm := HPM.out
  have hpl := HPL.out
  clear a2 h2 b23 b3 hp3 b2 HB2 HK2
  generalize Sha.pad bs = pd at *
  generalize hP : pd.length = P at *
  have HPN := Lib.hid hP
  clear hP hpm hpl
  go_wp2_with fail
  go_loopw [3, 6] (fun v i wr => ∃ m q g ch : Nat, q = 64 * m ∧ q ≤ P ∧ i = .int .i64 (q : Int) ∧ v = .slice (some ⟨g, 0, none⟩) 8 ch ∧ WordsAt wr g (words (Sha.blocks Sha.R0 m pd)) ∧ g < wr.heap.size ∧ Below w3.heap.size w3 wr) (fun _ i _ => P - (intOf i).toNat)
  case atStart => exact ⟨0, 0, w.heap.size + 1, 8, rfl, Nat.zero_le _, rfl, rfl, HH3.out, by omega, Below.refl _ _⟩
  case round =>
    obtain ⟨m, q, g, ch, hq, hqP, rfl, rfl, hW, hg, hbl⟩ := hrel
    have hPm := HPM.out
    have hPle := HPL.out
    have HW := Lib.hid hW
    have HG := Lib.hid hbl
    have hbs := hbl.size
    clear hW hbl
    by_cases hlt2 : q < P
    · have hq64 : q + 64 ≤ P := by omega
      have hqc : q + 64 ≤ cp := by have := HC.out; omega
      have i1 : (q : Int) < (P : Int) := by omega
      have i2 : (q : Int) + 64 ≤ (cp : Int) := by omega
      have HQ := Lib.hid hq
      have hP40 : P < 3000000000 := by omega
      have hpart : ∀ i, i < 64 → wr.cell? ⟨gp, q + i, none⟩ = some (.int .u8 (((pd.drop (64 * m)).take 64).getD i 0 : Nat)) := fun i hi => by
        have := (HP3.out.below HG.out hgp).cell (q + i) (by rw [HPN.out]; omega)
        rw [Nat.zero_add] at this
        rw [this, part_get _ _ _ hi, hq]
      have HPT := Lib.hid hpart
      have HQP := Lib.hid hq64
      clear hq hPm hPle hpart
      go_wp2_with fail
      refine (refblock_any g ch gp q (cp - q) (w.heap.size + 2) 64 (Sha.blocks Sha.R0 m pd) ((pd.drop (64 * m)).take 64) wr HW.out HPT.out (HK3.out.below HG.out (by omega)) hg (by omega) (by omega) (blocks_ok _ _ _ Sha.R0_ok) (fun x hx => HPB.out x (List.mem_of_mem_drop (List.mem_of_mem_take hx)))).mono ?_
      rintro e w4 ⟨g', c', rfl, hW4, hg4, b4⟩
      rw [← blocks_snoc] at hW4
      have HW4 := Lib.hid hW4
      have HB4 := Lib.hid b4
      clear hW4 b4
      go_wp2_with fail
      go_roundw
      case rel => exact ⟨m + 1, q + 64, g', c', by have := HQ.out; omega, HQP.out, by go_num, rfl, HW4.out, hg4, HG.out.trans ⟨HB4.out.os, HB4.out.tape, HB4.out.output, HB4.out.size, fun i hi => HB4.out.block i (by omega)⟩⟩
      case measure => have := HQP.out; simp [intOf]; omega
    · have hd : decide ((q : Int) < (P : Int)) = false := by simp; omega
      have hm : m = P / 64 := by omega
      have hok := blocks_ok (P / 64) pd Sha.R0 Sha.R0_ok
      have hW := HW.out
      rw [hm] at hW
      have hby := HBY.out
      generalize Sha.blocks Sha.R0 (P / 64) pd = r at *
      have HOK := Lib.hid hok
      have HR := Lib.hid hW
      have HBY2 := Lib.hid hby
      clear hm hW hok hq hPm hPle hby
      go_wp2_with fail
      clear hd
      obtain ⟨w5, rfl⟩ : ∃ w5 : World, w5 = wr := ⟨_, rfl⟩
      have ha5 := (HA3.out.below HG.out (by omega)).alloc (.cells Z32 27)
      have hr5 := (HR.out.below ((Below.refl w5.heap.size w5).alloc (Nat.le_refl _) (.cells Z32 27)) hg)
      have hd5 : At (w5.alloc (.cells Z32 27)) w5.heap.size 27 (u8L (Dk r (4 * 0))).toArray := by rw [Nat.mul_zero, Dk_zero]; exact At.new _ _ _
      have hb5 : Below w.heap.size w (w5.alloc (.cells Z32 27)) := (B3.out.trans ⟨HG.out.os, HG.out.tape, HG.out.output, HG.out.size, fun i hi => HG.out.block i (by omega)⟩).alloc (by omega) _
      have hs6 : (w5.alloc (.cells Z32 27)).heap.size = w5.heap.size + 1 := size_alloc _ _
      have hAD : w.heap.size < w5.heap.size := by omega
      generalize hD : w5.heap.size = D at *
      generalize hw6 : w5.alloc (Obj.cells Z32 27) = w6 at *
      clear hw6 hD
      have A5 := Lib.hid ha5
      have R5 := Lib.hid hr5
      have D5 := Lib.hid hd5
      have B5 := Lib.hid hb5
      clear ha5 hr5 hd5 hb5
      go_loopw [8] (fun i wr => ∃ k : Nat, k ≤ 8 ∧ i = .int .i64 k ∧ At wr D 27 (u8L (Dk r (4 * k))).toArray ∧ w6.grownBy wr (some D)) (fun i _ => 8 - (intOf i).toNat)
      case atStart => exact ⟨0, by omega, rfl, D5.out, World.grownBy.refl _ _⟩
      case round =>
        obtain ⟨k, hk, rfl, hk2, hkg⟩ := hrel
        by_cases hlt : k < 8
        · have cx : wr.cell? ⟨g, k, none⟩ = some (.int .u32 ((words r).getD k 0 : Nat)) := (R5.out.grown hkg (by omega) (by simp; omega)).cell k hlt
          have hx : (words r).getD k 0 < 4294967296 := Sha.word_lt r HOK.out k
          have hdl := Dk_len r (4 * k) (by omega)
          have cd : ∀ i, i < 32 → wr.cell? ⟨D, i, none⟩ = some (.int .u8 ((Dk r (4 * k)).getD i 0 : Nat)) := fun i hi => (hk2.cell i).trans (by rw [List.getElem?_toArray]; exact u8L_get _ _ (by rw [hdl]; exact hi))
          have c0' := cd (4 * k) (by omega)
          have c1' := cd (4 * k + 1) (by omega)
          have c2' := cd (4 * k + 2) (by omega)
          have c3' := cd (4 * k + 3) (by omega)
          have f0 := hk2.free (4 * k)
          have f1 := hk2.free (4 * k + 1)
          have f2 := hk2.free (4 * k + 2)
          have f3 := hk2.free (4 * k + 3)
          have e0 := Dk_set r (4 * k) (by omega)
          have e1 := Dk_set r (4 * k + 1) (by omega)
          have e2 := Dk_set r (4 * k + 2) (by omega)
          have e3 := Dk_set r (4 * k + 3) (by omega)
          rw [show 4 * k / 4 = k by omega, show 24 - 8 * (4 * k % 4) = 24 by omega] at e0
          rw [show (4 * k + 1) / 4 = k by omega, show 24 - 8 * ((4 * k + 1) % 4) = 16 by omega] at e1
          rw [show (4 * k + 2) / 4 = k by omega, show 24 - 8 * ((4 * k + 2) % 4) = 8 by omega] at e2
          rw [show (4 * k + 3) / 4 = k by omega, show 24 - 8 * ((4 * k + 3) % 4) = 0 by omega] at e3
          rw [← word_words] at e0 e1 e2 e3
          clear cd hdl
          generalize (words r).getD k 0 = x at *
          generalize (Dk r (4 * k)).getD (4 * k) 0 = o0 at *
          generalize (Dk r (4 * k)).getD (4 * k + 1) 0 = o1 at *
          generalize (Dk r (4 * k)).getD (4 * k + 2) 0 = o2 at *
          generalize (Dk r (4 * k)).getD (4 * k + 3) 0 = o3 at *
          obtain ⟨v0, d0⟩ : ∃ v, v = x / 2 ^ 24 % 256 := ⟨_, rfl⟩
          obtain ⟨v1, d1⟩ : ∃ v, v = x / 2 ^ 16 % 256 := ⟨_, rfl⟩
          obtain ⟨v2, d2⟩ : ∃ v, v = x / 2 ^ 8 % 256 := ⟨_, rfl⟩
          obtain ⟨v3, d3⟩ : ∃ v, v = x / 2 ^ 0 % 256 := ⟨_, rfl⟩
          rw [← d0] at e0
          rw [← d1] at e1
          rw [← d2] at e2
          rw [← d3] at e3
          have E0 := Lib.hid e0
          have E1 := Lib.hid e1
          have E2 := Lib.hid e2
          have E3 := Lib.hid e3
          have q0 : (x : Int) / 16777216 = (v0 : Int) := by omega
          have q1 : (x : Int) / 65536 % 256 = (v1 : Int) := by omega
          have q2 : (x : Int) / 256 % 256 = (v2 : Int) := by omega
          have q3 : (x : Int) % 256 = (v3 : Int) := by omega
          have HK2' := Lib.hid hk2
          have l0 : v0 < 256 := by omega
          clear e0 e1 e2 e3 d0 d1 d2 d3 hk2
          go_wp2_with fail
          go_roundw
          case rel =>
            refine ⟨k + 1, by omega, by go_num, ?_, only_set (g := D) (p := ⟨D, 4 * k + 3, none⟩) (only_set (g := D) (p := ⟨D, 4 * k + 2, none⟩) (only_set (g := D) (p := ⟨D, 4 * k + 1, none⟩) (only_set (g := D) (p := ⟨D, 4 * k, none⟩) hkg (.inl rfl) _) (.inl rfl) _) (.inl rfl) _) (.inl rfl) _⟩
            have := (((HK2'.out.put (4 * k) (.int .u8 (v0 : Int))).put (4 * k + 1) (.int .u8 (v1 : Int))).put (4 * k + 2) (.int .u8 (v2 : Int))).put (4 * k + 3) (.int .u8 (v3 : Int))
            rw [u8L_setA, u8L_setA, u8L_setA, u8L_setA, E0.out, E1.out, E2.out, E3.out] at this
            exact this
          case measure => simp [intOf]; omega
        · have hd : decide ((k : Int) < 8) = false := by simp; omega
          have hk8 : k = 8 := by omega
          have h7 := hk2
          rw [hk8, Dk_full, ← HBY2.out] at h7
          have H7 := Lib.hid h7
          have a7 := Lib.hid (A5.out.grown hkg (by simp; omega))
          have HZ := Lib.hid (size27 out (by rw [HBY2.out]; exact Sha.digest_len _))
          have h8 := Lib.hid (below_only B5.out hkg (by omega) (by omega))
          clear h7 hk8 hk2 hlt
          go_wp2_with (first | (refine wpList_load_row rfl 27 (.tmp 7) rfl D rfl 27 (u8L out).toArray (0, 0) _ H7.out Tryd.underlying27 rfl HZ.out ?_) | (refine wpList_store_row rfl 27 (.tmp 2) (.tmp 69) rfl w.heap.size (u8L out).toArray rfl rfl 27 Z32 a7.out HZ.out ?c2 (u8A_one _) ?_))
          case c2 =>
            have := HZ.out
            have h2 := (zero_of_info zero27).2
            rw [h2] at this
            exact (show Z32.size = 32 from rfl).trans (Option.some.inj this)
          refine bodyPost_ret (results_cell_row rfl _ _ w.heap.size 27 (u8L out).toArray (0, 0) _ rfl (setRow_heap _ _ _ _ _ _ a7.out) Tryd.underlying27 rfl HZ.out) rfl ⟨rfl, ?_⟩
          exact below_setRow h8.out (Nat.le_refl _) _
end Go.Proofs.YtcnijcmddnacaaaDoor
