/- What the program's Sum makes of a hash on its way: the stream's digest; nothing that was there turns. Conditions: fewer than 2^31 bytes, and the table of constants is laid. -/
import Derived.Test.YtcnijcmddnacaaaDoorShaHash
import Derived.Deep.LoopGhost
namespace Go.Proofs.YtcnijcmddnacaaaDoor
open Go.RowKit
set_option linter.unusedVariables false
def Z74 : Array Value := hashA [0, 0, 0, 0, 0, 0, 0, 0] (List.replicate 64 0) 0 0
theorem zero45 : (Tryd.prog.info? 45).map (fun i => (i.zero, i.size)) = some (some (.agg Z74), 74) := by kernel_rfl
def Z32 : Array Value := (u8L (List.replicate 32 0)).toArray
theorem zero27 : (Tryd.prog.info? 27).map (fun i => (i.zero, i.size)) = some (some (.agg Z32), 32) := by kernel_rfl
theorem size_hash (s : Sha.St) (total : Nat) (h : s.part.length = 64) : (Tryd.prog.info? 45).map (·.size) = some (hashA (words s.r) s.part s.fill total).size := by
  rw [hash_size (words_len _) h]; exact (zero_of_info zero45).2
theorem St0_fill (bs : List Nat) : (Sha.puts Sha.St0 bs).fill = bs.length % 64 := by
  rw [(Sha.puts_fill bs Sha.St0 (by show 0 < 64; omega)).1]; show (0 + bs.length) % 64 = _; rw [Nat.zero_add]
theorem size_alloc (w : World) (o : Obj) : (w.alloc o).heap.size = w.heap.size + 1 := by simp
def Zj (s : Sha.St) (j : Nat) : Sha.St := Sha.puts s (128 :: List.replicate j 0)
theorem Zj_fill (s : Sha.St) (n j : Nat) (h : s.fill = n % 64) : (Zj s j).fill = (n + 1 + j) % 64 := by
  unfold Zj
  rw [(Sha.puts_fill _ s (by omega)).1, List.length_cons, List.length_replicate]
  omega
theorem Zj_next (s : Sha.St) (j : Nat) : Sha.put (Zj s j) 0 = Zj s (j + 1) := by
  unfold Zj
  rw [← puts_snoc, List.replicate_succ', List.cons_append]
def Ls (s : Sha.St) (n i : Nat) : Sha.St := Sha.puts (Zj s (Sha.zs n)) ((List.range i).map (Sha.lenB n))
theorem Ls_next (s : Sha.St) (n i : Nat) : Sha.put (Ls s n i) (Sha.lenB n i) = Ls s n (i + 1) := by
  unfold Ls
  rw [← puts_snoc, List.range_succ, List.map_append, List.map_singleton]
theorem Ls_all (bs : List Nat) : Ls (Sha.puts Sha.St0 bs) bs.length 8 = Sha.puts Sha.St0 (Sha.pad bs) := by
  unfold Ls Zj Sha.pad
  rw [← Sha.puts_append, ← Sha.puts_append]
  congr 1
  simp [List.append_assoc]
def Dk (r : Sha.R) (k : Nat) : List Nat := (Sha.digest r).take k ++ List.replicate (32 - k) 0
theorem Dk_zero (r : Sha.R) : Dk r 0 = List.replicate 32 0 := by simp [Dk]
theorem Dk_len (r : Sha.R) (k : Nat) (h : k ≤ 32) : (Dk r k).length = 32 := by simp [Dk, Sha.digest_len]; omega
theorem Dk_full (r : Sha.R) : Dk r 32 = Sha.digest r := by unfold Dk; rw [List.take_of_length_le (by rw [Sha.digest_len]; omega)]; simp
theorem digest_get (r : Sha.R) (k : Nat) (h : k < 32) : (Sha.digest r).getD k 0 = Sha.word r (k / 4) / 2 ^ (24 - 8 * (k % 4)) % 256 := by
  rw [List.getD_eq_getElem?_getD]
  simp [Sha.digest, h]
theorem Dk_set (r : Sha.R) (k : Nat) (h : k < 32) : (Dk r k).set k (Sha.word r (k / 4) / 2 ^ (24 - 8 * (k % 4)) % 256) = Dk r (k + 1) := by
  unfold Dk
  have hl := Sha.digest_len r
  have ht : ((Sha.digest r).take k).length = k := by rw [List.length_take]; omega
  rw [List.set_append_right _ _ (by omega), ht, Nat.sub_self, show 32 - k = (32 - (k + 1)) + 1 by omega, List.replicate_succ, List.set_cons_zero, take_snoc _ _ (by omega), List.append_assoc, List.singleton_append, ← digest_get r k h]
theorem word_words (r : Sha.R) (k : Nat) : (words r).getD k 0 = Sha.word r k := rfl
set_option maxRecDepth 100000 in
set_option maxHeartbeats 2000000 in
theorem sum_any (g : Nat) (bs : List Nat) (w : World) (hh : HashAt w g (Sha.puts Sha.St0 bs) bs.length) (hn : bs.length < 2147483648) (hK : KSat w) (h0 : 0 < g) :
    Calls Tryd.prog 12 #[.pointer (some ⟨g, 0, none⟩)] w fun e w' => e = .returned (.agg (u8L (Sha.stream bs)).toArray) ∧ Below w.heap.size w w' := by
  have HH := Lib.hid hh
  have HK := Lib.hid hK
  have HSZ := Lib.hid (size_hash _ bs.length hh.len)
  have hz27 := (zero_of_info zero27).1
  have hz45 := (zero_of_info zero45).1
  have HF := Lib.hid (St0_fill bs)
  have hlen := hh.len
  have HL := Lib.hid hlen
  have glt := hh.lies.lt
  have hst : Sha.stream bs = Sha.digest (Ls (Sha.puts Sha.St0 bs) bs.length 8).r := by rw [Ls_all]; rfl
  have HST := Lib.hid hst
  clear hh hK hlen hst
  generalize Sha.puts Sha.St0 bs = s at *
  generalize Sha.stream bs = out at *
  generalize bs.length = n at *
  go_enter Tryd.func12, Tryd.ntmps12
  go_wp2_with (first | (refine wpList_load_row rfl 45 (.tmp 11) rfl g rfl 45 (hashA (words s.r) s.part s.fill n) (0, 0) _ (HH.out.lies.alloc _) Tryd.underlying45 rfl HSZ.out ?_) | (refine wpList_store_row rfl 45 (.tmp 3) (.tmp 12) rfl (w.heap.size + 1) (hashA (words s.r) s.part s.fill n) rfl rfl 45 Z74 (heap_alloc2_new _ _ _) HSZ.out ?c1 hash_one ?_))
  case c1 => rw [hash_size (words_len _) HL.out]; rfl
  have h1 : HashAt (((w.alloc (Obj.cells Z32 27)).alloc (Obj.cells Z74 45)).setRow (w.heap.size + 1) (hashA (words s.r) s.part s.fill n)) (w.heap.size + 1) s n :=
    ⟨At.row (heap_alloc2_new _ _ _) _, HH.out.r, HH.out.len, HH.out.part, HH.out.fill⟩
  have b1 : Below w.heap.size w (((w.alloc (Obj.cells Z32 27)).alloc (Obj.cells Z74 45)).setRow (w.heap.size + 1) (hashA (words s.r) s.part s.fill n)) :=
    below_setRow (((Below.refl _ w).alloc (Nat.le_refl _) _).alloc (by rw [size_alloc]; omega) _) (by omega) _
  have a1 : At (((w.alloc (Obj.cells Z32 27)).alloc (Obj.cells Z74 45)).setRow (w.heap.size + 1) (hashA (words s.r) s.part s.fill n)) w.heap.size 27 Z32 :=
    At.farRow ((At.new _ _ _).alloc _) (by omega) _
  have s1 : (((w.alloc (Obj.cells Z32 27)).alloc (Obj.cells Z74 45)).setRow (w.heap.size + 1) (hashA (words s.r) s.part s.fill n)).heap.size = w.heap.size + 2 := by
    rw [setRow_size, size_alloc, size_alloc]
  generalize hw1 : (((w.alloc (Obj.cells Z32 27)).alloc (Obj.cells Z74 45)).setRow (w.heap.size + 1) (hashA (words s.r) s.part s.fill n)) = w1 at *
  clear hw1
  have hB0 : 0 < w.heap.size := by omega
  refine (put_any (w.heap.size + 1) s n 128 w1 h1 (by omega) (HK.out.below b1 hB0) (by omega)).mono ?_
  rintro e w2 ⟨rfl, h2, g2⟩
  have b2 := below_only b1 g2 (by omega) (by omega : w.heap.size ≤ w.heap.size + 1)
  have a2 := a1.grown g2 (by simp)
  have s2 := g2.size
  rw [show Sha.put s 128 = Zj s 0 from rfl] at h2
  have H2 := Lib.hid h2
  clear h2
  go_wp2_with fail
  go_loopg [] (Sha.zs n) (fun gk wr => ∃ j, gk + j = Sha.zs n ∧ HashAt wr (w.heap.size + 1) (Zj s j) n ∧ w2.grownBy wr (some (w.heap.size + 1)))
  case atStart => exact ⟨0, by omega, H2.out, World.grownBy.refl _ _⟩
  case round =>
    obtain ⟨j, hj, hj2, hjg⟩ := hrel
    have c3 := (hj2.lies.cell 72).trans (hash_fill (words_len _) hj2.len)
    have f3 := hj2.lies.free 72
    rw [Zj_fill s n j HF.out] at c3
    have hz := Sha.zs_fill n j (by omega)
    have HJ := Lib.hid hj2
    clear hj2
    by_cases hq : j = Sha.zs n
    · have hd : (((n + 1 + j) % 64 : Nat) : Int) = 56 := by rw [hz.2 hq]; rfl
      rw [hd] at c3
      have hj3 := HJ.out
      rw [hq] at hj3
      have H3 := Lib.hid hj3
      clear hd hz hj hq hj3 HJ
      go_wp2_with fail
      obtain ⟨w3, rfl⟩ : ∃ w3 : World, w3 = wr := ⟨_, rfl⟩
      have g3 := only_trans g2 hjg
      have b3 := below_only b1 g3 (by omega) (by omega : w.heap.size ≤ w.heap.size + 1)
      have a3 := a1.grown g3 (by simp)
      have s3 := g3.size
      clear a2 s2 a1 hjg c3 f3 b2 g2 g3 H2
      have K3 := Lib.hid (HK.out.below b3 hB0)
      have hgt := Lib.hid ((HH.out.lies.below b3 glt))
      go_loopw [18] (fun i wr => ∃ k : Nat, k ≤ 8 ∧ i = .int .i64 k ∧ HashAt wr (w.heap.size + 1) (Ls s n k) n ∧ w3.grownBy wr (some (w.heap.size + 1))) (fun i _ => 8 - (intOf i).toNat)
      case atStart => exact ⟨0, by omega, rfl, H3.out, World.grownBy.refl _ _⟩
      case round =>
        obtain ⟨k, hk, rfl, hk2, hkg⟩ := hrel
        have HK2 := Lib.hid hk2
        clear hk2
        by_cases hlt : k < 8
        · have hG := hgt.out.grown hkg (by simp; omega)
          have cg := (hG.cell 73).trans (hash_total (words_len _) HL.out)
          clear hG
          go_wp2_with fail
          rw [show ((n : Int) * 8 / 2 ^ (56 - 8 * k) % 256) = ((Sha.lenB n k : Nat) : Int) from by unfold Sha.lenB; push_cast; rfl]
          refine (put_any (w.heap.size + 1) (Ls s n k) n (Sha.lenB n k) wr HK2.out (Nat.mod_lt _ (by omega)) (K3.out.grown hkg (by omega)) (by omega)).mono ?_
          rintro e w4 ⟨rfl, h4, g4⟩
          rw [Ls_next] at h4
          have H4 := Lib.hid h4
          clear h4
          go_wp2_with fail
          go_roundw
          case rel => exact ⟨k + 1, by omega, by go_num, H4.out, only_trans hkg g4⟩
          case measure => simp [intOf]; omega
        · have hd : decide ((k : Int) < 8) = false := by simp; omega
          have hk8 : k = 8 := by omega
          have h5 := HK2.out
          rw [hk8] at h5
          have H5 := Lib.hid h5
          clear h5 hk8 HK2
          obtain ⟨w5, rfl⟩ : ∃ w5 : World, w5 = wr := ⟨_, rfl⟩
          have b5 := below_only b3 hkg (by omega) (by omega : w.heap.size ≤ w.heap.size + 1)
          have a5 := a3.grown hkg (by simp)
          have s5 := hkg.size
          clear hkg a3 b3 hgt K3 H3 HH HSZ HF HL
          generalize Ls s n 8 = t at *
          go_wp2_with fail
          have a6 := a5.alloc (.cells Z32 27)
          have d6 : At (w5.alloc (.cells Z32 27)) w5.heap.size 27 (u8L (Dk t.r 0)).toArray := by rw [Dk_zero]; exact At.new _ _ _
          have h6 := H5.out.lies.alloc (.cells Z32 27)
          have b6 : Below w.heap.size w (w5.alloc (.cells Z32 27)) := b5.alloc (by have := b5.size; omega) _
          have HT := Lib.hid H5.out.r
          have hq6 := H5.out.len
          have HQ6 := Lib.hid hq6
          have lt6 : w.heap.size + 1 < w5.heap.size := by omega
          clear H5 hq6 b5 a5
          have s6 : (w5.alloc (Obj.cells Z32 27)).heap.size = w5.heap.size + 1 := size_alloc _ _
          generalize hD : w5.heap.size = D at *
          generalize hw6 : w5.alloc (Obj.cells Z32 27) = w6 at *
          clear hw6 hD
          have H6 := Lib.hid h6
          clear h6
          go_loopw [34] (fun i wr => ∃ k : Nat, k ≤ 32 ∧ i = .int .i64 k ∧ At wr D 27 (u8L (Dk t.r k)).toArray ∧ w6.grownBy wr (some D)) (fun i _ => 32 - (intOf i).toNat)
          case atStart => exact ⟨0, by omega, rfl, d6, World.grownBy.refl _ _⟩
          case round =>
            obtain ⟨k, hk, rfl, hk2, hkg⟩ := hrel
            have HK3 := Lib.hid hk2
            by_cases hlt : k < 32
            · have hG := H6.out.grown hkg (by simp; omega)
              have cg := (hG.cell (k / 4)).trans (hash_word (words_len _) (k / 4) (by omega))
              have fd := hk2.free k
              have cd := (hk2.cell k).trans (by simpa using u8L_get (Dk t.r k) k (by rw [Dk_len _ _ hk]; omega))
              rw [word_words] at cg
              have hwl := Sha.word_lt t.r HT.out (k / 4)
              have HD := Lib.hid (Dk_set t.r k hlt)
              clear hG hk2
              generalize Sha.word t.r (k / 4) = wd at *
              go_wp2_with fail
              have hv : ((wd : Int) / 2 ^ (24 - 8 * (k % 4)) % 256) = ((wd / 2 ^ (24 - 8 * (k % 4)) % 256 : Nat) : Int) := by push_cast; rfl
              go_roundw
              case rel =>
                refine ⟨k + 1, by omega, by go_num, ?_, only_set hkg (.inl rfl) _⟩
                have := HK3.out.put k (.int .u8 ((wd / 2 ^ (24 - 8 * (k % 4)) % 256 : Nat) : Int))
                rw [hv]
                rw [show (u8L (Dk t.r k)).toArray.setIfInBounds k (.int .u8 ((wd / 2 ^ (24 - 8 * (k % 4)) % 256 : Nat) : Int)) = (u8L (Dk t.r (k + 1))).toArray from by
                  apply Array.toList_inj.1
                  rw [Array.toList_setIfInBounds]
                  show (u8L (Dk t.r k)).set k _ = u8L (Dk t.r (k + 1))
                  rw [u8L_set, HD.out]] at this
                exact this
              case measure => simp [intOf]; omega
            · have hd : decide ((k : Int) < 32) = false := by simp; omega
              have hk32 : k = 32 := by omega
              have h7 := HK3.out
              rw [hk32, Dk_full, ← HST.out] at h7
              have H7 := Lib.hid h7
              have a7 := Lib.hid (a6.grown hkg (by simp; omega))
              have hsz : (Tryd.prog.info? 27).map (·.size) = some (u8L out).toArray.size := by
                rw [HST.out]; simp only [List.size_toArray, u8L_len, Sha.digest_len]; exact (zero_of_info zero27).2
              have HZ := Lib.hid hsz
              have h8 := Lib.hid (below_only b6 hkg (by omega) (by omega))
              clear h7 hk32 hsz hk2 a6 d6 H6
              go_wp2_with (first | (refine wpList_load_row rfl 27 (.tmp 5) rfl D rfl 27 (u8L out).toArray (0, 0) _ H7.out Tryd.underlying27 rfl HZ.out ?_) | (refine wpList_store_row rfl 27 (.tmp 2) (.tmp 52) rfl w.heap.size (u8L out).toArray rfl rfl 27 Z32 a7.out HZ.out ?c2 ?c3 ?_))
              case c2 =>
                have := HZ.out
                have h2 := (zero_of_info zero27).2
                rw [h2] at this
                exact (show Z32.size = 32 from rfl).trans (Option.some.inj this)
              case c3 =>
                rw [Array.all_eq_true_iff_forall_mem]
                intro v hv
                exact u8L_one _ v (by simpa using hv)
              refine bodyPost_ret (results_cell_row rfl _ _ w.heap.size 27 (u8L out).toArray (0, 0) _ rfl (setRow_heap _ _ _ _ _ _ a7.out) Tryd.underlying27 rfl HZ.out) rfl ⟨rfl, ?_⟩
              exact below_setRow h8.out (Nat.le_refl _) _
    · have hd : ((((n + 1 + j) % 64 : Nat) : Int) == 56) = false := by simp; omega
      have HQ := Lib.hid hq
      clear hz hq
      go_wp2_with fail
      refine (put_any (w.heap.size + 1) (Zj s j) n 0 wr HJ.out (by omega) ((HK.out.below b2 hB0).grown hjg (by omega)) (by omega)).mono ?_
      rintro e w4 ⟨rfl, h4, g4⟩
      rw [Zj_next] at h4
      have H4 := Lib.hid h4
      clear h4
      go_wp2_with fail
      go_roundg (gk - 1)
      case measure => have := HQ.out; omega
      case rel => exact ⟨j + 1, by have := HQ.out; omega, H4.out, only_trans hjg g4⟩
end Go.Proofs.YtcnijcmddnacaaaDoor
