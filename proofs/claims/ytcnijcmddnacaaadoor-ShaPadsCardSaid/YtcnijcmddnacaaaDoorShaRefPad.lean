/- What the reference's K and Padded answer: the table of constants as a new row; the bytes padded, as a new row. Conditions: fewer than 2^31 bytes. -/
import Derived.Test.YtcnijcmddnacaaaDoorShaSum
import Derived.OwnWalk
import Derived.Deep.AppendLies
import Derived.Great.BuildSlice
import Derived.Deep.LoopGhost
namespace Go.Proofs.YtcnijcmddnacaaaDoor
open Go.RowKit
set_option linter.unusedVariables false
theorem info5 : (Tryd.prog.info? 5).map (fun i => (i.zero, i.size, i.bytes)) = some (some (.int .u8 0), 1, 1) := by kernel_rfl
theorem own_form {w : World} {B n : Nat} {v : Value} {xs : List Value} (h : w.ownsRow B 5 1 v n xs) (hne : ¬ v = .slice none 0 0) : ∃ g cap, v = .slice (some ⟨g, 0, none⟩) n cap ∧ B ≤ g ∧ g < w.heap.size := by
  rcases h.2 with ⟨hv, _⟩ | ⟨g, cap, cur, hv, hb, hg, _⟩
  · exact absurd hv hne
  · exact ⟨g, cap, hv, hb, (Array.getElem?_eq_some_iff.1 hg).1⟩
theorem own_cap {w : World} {B g n cap : Nat} {xs : List Value} (h : w.ownsRow B 5 1 (.slice (some ⟨g, 0, none⟩) n cap) n xs) : n ≤ cap := by
  rcases h.2 with ⟨hv, _⟩ | ⟨g', cap', cur, hv, _, _, hn, _⟩
  · simp at hv
  · simp only [Value.slice.injEq] at hv
    omega
theorem below_row5 {B : Nat} {a b c : World} {v : Value} {n : Nat} {xs : List Value} (h : Below B a b) (ho : b.ownsRow B 5 1 v n xs) (k : b.grownBy c v.ownBlock) (hB : B ≤ b.heap.size) : Below B a c :=
  h.grown k hB (fun r e => (ho.lt r e).1)
theorem BytesAt.of_own {w : World} {B g n cap : Nat} {l : List Nat} (h : w.ownsRow B 5 1 (.slice (some ⟨g, 0, none⟩) n cap) n (u8L l)) (hb : Sha.bytes l) : BytesAt w g 0 l :=
  ⟨fun i v hv => by
    have := h.cells rfl i v hv
    rw [show (⟨g, 0, none⟩ : Addr).add i = ⟨g, 0 + i, none⟩ from by unfold Addr.add; split <;> simp_all] at this
    exact this, hb⟩
theorem BytesAt.below {w w' : World} {B b o : Nat} {l : List Nat} (h : BytesAt w b o l) (hb : Below B w w') (hg : b < B) : BytesAt w' b o l := ⟨fun i v hv => (hb.cell (p := ⟨b, o + i, none⟩) hg).trans (h.lies i v hv), h.small⟩
theorem BytesAt.news {w : World} {b o : Nat} {l : List Nat} (h : BytesAt w b o l) : ∀ j u, (u8L l)[j]? = some u → w.cell? ((⟨b, o, none⟩ : Addr).add j) = some u := fun j u hu => by
  have := h.lies j u hu
  rw [show (⟨b, o, none⟩ : Addr).add j = ⟨b, o + j, none⟩ from by unfold Addr.add; split <;> simp_all]
  exact this
theorem one_new (w : World) (v : Value) : ∀ j u, [v][j]? = some u → (w.alloc (.cells #[v] 5)).cell? ((⟨w.heap.size, 0, none⟩ : Addr).add j) = some u :=
  World.news_of_block (cs := #[v]) (t := 5) (fr := (0, 0)) (heap_alloc_new w _)
theorem u8L_snoc (l : List Nat) (x : Nat) : u8L (l ++ [x]) = u8L l ++ [.int .u8 (x : Int)] := by simp [u8L]
theorem max_big : 1000000000000 ≤ maxLen := by decide
def shl (n k : Nat) : Nat := n * 8 * 256 ^ k % 18446744073709551616
theorem shl_zero (n : Nat) (h : n < 2147483648) : shl n 0 = n * 8 := by unfold shl; simp; omega
theorem shl_next (n k : Nat) : shl n k * 256 % 18446744073709551616 = shl n (k + 1) := by
  unfold shl; rw [Nat.mod_mul_mod, Nat.pow_succ, Nat.mul_assoc]
theorem shl_top (n k : Nat) (hk : k < 8) (h : n < 2147483648) : shl n k / 72057594037927936 = Sha.lenB n k := by
  unfold shl Sha.lenB
  match k, hk with
  | 0, _ => simp only [Nat.reducePow, Nat.reduceMul, Nat.reduceSub]; omega
  | 1, _ => simp only [Nat.reducePow, Nat.reduceMul, Nat.reduceSub]; omega
  | 2, _ => simp only [Nat.reducePow, Nat.reduceMul, Nat.reduceSub]; omega
  | 3, _ => simp only [Nat.reducePow, Nat.reduceMul, Nat.reduceSub]; omega
  | 4, _ => simp only [Nat.reducePow, Nat.reduceMul, Nat.reduceSub]; omega
  | 5, _ => simp only [Nat.reducePow, Nat.reduceMul, Nat.reduceSub]; omega
  | 6, _ => simp only [Nat.reducePow, Nat.reduceMul, Nat.reduceSub]; omega
  | 7, _ => simp only [Nat.reducePow, Nat.reduceMul, Nat.reduceSub]; omega

set_option maxRecDepth 100000 in
set_option maxHeartbeats 2000000 in
theorem refK_any (w : World) : Calls Tryd.prog 13 #[] w fun e w' => e = .returned (.slice (some ⟨w.heap.size, 0, none⟩) 64 64) ∧ w' = w.alloc (.cells (u32L Sha.KS).toArray 38) := by
  go_enter Tryd.func13, Tryd.ntmps13
  go_wp2_with fail
  go_ret
  exact ⟨rfl, rfl⟩

set_option maxRecDepth 100000 in
set_option maxHeartbeats 2000000 in
theorem padded_any (b o c0 : Nat) (bs : List Nat) (w : World) (hb : BytesAt w b o bs) (hlt : b < w.heap.size) (hn : bs.length < 2147483648) :
    Calls Tryd.prog 6 #[.slice (some ⟨b, o, none⟩) bs.length c0] w fun e w' => ∃ g cap, e = .returned (.slice (some ⟨g, 0, none⟩) (Sha.pad bs).length cap) ∧ (Sha.pad bs).length ≤ cap ∧ BytesAt w' g 0 (Sha.pad bs) ∧ g < w'.heap.size ∧ Below w.heap.size w w' := by
  obtain ⟨i0, hi0, hz0, hz1, hz2⟩ := info_parts info5
  have HB := Lib.hid hb
  have HI0 := Lib.hid hi0
  have HZ0 := Lib.hid hz0
  have HZ1 := Lib.hid hz1
  have HZ2 := Lib.hid hz2
  have hm1 : 0 + bs.length ≤ maxLen := by have := max_big; omega
  have hm2 : (0 + bs.length) * 1 ≤ 140737488355328 := by omega
  have HNW := Lib.hid ((hb.below ((Below.refl w.heap.size w).alloc (Nat.le_refl _) (.cells #[] 5)) hlt).news)
  have HPL := Lib.hid (Sha.pad_len bs)
  have HPB := Lib.hid (Sha.bytes_pad bs hb.small)
  clear hb hi0 hz0 hz1 hz2
  generalize hnn : bs.length = n at *
  have HLN := Lib.hid hnn
  have HL1 := Lib.hid (show (u8L bs).length = n * 1 by rw [u8L_len, hnn, Nat.mul_one])
  clear hnn
  go_enter Tryd.func6, Tryd.ntmps6
  go_wp2_with (at_builtin; refine wpList_append_own _ rfl _ _ _ rfl w.heap.size 5 i0 _ 1 1 Tryd.underlying24 HI0.out HZ0.out HZ1.out HZ2.out rfl (by omega) (.slice (some ⟨w.heap.size, 0, none⟩) 0 0) 0 [] rfl (World.ownsRow_made w #[] 0 (Nat.le_refl _) (Nat.zero_le _) rfl) ⟨b, o, none⟩ n c0 (u8L bs) rfl HL1.out HNW.out (u8L_one _) hm1 hm2 (by simp) ?_)
  intro v1 w1 hown1 hgrow1 hnil1
  have hne : ¬ v1 = .slice none 0 0 := hnil1
  obtain ⟨g1, cap1, rfl, hb1, hl1⟩ := own_form hown1 hne
  have b1 : Below w.heap.size w w1 := ((Below.refl w.heap.size w).alloc (Nat.le_refl _) _).grown hgrow1 (by simp) (fun r e => by simp [Value.ownBlock] at e; omega)
  have bs1 := b1.size
  have hown1 : w1.ownsRow w.heap.size 5 1 (.slice (some ⟨g1, 0, none⟩) n cap1) n (u8L bs) := by simpa using hown1
  have HO1 := Lib.hid hown1
  have HG1 := Lib.hid b1
  clear hne hnil1 hgrow1 hown1 b1
  have hm3 : n + 1 ≤ maxLen := by have := max_big; omega
  have hm4 : (n + 1) * 1 ≤ 140737488355328 := by omega
  go_wp2_with (at_builtin; refine wpList_append_lies _ rfl _ _ _ rfl w.heap.size 5 i0 _ 1 1 Tryd.underlying24 HI0.out HZ0.out HZ1.out HZ2.out rfl (by omega) (.slice (some ⟨g1, 0, none⟩) n cap1) n _ rfl (HO1.out.alloc _) ⟨w1.heap.size, 0, none⟩ 1 1 [.int .u8 128] rfl rfl (one_new w1 _) (by simp [Value.oneCell']) (by omega) hm3 hm4 (by simp; omega) (w1.heap.size + 1) (by simp) ?_)
  intro g2 cap2 w2 hown2 hgrow2 hat2 hlt2
  have b2 : Below w.heap.size w w2 := below_row5 (HG1.out.alloc bs1 _) (HO1.out.alloc _) hgrow2 (by simp; omega)
  have hown2 : w2.ownsRow w.heap.size 5 1 (.slice (some ⟨g2, 0, none⟩) (n + 1) cap2) (n + 1) (u8L (bs ++ [128] ++ List.replicate 0 0)) := by
    have := u8L_snoc bs 128
    rw [List.replicate_zero, List.append_nil, this]
    exact hown2
  clear hgrow2 hat2
  have HO2 := Lib.hid hown2
  have HG2 := Lib.hid b2
  clear hown2 b2 bs1 hm3 hm4
  go_wp2_with fail
  go_loopg [3] (Sha.zs n) (fun gk v wr => ∃ j g cap L, gk + j = Sha.zs n ∧ L = n + 1 + j ∧ v = .slice (some ⟨g, 0, none⟩) L cap ∧ wr.ownsRow w.heap.size 5 1 v L (u8L (bs ++ [128] ++ List.replicate j 0)) ∧ Below w.heap.size w wr)
  case atStart => exact ⟨0, g2, cap2, n + 1, by omega, rfl, rfl, HO2.out, HG2.out⟩
  case round =>
    obtain ⟨j, g, cap, L, hj, hL, rfl, how, hbl⟩ := hrel
    have hz := Sha.zs_fill n j (by omega)
    have hzs : Sha.zs n < 64 := by unfold Sha.zs; omega
    have HO := Lib.hid how
    have HG := Lib.hid hbl
    have bsz := hbl.size
    clear how hbl
    by_cases hq : j = Sha.zs n
    · have hd : (L : Int) % 64 = 56 := by have := hz.2 hq; omega
      have HO3 := HO.out
      rw [hq] at HO3
      have HO := Lib.hid HO3
      have hLn : L = n + 1 + Sha.zs n := by omega
      have HLN2 := Lib.hid hLn
      have hLs : L < 3000000000 := by omega
      clear HO3 hz hj hL hq hLn hzs
      go_wp2_with fail
      clear hd
      obtain ⟨w3, rfl⟩ : ∃ w3 : World, w3 = wr := ⟨_, rfl⟩
      go_loopw [3, 4, 5] (fun v x i wr => ∃ k g cap M y : Nat, k ≤ 8 ∧ M = L + k ∧ i = .int .i64 k ∧ v = .slice (some ⟨g, 0, none⟩) M cap ∧ x = .int .u64 (y : Int) ∧ y = shl n k ∧ wr.ownsRow w.heap.size 5 1 v M (u8L (bs ++ [128] ++ List.replicate (Sha.zs n) 0 ++ (List.range k).map (Sha.lenB n))) ∧ Below w.heap.size w wr) (fun _ _ i _ => 8 - (intOf i).toNat)
      case atStart => exact ⟨0, g, cap, L, n * 8, by omega, rfl, rfl, rfl, by simp, (shl_zero n hn).symm, by rw [List.range_zero, List.map_nil, List.append_nil]; exact HO.out, HG.out⟩
      case round =>
        obtain ⟨k, g, cap, M, y, hk, hM, rfl, rfl, rfl, hy, how, hbl⟩ := hrel
        have HO := Lib.hid how
        have HG := Lib.hid hbl
        have bsz := hbl.size
        clear how hbl
        by_cases hlt : k < 8
        · have HT := Lib.hid (show y / 72057594037927936 = Sha.lenB n k by rw [hy]; exact shl_top n k hlt hn)
          have HNX := Lib.hid (show y * 256 % 18446744073709551616 = shl n (k + 1) by rw [hy]; exact shl_next n k)
          have hyl : y < 18446744073709551616 := by rw [hy]; exact Nat.mod_lt _ (by omega)
          obtain ⟨b1, hb1⟩ : ∃ b1, b1 = y / 72057594037927936 := ⟨_, rfl⟩
          have q1 : (y : Int) / 72057594037927936 = (b1 : Int) := by omega
          have q2 : b1 < 256 := by omega
          have HB1 := Lib.hid (show b1 = Sha.lenB n k by rw [hb1]; exact HT.out)
          obtain ⟨y1, hy1⟩ : ∃ y1, y1 = y * 256 % 18446744073709551616 := ⟨_, rfl⟩
          have q3 : IntKind.u64.wrap ((y : Int) * 256) = (y1 : Int) := by rw [show IntKind.u64.wrap ((y : Int) * 256) = ((y : Int) * 256) % 18446744073709551616 from by simp [IntKind.wrap, IntKind.bits, IntKind.signed]]; omega
          have HY1 := Lib.hid (show y1 = shl n (k + 1) by rw [hy1]; exact HNX.out)
          have HM := Lib.hid hM
          have hml : M + 1 ≤ maxLen := by have := max_big; omega
          have hmb : (M + 1) * 1 ≤ 140737488355328 := by omega
          clear hy hy1 hb1 hM
          go_wp2_with (at_builtin; refine wpList_append_lies _ rfl _ _ _ rfl w.heap.size 5 i0 _ 1 1 Tryd.underlying24 HI0.out HZ0.out HZ1.out HZ2.out rfl (by omega) (.slice (some ⟨g, 0, none⟩) M cap) M _ rfl (HO.out.alloc _) ⟨wr.heap.size, 0, none⟩ 1 1 [.int .u8 (b1 : Int)] rfl rfl (one_new wr _) (by simp [Value.oneCell']) (by omega) hml hmb (by simp; omega) (wr.heap.size + 1) (by simp) ?_)
          intro g4 cap4 w4 hown4 hgrow4 hat4 hlt4
          have b4 : Below w.heap.size w w4 := below_row5 (HG.out.alloc bsz _) (HO.out.alloc _) hgrow4 (by simp; omega)
          have hown4 : w4.ownsRow w.heap.size 5 1 (.slice (some ⟨g4, 0, none⟩) (M + 1) cap4) (M + 1) (u8L (bs ++ [128] ++ List.replicate (Sha.zs n) 0 ++ (List.range (k + 1)).map (Sha.lenB n))) := by
            have := u8L_snoc (bs ++ [128] ++ List.replicate (Sha.zs n) 0 ++ (List.range k).map (Sha.lenB n)) b1
            rw [List.range_succ, List.map_append, List.map_singleton, ← HB1.out, ← List.append_assoc, this]
            simpa using hown4
          clear hgrow4 hat4
          have HO4 := Lib.hid hown4
          have HG4 := Lib.hid b4
          clear hown4 b4
          go_wp2_with fail
          go_roundw
          case rel => exact ⟨k + 1, g4, cap4, M + 1, y1, by omega, by have := HM.out; omega, by go_num, rfl, rfl, HY1.out, HO4.out, HG4.out⟩
          case measure => simp [intOf]; omega
        · have hd : decide ((k : Int) < 8) = false := by simp; omega
          have hk8 : k = 8 := by omega
          have hMM : M = (Sha.pad bs).length := by rw [HPL.out, hM, HLN2.out]; omega
          have HM := Lib.hid hMM
          have how := HO.out
          rw [hk8] at how
          have how2 : wr.ownsRow w.heap.size 5 1 (.slice (some ⟨g, 0, none⟩) M cap) M (u8L (Sha.pad bs)) := by
            unfold Sha.pad
            rw [HLN.out]
            exact how
          have HO2 := Lib.hid how2
          clear hk8 how how2 hM hMM hy
          go_wp2_with fail
          go_ret
          refine ⟨g, cap, by first | rfl | (rw [HM.out]; rfl), by rw [← HM.out]; exact own_cap HO2.out, ?_, (HO2.out.lt g rfl).2, HG.out⟩
          exact BytesAt.of_own HO2.out HPB.out
    · have hd : ((L : Int) % 64 == 56) = false := by
        have : ¬ (n + 1 + j) % 64 = 56 := fun h => hq (hz.1 h)
        simp; omega
      have HQ := Lib.hid (show j < Sha.zs n by omega)
      have hml : L + 1 ≤ maxLen := by have := max_big; omega
      have hmb : (L + 1) * 1 ≤ 140737488355328 := by omega
      have HL2 := Lib.hid hL
      clear hz hq hL
      go_wp2_with (at_builtin; refine wpList_append_lies _ rfl _ _ _ rfl w.heap.size 5 i0 _ 1 1 Tryd.underlying24 HI0.out HZ0.out HZ1.out HZ2.out rfl (by omega) (.slice (some ⟨g, 0, none⟩) L cap) L _ rfl (HO.out.alloc _) ⟨wr.heap.size, 0, none⟩ 1 1 [.int .u8 0] rfl rfl (one_new wr _) (by simp [Value.oneCell']) (by omega) hml hmb (by simp; omega) (wr.heap.size + 1) (by simp) ?_)
      intro g4 cap4 w4 hown4 hgrow4 hat4 hlt4
      have b4 : Below w.heap.size w w4 := below_row5 (HG.out.alloc bsz _) (HO.out.alloc _) hgrow4 (by simp; omega)
      have hown4 : w4.ownsRow w.heap.size 5 1 (.slice (some ⟨g4, 0, none⟩) (L + 1) cap4) (L + 1) (u8L (bs ++ [128] ++ List.replicate (j + 1) 0)) := by
        have := u8L_snoc (bs ++ [128] ++ List.replicate j 0) 0
        rw [List.replicate_succ', ← List.append_assoc, this]
        simpa using hown4
      clear hgrow4 hat4
      have HO4 := Lib.hid hown4
      have HG4 := Lib.hid b4
      clear hown4 b4
      go_wp2_with fail
      go_roundg (gk - 1)
      case measure => have := HQ.out; omega
      case rel => exact ⟨j + 1, g4, cap4, L + 1, by have := HQ.out; omega, by have := HL2.out; omega, rfl, HO4.out, HG4.out⟩
end Go.Proofs.YtcnijcmddnacaaaDoor
