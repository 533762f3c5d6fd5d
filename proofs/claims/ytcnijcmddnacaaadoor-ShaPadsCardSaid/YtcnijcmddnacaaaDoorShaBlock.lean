/- What the program's 'block' makes of a hash: the words behind a block; nothing else of what was there turns. Conditions: the hash's lengths and ranges, and that the table of constants is laid. -/
import Derived.Test.YtcnijcmddnacaaaDoorShaRot
import Derived.Test.YtcnijcmddnacaaaDoorShaMem
import Derived.StillTailTactics
import Derived.Deep.QuietTactic
import Derived.BigQuiet
namespace Go.Proofs.YtcnijcmddnacaaaDoor
open Go.RowKit
set_option linter.unusedVariables false
def Z64 : Array Value := (u32L (fill64 [])).toArray
theorem zero48 : (Tryd.prog.info? 48).map (fun i => (i.zero, i.size)) = some (some (.agg Z64), 64) := by kernel_rfl
theorem or_sum (a b s : Nat) (i : Nat) (ha : a % 2 ^ i = 0) (hb : b < 2 ^ i) (h : a + b < 4294967296) (hs : s = a + b) : bits .or .u32 (a : Int) (b : Int) = (s : Int) := by
  subst hs
  rw [u32_or_nat a b (by omega) (by omega), nat_join i a b ha hb]
theorem left_w {P : Program} {f : FuncId} {args : Array Value} {w : World} {v : Value} (h : Calls P f args w fun e w' => e = .returned v ∧ w = w') :
    Calls P f args w fun e w' => e = .returned v ∧ w' = w := h.mono fun _ _ ⟨he, hw⟩ => ⟨he, hw.symm⟩
/-- The words while the second are added to the first. -/
def mix (r c : Sha.R) (k : Nat) : List Nat := (words (Sha.addR r c)).take k ++ (words r).drop k
theorem mix_len (r c : Sha.R) (k : Nat) (h : k ≤ 8) : (mix r c k).length = 8 := by
  have h1 : (words (Sha.addR r c)).length = 8 := rfl
  have h2 : (words r).length = 8 := rfl
  simp only [mix, List.length_append, List.length_take, List.length_drop, h1, h2]
  omega
theorem mix_get (r c : Sha.R) (k : Nat) (h : k < 8) : (mix r c k).getD k 0 = (words r).getD k 0 := by
  match k, h with
  | 0, _ => rfl
  | 1, _ => rfl
  | 2, _ => rfl
  | 3, _ => rfl
  | 4, _ => rfl
  | 5, _ => rfl
  | 6, _ => rfl
  | 7, _ => rfl
theorem mix_set (r c : Sha.R) (k : Nat) (h : k < 8) : (mix r c k).set k (((words r).getD k 0 + (words c).getD k 0) % 4294967296) = mix r c (k + 1) := by
  match k, h with
  | 0, _ => rfl
  | 1, _ => rfl
  | 2, _ => rfl
  | 3, _ => rfl
  | 4, _ => rfl
  | 5, _ => rfl
  | 6, _ => rfl
  | 7, _ => rfl
theorem mix_full (r c : Sha.R) : mix r c 8 = words (Sha.addR r c) := rfl
theorem not32 (e : Nat) (h : e < 4294967296) : bits .xor .u32 IntKind.u32.max (e : Int) = ((4294967295 - e : Nat) : Int) := by
  show IntKind.u32.wrap ((BitVec.ofInt 32 IntKind.u32.max ^^^ BitVec.ofInt 32 (e : Int)).toNat : Int) = _
  have h1 : BitVec.ofInt 32 IntKind.u32.max = BitVec.allOnes 32 := by decide
  rw [h1, BitVec.allOnes_xor, BitVec.toNat_not, ofInt_u32 e h, IntKind.wrap_u32']
  omega
theorem quietly {P : Program} {f : FuncId} {args : Array Value} {w : World} {a n : Nat} {v : Value} (c : ∀ W : World, Calls P f args W fun e w' => e = .returned v ∧ W = w') :
    Calls P f args (w.drewN (a + n)) fun e w'' => e = .returned v ∧ ∃ m, w'' = w.drewN (a + m) :=
  (c _).mono fun _ _ ⟨he, hw⟩ => ⟨he, n, hw.symm⟩
theorem size43 : (Tryd.prog.info? 43).map (·.size) = some 8 := by kernel_rfl
def Z8 : Array Value := (u32L [0, 0, 0, 0, 0, 0, 0, 0]).toArray
theorem Z64_size : Z64.size = 64 := by simp [Z64, u32L_len, fill64]

set_option maxRecDepth 100000 in
set_option maxHeartbeats 2000000 in
theorem block_any (g : Nat) (r : Sha.R) (part : List Nat) (fill total : Nat) (w : World) (hg : At w g 45 (hashA (words r) part fill total)) (hr : r.ok) (hp : part.length = 64) (hb : Sha.bytes part)
    (hK : ∀ i, i < 64 → w.cell? ⟨0, i, none⟩ = some (.int .u32 (Sha.KS.getD i 0 : Nat))) (h0 : 0 < g) :
    Calls Tryd.prog 17 #[.pointer (some ⟨g, 0, none⟩)] w fun e w' => e = .returned (.tuple #[]) ∧ At w' g 45 (hashA (words (Sha.blockR r part)) part 0 total) ∧ w.grownBy w' (some g) := by
  have hz := (zero_of_info zero48).1
  have HG := Lib.hid hg
  have HB := Lib.hid hb
  have HR := Lib.hid hr
  have HK := Lib.hid hK
  have glt := hg.lt
  clear hg hb hr hK
  go_enter Tryd.func17, Tryd.ntmps17
  go_wp2_with fail
  go_loopw [14] (fun i wr => ∃ k : Nat, k ≤ 16 ∧ i = .int .i64 k ∧ At wr w.heap.size 48 (u32L (fill64 (Sha.sched part k))).toArray ∧ Below w.heap.size w wr) (fun i _ => 16 - (intOf i).toNat)
  case atStart => exact ⟨0, by omega, rfl, At.new _ _ _, (Below.refl _ _).alloc (Nat.le_refl _) _⟩
  case round =>
    obtain ⟨k, hk, rfl, hw, hb⟩ := hrel

    by_cases hlt : k < 16
    · have hG := HG.out.below hb HG.out.lt
      have c0 : wr.cell? ⟨g, 8 + 4 * k, none⟩ = some (.int .u8 (part.getD (4 * k) 0 : Nat)) := (hG.cell _).trans (hash_part (words_len r) hp (4 * k) (by omega))
      have c1 : wr.cell? ⟨g, 8 + (4 * k + 1), none⟩ = some (.int .u8 (part.getD (4 * k + 1) 0 : Nat)) := (hG.cell _).trans (hash_part (words_len r) hp (4 * k + 1) (by omega))
      have c2 : wr.cell? ⟨g, 8 + (4 * k + 2), none⟩ = some (.int .u8 (part.getD (4 * k + 2) 0 : Nat)) := (hG.cell _).trans (hash_part (words_len r) hp (4 * k + 2) (by omega))
      have c3 : wr.cell? ⟨g, 8 + (4 * k + 3), none⟩ = some (.int .u8 (part.getD (4 * k + 3) 0 : Nat)) := (hG.cell _).trans (hash_part (words_len r) hp (4 * k + 3) (by omega))
      have l0 := Sha.bytes_getD HB.out (4 * k)
      have l1 := Sha.bytes_getD HB.out (4 * k + 1)
      have l2 := Sha.bytes_getD HB.out (4 * k + 2)
      have l3 := Sha.bytes_getD HB.out (4 * k + 3)
      have hbe : Sha.be part k = ((part.getD (4 * k) 0 * 256 + part.getD (4 * k + 1) 0) * 256 + part.getD (4 * k + 2) 0) * 256 + part.getD (4 * k + 3) 0 := rfl
      have hsl := Sha.sched_len part k
      have hst : Sha.sched part (k + 1) = Sha.sched part k ++ [Sha.be part k] := by
        rw [Sha.sched, Sha.wStep, if_pos hlt]
      have cw : wr.cell? ⟨w.heap.size, k, none⟩ = some (.int .u32 ((fill64 (Sha.sched part k)).getD k 0 : Nat)) := by
        rw [hw.cell, List.getElem?_toArray]
        exact u32L_get _ _ (by rw [fill64_len _ (by omega)]; omega)
      have fw := hw.free k
      have HST := Lib.hid hst
      have HSL := Lib.hid hsl
      have HW := Lib.hid hw
      clear hst hsl hw hG
      generalize part.getD (4 * k) 0 = b0 at *
      generalize part.getD (4 * k + 1) 0 = b1 at *
      generalize part.getD (4 * k + 2) 0 = b2 at *
      generalize part.getD (4 * k + 3) 0 = b3 at *
      generalize (fill64 (Sha.sched part k)).getD k 0 = old at *
      obtain ⟨x1, h1⟩ : ∃ x1, x1 = b0 * 16777216 + b1 * 65536 := ⟨_, rfl⟩
      obtain ⟨x2, h2⟩ : ∃ x2, x2 = x1 + b2 * 256 := ⟨_, rfl⟩
      obtain ⟨x3, h3⟩ : ∃ x3, x3 = x2 + b3 := ⟨_, rfl⟩
      have hx3 : x3 = Sha.be part k := by rw [h3, h2, h1, hbe]; omega
      have e1 : bits .or .u32 ((b0 : Int) * 16777216) ((b1 : Int) * 65536) = (x1 : Int) := or_sum (b0 * 16777216) (b1 * 65536) x1 24 (by omega) (by omega) (by omega) h1
      have e2 : bits .or .u32 (x1 : Int) ((b2 : Int) * 256) = (x2 : Int) := or_sum x1 (b2 * 256) x2 16 (by omega) (by omega) (by omega) h2
      have e3 : bits .or .u32 (x2 : Int) (b3 : Int) = (x3 : Int) := or_sum x2 b3 x3 8 (by omega) (by omega) (by omega) h3
      have HX := Lib.hid hx3
      clear hx3 hbe h1 h2 h3
      go_wp2_with fail
      go_region
      go_wp2_with fail
      go_roundw
      case rel =>
        refine ⟨k + 1, by omega, by go_num, ?_, (hb.setCell (Nat.le_refl _) _).drew⟩
        have := HW.out.put k (.int .u32 (x3 : Int))
        rw [List.setIfInBounds_toArray, u32L_set, HX.out] at this
        have e : (fill64 (Sha.sched part k)).set k (Sha.be part k) = fill64 (Sha.sched part (k + 1)) := by
          have := fill64_set (Sha.sched part k) (Sha.be part k) (by rw [HSL.out]; omega)
          rw [HSL.out] at this
          rw [this, HST.out]
        rw [e] at this
        rw [HX.out]
        exact this.drew
      case measure => simp [intOf]; omega
    · have hk16 : k = 16 := by omega
      rw [hk16] at hw
      have hd : decide ((k : Int) < 16) = false := by simp; omega
      clear hk16
      go_wp2_with fail
      clear hd
      go_loopw [4] (fun i wr => ∃ k : Nat, 16 ≤ k ∧ k ≤ 64 ∧ i = .int .i64 k ∧ At wr w.heap.size 48 (u32L (fill64 (Sha.sched part k))).toArray ∧ Below w.heap.size w wr) (fun i _ => 64 - (intOf i).toNat)
      case atStart => exact ⟨16, by omega, by omega, rfl, hw, hb⟩
      case round =>
        obtain ⟨k, hk0, hk, rfl, hw, hb⟩ := hrel

        by_cases hlt : k < 64
        · have hsl := Sha.sched_len part k
          have cc : ∀ i, i < k → wr.cell? ⟨w.heap.size, i, none⟩ = some (.int .u32 ((Sha.sched part k).getD i 0 : Nat)) := fun i hi => by
            rw [hw.cell, List.getElem?_toArray, ← fill64_get _ _ (by omega)]
            exact u32L_get _ _ (by rw [fill64_len _ (by omega)]; omega)
          have c15 := cc (k - 15) (by omega)
          have c2 := cc (k - 2) (by omega)
          have c16 := cc (k - 16) (by omega)
          have c7 := cc (k - 7) (by omega)
          have l15 := Sha.sched_get_lt HB.out k (k - 15)
          have l2 := Sha.sched_get_lt HB.out k (k - 2)
          have l16 := Sha.sched_get_lt HB.out k (k - 16)
          have l7 := Sha.sched_get_lt HB.out k (k - 7)
          clear cc
          have hst : Sha.sched part (k + 1) = Sha.sched part k ++ [Sha.wStep part (Sha.sched part k) k] := rfl
          have hws : Sha.wStep part (Sha.sched part k) k = ((Sha.sched part k).getD (k - 16) 0 + (Sha.sched part k).getD (k - 7) 0 + Sha.s0 ((Sha.sched part k).getD (k - 15) 0) + Sha.s1 ((Sha.sched part k).getD (k - 2) 0)) % 4294967296 := by
            rw [Sha.wStep, if_neg (by omega)]
          have cw : wr.cell? ⟨w.heap.size, k, none⟩ = some (.int .u32 ((fill64 (Sha.sched part k)).getD k 0 : Nat)) := by
            rw [hw.cell, List.getElem?_toArray]
            exact u32L_get _ _ (by rw [fill64_len _ (by omega)]; omega)
          have fw := hw.free k
          have HST := Lib.hid hst
          have HSL := Lib.hid hsl
          have HW := Lib.hid hw
          clear hst hsl hw
          generalize (Sha.sched part k).getD (k - 15) 0 = x at *
          generalize (Sha.sched part k).getD (k - 2) 0 = y at *
          generalize (Sha.sched part k).getD (k - 16) 0 = v at *
          generalize (Sha.sched part k).getD (k - 7) 0 = u at *
          generalize (fill64 (Sha.sched part k)).getD k 0 = old at *
          have HWS := Lib.hid hws
          clear hws
          go_wp2_with fail
          go_quiet (fail)
          go_wp2_with fail
          obtain ⟨W, hW⟩ : ∃ W, W = (wr.drewN nq).drew := ⟨_, rfl⟩
          have c16 : W.cell? ⟨w.heap.size, k - 16, none⟩ = some (.int .u32 v) := by rw [hW]; exact c16
          have c7 : W.cell? ⟨w.heap.size, k - 7, none⟩ = some (.int .u32 u) := by rw [hW]; exact c7
          have cw : W.cell? ⟨w.heap.size, k, none⟩ = some (.int .u32 old) := by rw [hW]; exact cw
          have fw : W.frozen? ⟨w.heap.size, k, none⟩ = false := by rw [hW]; exact fw
          have i16 : IntKind.i64.wrap ((k : Int) - 16) = ((k - 16 : Nat) : Int) := by rw [IntWalk.i64_in _ (by omega)]; omega
          have i7 : IntKind.i64.wrap ((k : Int) - 7) = ((k - 7 : Nat) : Int) := by rw [IntWalk.i64_in _ (by omega)]; omega
          have j16 : ((k - 16 : Nat) : Int) < 64 := by omega
          have j7 : ((k - 7 : Nat) : Int) < 64 := by omega
          have jk : (k : Int) < 64 := by omega
          obtain ⟨a1, ha1⟩ : ∃ a1, a1 = (v + u) % 4294967296 := ⟨_, rfl⟩
          obtain ⟨x1, hx1⟩ : ∃ x1, x1 = Sha.rotr x 7 ^^^ Sha.rotr x 18 := ⟨_, rfl⟩
          obtain ⟨y1, hy1⟩ : ∃ y1, y1 = Sha.rotr y 17 ^^^ Sha.rotr y 19 := ⟨_, rfl⟩
          have lx1 : x1 < 4294967296 := by rw [hx1]; exact Sha.xor32 (Sha.rotr_lt _ _ l15) (Sha.rotr_lt _ _ l15)
          have ly1 : y1 < 4294967296 := by rw [hy1]; exact Sha.xor32 (Sha.rotr_lt _ _ l2) (Sha.rotr_lt _ _ l2)
          obtain ⟨x2, hx2⟩ : ∃ x2, x2 = Sha.s0 x := ⟨_, rfl⟩
          obtain ⟨y2, hy2⟩ : ∃ y2, y2 = Sha.s1 y := ⟨_, rfl⟩
          obtain ⟨a2, ha2⟩ : ∃ a2, a2 = (a1 + x2) % 4294967296 := ⟨_, rfl⟩
          obtain ⟨a3, ha3⟩ : ∃ a3, a3 = (a2 + y2) % 4294967296 := ⟨_, rfl⟩
          have q1 : IntKind.u32.wrap ((v : Int) + (u : Int)) = (a1 : Int) := by rw [IntKind.wrap_u32', ha1]; omega
          have q2 : bits .xor .u32 (Sha.rotr x 7 : Int) (Sha.rotr x 18 : Int) = (x1 : Int) := by rw [hx1]; exact u32_xor_nat _ _ (Sha.rotr_lt _ _ l15) (Sha.rotr_lt _ _ l15)
          have q3 : bits .xor .u32 (x1 : Int) ((x : Int) / 8) = (x2 : Int) := by
            have := u32_xor_nat x1 (x / 8) lx1 (by omega)
            rw [hx2, Sha.s0, ← hx1, ← this]; congr 1
          have q4 : bits .xor .u32 (Sha.rotr y 17 : Int) (Sha.rotr y 19 : Int) = (y1 : Int) := by rw [hy1]; exact u32_xor_nat _ _ (Sha.rotr_lt _ _ l2) (Sha.rotr_lt _ _ l2)
          have q5 : bits .xor .u32 (y1 : Int) ((y : Int) / 1024) = (y2 : Int) := by
            have := u32_xor_nat y1 (y / 1024) ly1 (by omega)
            rw [hy2, Sha.s1, ← hy1, ← this]; congr 1
          have q6 : IntKind.u32.wrap ((a1 : Int) + (x2 : Int)) = (a2 : Int) := by rw [IntKind.wrap_u32', ha2]; omega
          have q7 : IntKind.u32.wrap ((a2 : Int) + (y2 : Int)) = (a3 : Int) := by rw [IntKind.wrap_u32', ha3]; omega
          have hfin : a3 = Sha.wStep part (Sha.sched part k) k := by rw [HWS.out, ha3, ha2, ha1, hx2, hy2]; omega
          have HF := Lib.hid hfin
          clear ha1 hx1 hy1 hx2 hy2 ha2 ha3 hfin
          refine wp_region_still_tail 29 (by kernel_rfl) (by kernel_rfl) ?_
          simp only [List.take_succ_cons, List.take_zero, List.drop_succ_cons, List.drop_zero]
          change wpStill _ _ (wr.drewN nq).drew _ _ _
          change wpStill _ _ _ (fun a' => wpList _ _ _ _ a' (wr.drewN nq).drew) _ _
          rw [← hW]
          have HWW := Lib.hid hW
          clear hW
          repeat still_step
          still_call (left_w (rotl_7 x l15 W))
          repeat still_step
          still_call (left_w (rotl_18 x l15 W))
          repeat still_step
          still_call (left_w (rotl_17 y l2 W))
          repeat still_step
          still_call (left_w (rotl_19 y l2 W))
          repeat still_step
          refine wpStill_nil ?_
          go_wp2_with fail
          go_roundw
          case rel =>
            refine ⟨k + 1, by omega, by omega, by go_num, ?_, ?_⟩
            · rw [HWW.out]
              have := (HW.out.drewN nq).drew.put k (.int .u32 (a3 : Int))
              rw [List.setIfInBounds_toArray, u32L_set, HF.out] at this
              have e : (fill64 (Sha.sched part k)).set k (Sha.wStep part (Sha.sched part k) k) = fill64 (Sha.sched part (k + 1)) := by
                have := fill64_set (Sha.sched part k) (Sha.wStep part (Sha.sched part k) k) (by rw [HSL.out]; omega)
                rw [HSL.out] at this
                rw [this, HST.out]
              rw [e] at this
              rw [HF.out]
              exact this
            · rw [HWW.out]
              exact ((belowN hb nq).drew).setCell (Nat.le_refl _) _
          case measure => simp [intOf]; omega
        · have hk64 : k = 64 := by omega
          rw [hk64, fill64_full _ (Sha.sched_len part 64)] at hw
          have hd : decide ((k : Int) < 64) = false := by simp; omega
          clear hk64
          have hwl := Sha.sched_len part 64
          have hwlt : ∀ i, (Sha.sched part 64).getD i 0 < 4294967296 := fun i => Sha.sched_get_lt HB.out 64 i
          have hblk : Sha.blockR r part = Sha.addR r (Sha.comp (Sha.sched part 64) r 64) := rfl
          generalize Sha.sched part 64 = ws at *
          have HWL := Lib.hid hwl
          have HWT := Lib.hid hwlt
          have HBK := Lib.hid hblk
          clear hwl hwlt hblk
          have hrange : wr.rangeAt g 0 (u32L (words r)) := fun j v hv => by
            have hj : j < 8 := by have := (List.getElem?_eq_some_iff.1 hv).1; rw [u32L_len, words_len] at this; exact this
            rw [Nat.zero_add, (HG.out.below hb HG.out.lt).cell, hash_word (words_len r) j hj, ← hv]
            exact (u32L_get _ _ (by rw [words_len]; exact hj)).symm
          have HRG := Lib.hid hrange
          clear hrange
          go_wp2_with (first | (refine wpList_load_mid rfl 43 _ rfl g 0 rfl (u32L (words r)) _ HRG.out Tryd.underlying43 rfl size43 ?_) | (refine wpList_store_row rfl 43 _ _ rfl wr.heap.size (u32L (words r)).toArray rfl rfl 43 Z8 (At.new _ _ _) size43 rfl (all_oneCell_toArray (u32L_one _)) ?_))
          clear hd
          have hgb := hb.size
          have hgw := hw.lt
          obtain ⟨wo, rfl⟩ : ∃ wo : World, wo = wr := ⟨_, rfl⟩
          go_loopw [106] (fun i wx => ∃ k : Nat, k ≤ 64 ∧ i = .int .i64 k ∧ At wx w.heap.size 48 (u32L ws).toArray ∧ At wx wo.heap.size 43 (u32L (words (Sha.comp ws r k))).toArray ∧ Below w.heap.size w wx) (fun i _ => 64 - (intOf i).toNat)
          case atStart =>
            refine ⟨0, by omega, rfl, ?_, (At.new _ _ _).row _, below_setRow (hb.alloc hb.size _) hb.size _⟩
            exact (hw.alloc _).farRow (Nat.ne_of_lt hw.lt) _
          case round =>
            obtain ⟨k, hk, rfl, hW, hS, hB⟩ := hrel
            by_cases hlt : k < 64
            · have hok := Sha.comp_ok ws r HR.out k
              have hstep : Sha.comp ws r (k + 1) = Sha.rnd (Sha.comp ws r k) (Sha.KS.getD k 0) (ws.getD k 0) := rfl
              have HS := Lib.hid hS
              generalize Sha.comp ws r k = c at *
              have cs : ∀ i, i < 8 → wr.cell? ⟨wo.heap.size, i, none⟩ = some (.int .u32 ((words c).getD i 0 : Nat)) := fun i hi => by
                rw [hS.cell, List.getElem?_toArray]; exact u32L_get _ _ hi
              have s0 : wr.cell? ⟨wo.heap.size, 0, none⟩ = some (.int .u32 (c.a : Nat)) := cs 0 (by omega)
              have s1 : wr.cell? ⟨wo.heap.size, 1, none⟩ = some (.int .u32 (c.b : Nat)) := cs 1 (by omega)
              have s2 : wr.cell? ⟨wo.heap.size, 2, none⟩ = some (.int .u32 (c.c : Nat)) := cs 2 (by omega)
              have s3 : wr.cell? ⟨wo.heap.size, 3, none⟩ = some (.int .u32 (c.d : Nat)) := cs 3 (by omega)
              have s4 : wr.cell? ⟨wo.heap.size, 4, none⟩ = some (.int .u32 (c.e : Nat)) := cs 4 (by omega)
              have s5 : wr.cell? ⟨wo.heap.size, 5, none⟩ = some (.int .u32 (c.f : Nat)) := cs 5 (by omega)
              have s6 : wr.cell? ⟨wo.heap.size, 6, none⟩ = some (.int .u32 (c.g : Nat)) := cs 6 (by omega)
              have s7 : wr.cell? ⟨wo.heap.size, 7, none⟩ = some (.int .u32 (c.h : Nat)) := cs 7 (by omega)
              have ck : wr.cell? ⟨0, k, none⟩ = some (.int .u32 (Sha.KS.getD k 0 : Nat)) := (hB.cell (p := ⟨0, k, none⟩) (by show 0 < w.heap.size; omega)).trans (HK.out k hlt)
              have cw : wr.cell? ⟨w.heap.size, k, none⟩ = some (.int .u32 (ws.getD k 0 : Nat)) := by
                rw [hW.cell, List.getElem?_toArray]; exact u32L_get _ _ (by rw [HWL.out]; exact hlt)
              have lK := Sha.KS_lt k
              have lW := HWT.out k
              have HST := Lib.hid hstep
              clear cs hstep
              generalize Sha.KS.getD k 0 = K at *
              generalize ws.getD k 0 = W at *
              obtain ⟨a, b, cc, d, e, f, g1, h⟩ := c
              obtain ⟨la, lb, lc, ld, le, lf, lg, lh⟩ := hok
              dsimp only at s0 s1 s2 s3 s4 s5 s6 s7 la lb lc ld le lf lg lh
              have jk : (k : Int) < 64 := by omega
              obtain ⟨A1, dA1⟩ : ∃ x, x = Sha.rotr e 6 ^^^ Sha.rotr e 11 := ⟨_, rfl⟩
              obtain ⟨A2, dA2⟩ : ∃ x, x = Sha.S1 e := ⟨_, rfl⟩
              obtain ⟨F1, dF1⟩ : ∃ x, x = e &&& f := ⟨_, rfl⟩
              obtain ⟨ne, dne⟩ : ∃ x, x = 4294967295 - e := ⟨_, rfl⟩
              obtain ⟨F2, dF2⟩ : ∃ x, x = ne &&& g1 := ⟨_, rfl⟩
              obtain ⟨F3, dF3⟩ : ∃ x, x = Sha.ch e f g1 := ⟨_, rfl⟩
              obtain ⟨B1, dB1⟩ : ∃ x, x = (h + A2) % 4294967296 := ⟨_, rfl⟩
              obtain ⟨B2, dB2⟩ : ∃ x, x = (B1 + F3) % 4294967296 := ⟨_, rfl⟩
              obtain ⟨B3, dB3⟩ : ∃ x, x = (B2 + K) % 4294967296 := ⟨_, rfl⟩
              obtain ⟨T1, dT1⟩ : ∃ x, x = (B3 + W) % 4294967296 := ⟨_, rfl⟩
              have lA1 : A1 < 4294967296 := by rw [dA1]; exact Sha.xor32 (Sha.rotr_lt _ _ le) (Sha.rotr_lt _ _ le)
              have z1 : bits .xor .u32 (Sha.rotr e 6 : Int) (Sha.rotr e 11 : Int) = (A1 : Int) := by rw [dA1]; exact u32_xor_nat _ _ (Sha.rotr_lt _ _ le) (Sha.rotr_lt _ _ le)
              have z2 : bits .xor .u32 (A1 : Int) (Sha.rotr e 25 : Int) = (A2 : Int) := by rw [dA2, Sha.S1, ← dA1]; exact u32_xor_nat _ _ lA1 (Sha.rotr_lt _ _ le)
              have z3 : bits .and .u32 (e : Int) (f : Int) = (F1 : Int) := by rw [dF1]; exact u32_and_nat _ _ le lf
              have z4 : bits .xor .u32 IntKind.u32.max (e : Int) = (ne : Int) := by rw [dne]; exact not32 e le
              have hsg : IntKind.u32.signed = false := rfl
              have lne : ne < 4294967296 := by omega
              have z5 : bits .and .u32 (ne : Int) (g1 : Int) = (F2 : Int) := by rw [dF2]; exact u32_and_nat _ _ lne lg
              have z6 : bits .xor .u32 (F1 : Int) (F2 : Int) = (F3 : Int) := by rw [dF3, Sha.ch, ← dF1, ← dne, ← dF2]; exact u32_xor_nat _ _ (by rw [dF1]; exact Sha.and32 _ le) (by rw [dF2]; exact Sha.and32 _ lne)
              have y1 : ((h : Int) + (A2 : Int)) % 4294967296 = (B1 : Int) := by rw [dB1]; omega
              have y2 : ((B1 : Int) + (F3 : Int)) % 4294967296 = (B2 : Int) := by rw [dB2]; omega
              have y3 : ((B2 : Int) + (K : Int)) % 4294967296 = (B3 : Int) := by rw [dB3]; omega
              have y4 : ((B3 : Int) + (W : Int)) % 4294967296 = (T1 : Int) := by rw [dT1]; omega
              have hT1 : T1 = Sha.t1 ⟨a, b, cc, d, e, f, g1, h⟩ K W := by rw [dT1, dB3, dB2, dB1, dA2, dF3]; rfl
              have lT1 : T1 < 4294967296 := by omega
              obtain ⟨C1, dC1⟩ : ∃ x, x = Sha.rotr a 2 ^^^ Sha.rotr a 13 := ⟨_, rfl⟩
              obtain ⟨C2, dC2⟩ : ∃ x, x = Sha.S0 a := ⟨_, rfl⟩
              obtain ⟨M1, dM1⟩ : ∃ x, x = a &&& b := ⟨_, rfl⟩
              obtain ⟨M2, dM2⟩ : ∃ x, x = a &&& cc := ⟨_, rfl⟩
              obtain ⟨M3, dM3⟩ : ∃ x, x = M1 ^^^ M2 := ⟨_, rfl⟩
              obtain ⟨M4, dM4⟩ : ∃ x, x = b &&& cc := ⟨_, rfl⟩
              obtain ⟨M5, dM5⟩ : ∃ x, x = Sha.maj a b cc := ⟨_, rfl⟩
              obtain ⟨T2, dT2⟩ : ∃ x, x = (C2 + M5) % 4294967296 := ⟨_, rfl⟩
              have lC1 : C1 < 4294967296 := by rw [dC1]; exact Sha.xor32 (Sha.rotr_lt _ _ la) (Sha.rotr_lt _ _ la)
              have lM1 : M1 < 4294967296 := by rw [dM1]; exact Sha.and32 _ la
              have lM2 : M2 < 4294967296 := by rw [dM2]; exact Sha.and32 _ la
              have lM3 : M3 < 4294967296 := by rw [dM3]; exact Sha.xor32 lM1 lM2
              have lM4 : M4 < 4294967296 := by rw [dM4]; exact Sha.and32 _ lb
              have v1 : bits .xor .u32 (Sha.rotr a 2 : Int) (Sha.rotr a 13 : Int) = (C1 : Int) := by rw [dC1]; exact u32_xor_nat _ _ (Sha.rotr_lt _ _ la) (Sha.rotr_lt _ _ la)
              have v2 : bits .xor .u32 (C1 : Int) (Sha.rotr a 22 : Int) = (C2 : Int) := by rw [dC2, Sha.S0, ← dC1]; exact u32_xor_nat _ _ lC1 (Sha.rotr_lt _ _ la)
              have v3 : bits .and .u32 (a : Int) (b : Int) = (M1 : Int) := by rw [dM1]; exact u32_and_nat _ _ la lb
              have v4 : bits .and .u32 (a : Int) (cc : Int) = (M2 : Int) := by rw [dM2]; exact u32_and_nat _ _ la lc
              have v5 : bits .xor .u32 (M1 : Int) (M2 : Int) = (M3 : Int) := by rw [dM3]; exact u32_xor_nat _ _ lM1 lM2
              have v6 : bits .and .u32 (b : Int) (cc : Int) = (M4 : Int) := by rw [dM4]; exact u32_and_nat _ _ lb lc
              have v7 : bits .xor .u32 (M3 : Int) (M4 : Int) = (M5 : Int) := by rw [dM5, Sha.maj, ← dM1, ← dM2, ← dM3, ← dM4]; exact u32_xor_nat _ _ lM3 lM4
              have v8 : ((C2 : Int) + (M5 : Int)) % 4294967296 = (T2 : Int) := by rw [dT2]; omega
              have hT2 : T2 = Sha.t2 ⟨a, b, cc, d, e, f, g1, h⟩ := by rw [dT2, dC2, dM5]; rfl
              obtain ⟨N1, dN1⟩ : ∃ x, x = (T1 + T2) % 4294967296 := ⟨_, rfl⟩
              obtain ⟨N5, dN5⟩ : ∃ x, x = (d + T1) % 4294967296 := ⟨_, rfl⟩
              have n1 : ((T1 : Int) + (T2 : Int)) % 4294967296 = (N1 : Int) := by rw [dN1]; omega
              have n5 : ((d : Int) + (T1 : Int)) % 4294967296 = (N5 : Int) := by rw [dN5]; omega
              have hnew : Sha.comp ws r (k + 1) = ⟨N1, a, b, cc, N5, e, f, g1⟩ := by rw [HST.out, Sha.rnd, ← hT1, ← hT2, dN1, dN5]
              have HN := Lib.hid hnew
              clear dA1 dA2 dF1 dne dF2 dF3 dB1 dB2 dB3 dT1 hT1 dC1 dC2 dM1 dM2 dM3 dM4 dM5 dT2 hT2 dN1 dN5 hnew
              go_wp2_with fail
              go_quiet (fail)
              go_wp2_with fail
              go_quiet (first | (go_at_call 18; with_reducible exact quietly (rotl_6 e le)) | (go_at_call 18; with_reducible exact quietly (rotl_11 e le)) | (go_at_call 18; with_reducible exact quietly (rotl_25 e le)))
              clear z1 z2 z3 z4 z5 z6 y1 y2 y3
              go_wp2_with fail
              go_quiet (first | (go_at_call 18; with_reducible exact quietly (rotl_2 a la)) | (go_at_call 18; with_reducible exact quietly (rotl_13 a la)) | (go_at_call 18; with_reducible exact quietly (rotl_22 a la)))
              clear v1 v2 v3 v4 v5 v6 v7
              go_wp2_with (refine wpList_store_row rfl 43 (.tmp 7) (.tmp 186) rfl wo.heap.size (u32L [N1, a, b, cc, N5, e, f, g1]).toArray rfl ?hy 43 _ (HS.out.drewN _) size43 rfl (all_oneCell_toArray (u32L_one _)) ?_)
              case hy =>
                change Value.agg _ = Value.agg _
                simp [u32L]
              go_roundw
              case rel =>
                refine ⟨k + 1, by omega, by go_num, ?_, ?_, ?_⟩
                · exact (hW.drewN _).farRow (Nat.ne_of_lt hgw) _
                · rw [HN.out]
                  exact (HS.out.drewN _).row _
                · exact below_setRow (belowN hB _) hgb _
              case measure => simp [intOf]; omega
            · have hk64 : k = 64 := by omega
              have hok := Sha.comp_ok ws r HR.out k
              rw [hk64] at hS
              have hd : decide ((k : Int) < 64) = false := by simp; omega
              clear hk64
              have hblk := HBK.out
              generalize Sha.comp ws r 64 = c at *
              have HBK2 := Lib.hid hblk
              clear hblk
              go_wp2_with fail
              clear hd
              have hg0 := HG.out.below hB HG.out.lt
              have hgS : g ≠ wo.heap.size := by have := hS.lt; omega
              obtain ⟨wq, rfl⟩ : ∃ wq : World, wq = wr := ⟨_, rfl⟩
              go_loopw [188] (fun i wr => ∃ k : Nat, k ≤ 8 ∧ i = .int .i64 k ∧ At wr g 45 (hashA (mix r c k) part fill total) ∧ At wr wo.heap.size 43 (u32L (words c)).toArray ∧ w.grownBy wr (some g)) (fun i _ => 8 - (intOf i).toNat)
              case atStart => exact ⟨0, by omega, rfl, hg0, hS, only_below hB _⟩
              case round =>
                obtain ⟨k, hk, rfl, hG, hS, hB⟩ := hrel
                by_cases hlt : k < 8
                · have ch : wr.cell? ⟨g, k, none⟩ = some (.int .u32 ((words r).getD k 0 : Nat)) := by
                    rw [hG.cell, hash_word (mix_len r c k hk) k hlt, mix_get r c k hlt]
                  have fh := hG.free k
                  have cs : wr.cell? ⟨wo.heap.size, k, none⟩ = some (.int .u32 ((words c).getD k 0 : Nat)) := by
                    rw [hS.cell, List.getElem?_toArray]; exact u32L_get _ _ hlt
                  have hset := mix_set r c k hlt
                  have HST := Lib.hid hset
                  clear hset
                  generalize (words r).getD k 0 = x at *
                  generalize (words c).getD k 0 = y at *
                  obtain ⟨z, dz⟩ : ∃ z, z = (x + y) % 4294967296 := ⟨_, rfl⟩
                  have q1 : ((x : Int) + (y : Int)) % 4294967296 = (z : Int) := by rw [dz]; omega
                  have HZ := Lib.hid dz
                  clear dz
                  go_wp2_with fail
                  go_region
                  go_wp2_with fail
                  go_roundw
                  case rel =>
                    refine ⟨k + 1, by omega, by go_num, ?_, ?_, ?_⟩
                    · have := hG.put k (.int .u32 (z : Int))
                      rw [hash_set_word (mix_len r c k hk) k z hlt, HZ.out, HST.out] at this
                      rw [HZ.out]
                      exact this.drew
                    · exact (hS.far (p := ⟨g, k, none⟩) (Ne.symm hgS) _).drew
                    · exact only_drew (only_set hB (.inl rfl) _)
                  case measure => simp [intOf]; omega
                · have hk8 : k = 8 := by omega
                  rw [hk8, mix_full] at hG
                  have hd : decide ((k : Int) < 8) = false := by simp; omega
                  clear hk8
                  have cf : wr.cell? ⟨g, 72, none⟩ = some (.int .i64 (fill : Int)) := (hG.cell 72).trans (hash_fill (words_len _) hp)
                  have ff := hG.free 72
                  go_wp2_with fail
                  go_end0
                  refine ⟨rfl, ?_, ?_⟩
                  · have := hG.put 72 (.int .i64 ((0 : Nat) : Int))
                    rw [hash_set_fill (words_len _) hp 0] at this
                    rw [HBK.out]
                    exact this
                  · exact only_set hB (.inl rfl) _
end Go.Proofs.YtcnijcmddnacaaaDoor
