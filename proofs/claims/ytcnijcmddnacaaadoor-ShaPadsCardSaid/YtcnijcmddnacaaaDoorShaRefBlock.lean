/- What the reference's Block makes of eight words and a block's bytes: a new row of eight words. Conditions: the rows' lengths and ranges. -/
import Derived.Test.YtcnijcmddnacaaaDoorShaBlock
import Derived.OwnWalk
import Derived.Deep.AppendLies
import Derived.Deep.RegionHeld3
import Derived.Deep.DrawnRows
import Derived.Deep.QuietTactic
import Derived.BigQuiet
namespace Go.Proofs.YtcnijcmddnacaaaDoor
open Go.RowKit
set_option linter.unusedVariables false
theorem info38 : (Tryd.prog.info? 38).map (fun i => (i.zero, i.size, i.bytes)) = some (some (.int .u32 0), 1, 4) := by kernel_rfl
theorem own_cell {w : World} {B g n cap : Nat} {l : List Nat} (h : w.ownsRow B 38 1 (.slice (some ⟨g, 0, none⟩) n cap) n (u32L l)) (i : Nat) (hi : i < l.length) : w.cell? ⟨g, i, none⟩ = some (.int .u32 (l.getD i 0 : Nat)) := by
  have := h.cells rfl i _ (u32L_get l i hi)
  rw [show (⟨g, 0, none⟩ : Addr).add i = ⟨g, i, none⟩ from by unfold Addr.add; split <;> simp_all] at this
  exact this
theorem own_block {w : World} {B n : Nat} {v : Value} {xs : List Value} (h : w.ownsRow B 38 1 v n xs) {g : Nat} (hg : g < B) : v.ownBlock ≠ some g := fun e => by
  have := (h.lt g e).1; omega
theorem quietly0 {P : Program} {f : FuncId} {args : Array Value} {w : World} {n : Nat} {v : Value} (c : ∀ W : World, Calls P f args W fun e w' => e = .returned v ∧ W = w') :
    Calls P f args (w.drewN n) fun e w'' => e = .returned v ∧ ∃ m, w'' = w.drewN m :=
  (c _).mono fun _ _ ⟨he, hw⟩ => ⟨he, n, hw.symm⟩
attribute [local go_sem ↓] Go.wp_at_zero Go.wp_at_succ
theorem u32L_snoc (l : List Nat) (x : Nat) : u32L (l ++ [x]) = u32L l ++ [.int .u32 (x : Int)] := by simp [u32L]
theorem own_at {w : World} {B g n cap : Nat} {xs : List Value} (h : w.ownsRow B 38 1 (.slice (some ⟨g, 0, none⟩) n cap) n xs) : ∃ rest : List Value, At w g 38 (xs ++ rest).toArray ∧ B ≤ g := by
  obtain ⟨hl, h⟩ := h
  rcases h with ⟨h, _⟩ | ⟨g', cap', cur, hv, hb, hg, hn, _, hs, ht⟩
  · simp at h
  · simp only [Value.slice.injEq, Option.some.injEq, Addr.mk.injEq] at hv
    obtain ⟨⟨rfl, _, _⟩, _, _⟩ := hv
    refine ⟨cur.toList.drop (n * 1), ?_, hb⟩
    rw [← ht, List.take_append_drop]
    exact hg
theorem row_get (l : List Nat) (rest : List Value) (i : Nat) (h : i < l.length) : (u32L l ++ rest).toArray[i]? = some (.int .u32 (l.getD i 0 : Nat)) := by
  rw [List.getElem?_toArray, List.getElem?_append_left (by rw [u32L_len]; exact h)]
  exact u32L_get l i h
theorem row_set (l : List Nat) (rest : List Value) (i v : Nat) (h : i < l.length) : (u32L l ++ rest).toArray.setIfInBounds i (.int .u32 (v : Int)) = (u32L (l.set i v) ++ rest).toArray := by
  apply Array.toList_inj.1
  rw [Array.toList_setIfInBounds]
  show (u32L l ++ rest).set i _ = _
  rw [List.set_append_left _ _ (by rw [u32L_len]; exact h), u32L_set]
theorem addR_comm (r c : Sha.R) : Sha.addR c r = Sha.addR r c := by
  simp only [Sha.addR, Nat.add_comm]
/-- A row of words that lies somewhere. -/
def WordsAt (w : World) (g : Nat) (l : List Nat) : Prop := w.rangeAt g 0 (u32L l)
theorem WordsAt.cell {w : World} {g : Nat} {l : List Nat} (h : WordsAt w g l) (i : Nat) (hi : i < l.length) : w.cell? ⟨g, i, none⟩ = some (.int .u32 (l.getD i 0 : Nat)) := by
  have := h i _ (u32L_get l i hi)
  rwa [Nat.zero_add] at this
theorem WordsAt.below {w w' : World} {B g : Nat} {l : List Nat} (h : WordsAt w g l) (hb : Below B w w') (hg : g < B) : WordsAt w' g l := fun i v hv => (hb.cell (p := ⟨g, 0 + i, none⟩) hg).trans (h i v hv)
theorem WordsAt.grown {w w' : World} {row : Option Nat} {g : Nat} {l : List Nat} (h : WordsAt w g l) (hb : w.grownBy w' row) (hg : g < w.heap.size) (hne : some g ≠ row) : WordsAt w' g l := fun i v hv => (hb.cell_far ⟨g, 0 + i, none⟩ hg hne).trans (h i v hv)
theorem WordsAt.news {w : World} {g : Nat} {l : List Nat} (h : WordsAt w g l) : ∀ j u, (u32L l)[j]? = some u → w.cell? ((⟨g, 0, none⟩ : Addr).add j) = some u := fun j u hu => by
  have := h j u hu
  rw [show (⟨g, 0, none⟩ : Addr).add j = ⟨g, 0 + j, none⟩ from by unfold Addr.add; split <;> simp_all]
  exact this
theorem WordsAt.of_own {w : World} {B g n cap : Nat} {l : List Nat} (h : w.ownsRow B 38 1 (.slice (some ⟨g, 0, none⟩) n cap) n (u32L l)) : WordsAt w g l := fun i v hv => by
  have hi : i < l.length := by have := (List.getElem?_eq_some_iff.1 hv).1; rw [u32L_len] at this; exact this
  rw [Nat.zero_add, own_cell h i hi, ← hv, u32L_get l i hi]
theorem WordsAt.of_at {w : World} {g : Nat} {l : List Nat} {rest : List Value} (h : At w g 38 (u32L l ++ rest).toArray) : WordsAt w g l := fun i v hv => by
  have hi : i < l.length := by have := (List.getElem?_eq_some_iff.1 hv).1; rw [u32L_len] at this; exact this
  rw [Nat.zero_add, h.cell, row_get l rest i hi, ← hv, u32L_get l i hi]
theorem below_at {w w' : World} {B b o : Nat} {v : Value} (h : w.cell? ⟨b, o, none⟩ = some v) (hb : Below B w w') (hg : b < B) : w'.cell? ⟨b, o, none⟩ = some v := (hb.cell (p := ⟨b, o, none⟩) hg).trans h
theorem below_row {B : Nat} {a b c : World} {v : Value} {n : Nat} {xs : List Value} (h : Below B a b) (ho : b.ownsRow B 38 1 v n xs) (k : b.grownBy c v.ownBlock) (hB : B ≤ b.heap.size) : Below B a c :=
  h.grown k hB (fun r e => (ho.lt r e).1)

set_option maxRecDepth 100000 in
set_option maxHeartbeats 2000000 in
theorem refblock_any (gh ch gp o cp gk ck : Nat) (r : Sha.R) (part : List Nat) (w : World) (hh : WordsAt w gh (words r)) (hp : ∀ i, i < 64 → w.cell? ⟨gp, o + i, none⟩ = some (.int .u8 (part.getD i 0 : Nat))) (hk : WordsAt w gk Sha.KS)
    (hgh : gh < w.heap.size) (hgp : gp < w.heap.size) (hgk : gk < w.heap.size) (hr : r.ok) (hb : Sha.bytes part) :
    Calls Tryd.prog 14 #[.slice (some ⟨gh, 0, none⟩) 8 ch, .slice (some ⟨gp, o, none⟩) 64 cp, .slice (some ⟨gk, 0, none⟩) 64 ck] w fun e w' => ∃ g' c', e = .returned (.slice (some ⟨g', 0, none⟩) 8 c') ∧
      WordsAt w' g' (words (Sha.blockR r part)) ∧ g' < w'.heap.size ∧ Below w.heap.size w w' := by
  obtain ⟨i0, hi0, hz0, hz1, hz2⟩ := info_parts info38
  have HH := Lib.hid hh
  have HP := Lib.hid hp
  have HK := Lib.hid hk
  have HB := Lib.hid hb
  have HR := Lib.hid hr
  have HI0 := Lib.hid hi0
  have HZ0 := Lib.hid hz0
  have HZ1 := Lib.hid hz1
  have HZ2 := Lib.hid hz2
  clear hh hp hk hb hr hi0 hz0 hz1 hz2
  go_enter Tryd.func14, Tryd.ntmps14
  go_wp2_with fail
  go_loopw [7, 8] (fun v i wr => ∃ k : Nat, k ≤ 16 ∧ i = .int .i64 k ∧ wr.ownsRow w.heap.size 38 1 v k (u32L (Sha.sched part k)) ∧ Below w.heap.size w wr) (fun _ i _ => 16 - (intOf i).toNat)
  case atStart => exact ⟨0, by omega, rfl, World.ownsRow_nil _ _ _ _, Below.refl _ _⟩
  case round =>
    obtain ⟨k, hk, rfl, how, hbl⟩ := hrel
    by_cases hlt : k < 16
    · have c0 := below_at (HP.out (4 * k) (by omega)) hbl hgp
      have c1 := below_at (HP.out (4 * k + 1) (by omega)) hbl hgp
      have c2 := below_at (HP.out (4 * k + 2) (by omega)) hbl hgp
      have c3 := below_at (HP.out (4 * k + 3) (by omega)) hbl hgp
      have l0 := Sha.bytes_getD HB.out (4 * k)
      have l1 := Sha.bytes_getD HB.out (4 * k + 1)
      have l2 := Sha.bytes_getD HB.out (4 * k + 2)
      have l3 := Sha.bytes_getD HB.out (4 * k + 3)
      have hbe : Sha.be part k = ((part.getD (4 * k) 0 * 256 + part.getD (4 * k + 1) 0) * 256 + part.getD (4 * k + 2) 0) * 256 + part.getD (4 * k + 3) 0 := rfl
      have hst : Sha.sched part (k + 1) = Sha.sched part k ++ [Sha.be part k] := by
        rw [Sha.sched, Sha.wStep, if_pos hlt]
      have HST := Lib.hid hst
      have HBE := Lib.hid hbe
      have HOW := Lib.hid how
      clear hst hbe how
      generalize part.getD (4 * k) 0 = b0 at *
      generalize part.getD (4 * k + 1) 0 = b1 at *
      generalize part.getD (4 * k + 2) 0 = b2 at *
      generalize part.getD (4 * k + 3) 0 = b3 at *
      have jk : (k : Int) < 16 := by omega
      have hml : k + 1 ≤ maxLen := by have : 1000 ≤ maxLen := by decide
                                      omega
      have hby : (k + 1) * 4 ≤ 140737488355328 := by omega
      have hbs := hbl.size
      have n0 : (0 : Int) ≤ 4 * (k : Int) := by omega
      have n1 : (0 : Int) ≤ 4 * (k : Int) + 1 := by omega
      have n2 : (0 : Int) ≤ 4 * (k : Int) + 2 := by omega
      have n3 : (0 : Int) ≤ 4 * (k : Int) + 3 := by omega
      have m0 : 4 * (k : Int) < 64 := by omega
      have m1 : 4 * (k : Int) + 1 < 64 := by omega
      have m2 : 4 * (k : Int) + 2 < 64 := by omega
      have m3 : 4 * (k : Int) + 3 < 64 := by omega
      have t0 : (4 * (k : Int)).toNat = 4 * k := by omega
      have t1 : (4 * (k : Int) + 1).toNat = 4 * k + 1 := by omega
      have t2 : (4 * (k : Int) + 2).toNat = 4 * k + 2 := by omega
      have t3 : (4 * (k : Int) + 3).toNat = 4 * k + 3 := by omega
      have e0 : IntKind.i64.wrap (4 * (k : Int)) = 4 * (k : Int) := IntWalk.i64_in _ (by omega)
      have e1 : IntKind.i64.wrap (4 * (k : Int) + 1) = 4 * (k : Int) + 1 := IntWalk.i64_in _ (by omega)
      have e2 : IntKind.i64.wrap (4 * (k : Int) + 2) = 4 * (k : Int) + 2 := IntWalk.i64_in _ (by omega)
      have e3 : IntKind.i64.wrap (4 * (k : Int) + 3) = 4 * (k : Int) + 3 := IntWalk.i64_in _ (by omega)
      have wb0 : IntKind.u32.wrap (b0 : Int) = (b0 : Int) := by rw [IntKind.wrap_u32']; omega
      have wb1 : IntKind.u32.wrap (b1 : Int) = (b1 : Int) := by rw [IntKind.wrap_u32']; omega
      have wb2 : IntKind.u32.wrap (b2 : Int) = (b2 : Int) := by rw [IntKind.wrap_u32']; omega
      have wb3 : IntKind.u32.wrap (b3 : Int) = (b3 : Int) := by rw [IntKind.wrap_u32']; omega
      obtain ⟨y1, d1⟩ : ∃ y, y = b0 * 256 := ⟨_, rfl⟩
      obtain ⟨y2, d2⟩ : ∃ y, y = y1 + b1 := ⟨_, rfl⟩
      obtain ⟨y3, d3⟩ : ∃ y, y = y2 * 256 := ⟨_, rfl⟩
      obtain ⟨y4, d4⟩ : ∃ y, y = y3 + b2 := ⟨_, rfl⟩
      obtain ⟨y5, d5⟩ : ∃ y, y = y4 * 256 := ⟨_, rfl⟩
      obtain ⟨x, d6⟩ : ∃ y, y = y5 + b3 := ⟨_, rfl⟩
      have r1 : IntKind.u32.wrap ((b0 : Int) * 256) = (y1 : Int) := by rw [IntKind.wrap_u32']; omega
      have r2 : IntKind.u32.wrap ((y1 : Int) + (b1 : Int)) = (y2 : Int) := by rw [IntKind.wrap_u32']; omega
      have r3 : IntKind.u32.wrap ((y2 : Int) * 256) = (y3 : Int) := by rw [IntKind.wrap_u32']; omega
      have r4 : IntKind.u32.wrap ((y3 : Int) + (b2 : Int)) = (y4 : Int) := by rw [IntKind.wrap_u32']; omega
      have r5 : IntKind.u32.wrap ((y4 : Int) * 256) = (y5 : Int) := by rw [IntKind.wrap_u32']; omega
      have r6 : IntKind.u32.wrap ((y5 : Int) + (b3 : Int)) = (x : Int) := by rw [IntKind.wrap_u32']; omega
      have HX := Lib.hid (show x = Sha.be part k by rw [HBE.out]; omega)
      clear d1 d2 d3 d4 d5 d6
      go_wp2_with fail
      go_region_held3 (fun w' => w'.cell? ⟨gp, o + 4 * k, none⟩ = some (.int .u8 (b0 : Nat)) ∧ w'.cell? ⟨gp, o + (4 * k + 1), none⟩ = some (.int .u8 (b1 : Nat)) ∧ w'.cell? ⟨gp, o + (4 * k + 2), none⟩ = some (.int .u8 (b2 : Nat)) ∧ w'.cell? ⟨gp, o + (4 * k + 3), none⟩ = some (.int .u8 (b3 : Nat)))
        (first
          | go_keep
          | (go_split_ands
             refine ⟨?_, ?_, ?_, ?_⟩ <;> (rw [hgrow.cell_far _ (by simp; omega) (Ne.symm (own_block HOW.out hgp))]; assumption)))
        ((refine step_append_lies _ (by rfl) _ _ _ (by rfl) w.heap.size 38 i0 _ 1 4 Tryd.underlying39 HI0.out HZ0.out HZ1.out HZ2.out rfl (by omega) u7 k _ (by rfl) ((HOW.out.alloc _).drew)
            ⟨wr.heap.size, 0, none⟩ 1 1 [.int .u32 (x : Int)] (by rfl) (by rfl) (World.news_of_block (cs := #[.int .u32 (x : Int)]) (t := 38) (fr := (0, 0)) (heap_alloc_new wr _)) (by simp [Value.oneCell'])
            (by omega) hml hby (by simp; omega) (wr.heap.size + 1) (by simp) ?_; intro gg cap w1 hown1 hgrow hat hltt))
      go_wp2_with fail
      have hX := HX.out
      go_roundw
      case rel =>
        refine ⟨k + 1, by omega, by go_num, ?_, ?_⟩
        · rw [hX] at hown1
          rw [HST.out, u32L_snoc]
          exact hown1
        · exact below_row (B := w.heap.size) ((hbl.alloc hbs _).drew) ((HOW.out.alloc _).drew) hgrow (by simp; omega)
      case measure => simp [intOf]; omega
    · have hk16 : k = 16 := by omega
      rw [hk16] at how
      have hd : decide ((k : Int) < 16) = false := by simp; omega
      clear hk16
      obtain ⟨g1, cap1, hu7, hB1, hl1⟩ := how.form (by omega)
      rw [hu7] at how ⊢
      have HOW := Lib.hid how
      clear how hu7
      go_wp2_with fail
      clear hd
      go_loopw [7, 9] (fun v i wr => ∃ k g cap : Nat, 16 ≤ k ∧ k ≤ 64 ∧ i = .int .i64 k ∧ v = .slice (some ⟨g, 0, none⟩) k cap ∧ wr.ownsRow w.heap.size 38 1 v k (u32L (Sha.sched part k)) ∧ Below w.heap.size w wr) (fun _ i _ => 64 - (intOf i).toNat)
      case atStart => exact ⟨16, g1, cap1, by omega, by omega, rfl, rfl, HOW.out, hbl⟩
      case round =>
        obtain ⟨k, g, cap, hk0, hk, rfl, rfl, how, hbl⟩ := hrel

        by_cases hlt : k < 64
        · have hsl := Sha.sched_len part k
          have cc : ∀ i, i < k → wr.cell? ⟨g, i, none⟩ = some (.int .u32 ((Sha.sched part k).getD i 0 : Nat)) := fun i hi => own_cell how i (by omega)
          have c15 := cc (k - 15) (by omega)
          have c2 := cc (k - 2) (by omega)
          have c16 := cc (k - 16) (by omega)
          have c7 := cc (k - 7) (by omega)
          have l15 := Sha.sched_get_lt HB.out k (k - 15)
          have l2 := Sha.sched_get_lt HB.out k (k - 2)
          have l16 := Sha.sched_get_lt HB.out k (k - 16)
          have l7 := Sha.sched_get_lt HB.out k (k - 7)
          clear cc
          have hst : Sha.sched part (k + 1) = Sha.sched part k ++ [Sha.wStep part (Sha.sched part k) k] := rfl
          have hws : Sha.wStep part (Sha.sched part k) k = ((Sha.sched part k).getD (k - 16) 0 + (Sha.sched part k).getD (k - 7) 0 + Sha.s0 ((Sha.sched part k).getD (k - 15) 0) + Sha.s1 ((Sha.sched part k).getD (k - 2) 0)) % 4294967296 := by
            rw [Sha.wStep, if_neg (by omega)]
          have HST := Lib.hid hst
          have HOW := Lib.hid how
          clear hst hsl how
          generalize (Sha.sched part k).getD (k - 15) 0 = x at *
          generalize (Sha.sched part k).getD (k - 2) 0 = y at *
          generalize (Sha.sched part k).getD (k - 16) 0 = v at *
          generalize (Sha.sched part k).getD (k - 7) 0 = u at *
          have HWS := Lib.hid hws
          clear hws
          have i15 : IntKind.i64.wrap ((k : Int) - 15) = ((k - 15 : Nat) : Int) := by rw [IntWalk.i64_in _ (by omega)]; omega
          have i2 : IntKind.i64.wrap ((k : Int) - 2) = ((k - 2 : Nat) : Int) := by rw [IntWalk.i64_in _ (by omega)]; omega
          have i16 : IntKind.i64.wrap ((k : Int) - 16) = ((k - 16 : Nat) : Int) := by rw [IntWalk.i64_in _ (by omega)]; omega
          have i7 : IntKind.i64.wrap ((k : Int) - 7) = ((k - 7 : Nat) : Int) := by rw [IntWalk.i64_in _ (by omega)]; omega
          have j15 : ((k - 15 : Nat) : Int) < (k : Int) := by omega
          have j2 : ((k - 2 : Nat) : Int) < (k : Int) := by omega
          have j16 : ((k - 16 : Nat) : Int) < (k : Int) := by omega
          have j7 : ((k - 7 : Nat) : Int) < (k : Int) := by omega
          obtain ⟨x1, hx1⟩ : ∃ x1, x1 = Sha.rotr x 7 ^^^ Sha.rotr x 18 := ⟨_, rfl⟩
          obtain ⟨y1, hy1⟩ : ∃ y1, y1 = Sha.rotr y 17 ^^^ Sha.rotr y 19 := ⟨_, rfl⟩
          have lx1 : x1 < 4294967296 := by rw [hx1]; exact Sha.xor32 (Sha.rotr_lt _ _ l15) (Sha.rotr_lt _ _ l15)
          have ly1 : y1 < 4294967296 := by rw [hy1]; exact Sha.xor32 (Sha.rotr_lt _ _ l2) (Sha.rotr_lt _ _ l2)
          obtain ⟨x2, hx2⟩ : ∃ x2, x2 = Sha.s0 x := ⟨_, rfl⟩
          obtain ⟨y2, hy2⟩ : ∃ y2, y2 = Sha.s1 y := ⟨_, rfl⟩
          have q2 : bits .xor .u32 (Sha.rotr x 7 : Int) (Sha.rotr x 18 : Int) = (x1 : Int) := by rw [hx1]; exact u32_xor_nat _ _ (Sha.rotr_lt _ _ l15) (Sha.rotr_lt _ _ l15)
          have q3 : bits .xor .u32 (x1 : Int) ((x : Int) / 8) = (x2 : Int) := by
            have := u32_xor_nat x1 (x / 8) lx1 (by omega)
            rw [hx2, Sha.s0, ← hx1, ← this]; congr 1
          have q4 : bits .xor .u32 (Sha.rotr y 17 : Int) (Sha.rotr y 19 : Int) = (y1 : Int) := by rw [hy1]; exact u32_xor_nat _ _ (Sha.rotr_lt _ _ l2) (Sha.rotr_lt _ _ l2)
          have q5 : bits .xor .u32 (y1 : Int) ((y : Int) / 1024) = (y2 : Int) := by
            have := u32_xor_nat y1 (y / 1024) ly1 (by omega)
            rw [hy2, Sha.s1, ← hy1, ← this]; congr 1
          obtain ⟨a1, da1⟩ : ∃ z, z = (y2 + u) % 4294967296 := ⟨_, rfl⟩
          obtain ⟨a2, da2⟩ : ∃ z, z = (a1 + x2) % 4294967296 := ⟨_, rfl⟩
          obtain ⟨a3, da3⟩ : ∃ z, z = (a2 + v) % 4294967296 := ⟨_, rfl⟩
          have w1' : IntKind.u32.wrap ((y2 : Int) + (u : Int)) = (a1 : Int) := by rw [IntKind.wrap_u32', da1]; omega
          have w2' : IntKind.u32.wrap ((a1 : Int) + (x2 : Int)) = (a2 : Int) := by rw [IntKind.wrap_u32', da2]; omega
          have w3' : IntKind.u32.wrap ((a2 : Int) + (v : Int)) = (a3 : Int) := by rw [IntKind.wrap_u32', da3]; omega
          have HF := Lib.hid (show a3 = Sha.wStep part (Sha.sched part k) k by rw [HWS.out, da3, da2, da1, hx2, hy2]; omega)
          clear da1 da2 da3 hx1 hy1 hx2 hy2
          go_wp2_with fail
          go_quiet (first | (go_at_call 16; with_reducible exact quietly0 (rotr_7 x l15)) | (go_at_call 16; with_reducible exact quietly0 (rotr_18 x l15)))
          clear q2
          obtain ⟨n1, rfl⟩ : ∃ n1 : Nat, n1 = nq := ⟨_, rfl⟩
          go_wp2_with fail
          go_quiet (first | (go_at_call 16; with_reducible exact quietly (rotr_17 y l2)) | (go_at_call 16; with_reducible exact quietly (rotr_19 y l2)))
          go_wp2_with fail
          clear q3 q4 q5
          obtain ⟨W, hW⟩ : ∃ W, W = (wr.drewN n1).drewN nq := ⟨_, rfl⟩
          rw [← hW]
          have c16 : W.cell? ⟨g, k - 16, none⟩ = some (.int .u32 v) := by rw [hW]; exact c16
          have c7 : W.cell? ⟨g, k - 7, none⟩ = some (.int .u32 u) := by rw [hW]; exact c7
          have how2 : W.ownsRow w.heap.size 38 1 (.slice (some ⟨g, 0, none⟩) k cap) k (u32L (Sha.sched part k)) := by rw [hW]; exact HOW.out
          have HOW2 := Lib.hid how2
          clear how2
          have hbl2 : Below w.heap.size w W := by rw [hW]; exact belowN (belowN hbl _) _
          have hbs := hbl2.size
          have hml : k + 1 ≤ maxLen := by have : 1000 ≤ maxLen := by decide
                                          omega
          have hby : (k + 1) * 4 ≤ 140737488355328 := by omega
          clear hW
          go_region_law ((refine step_append_lies _ (by rfl) _ _ _ (by rfl) w.heap.size 38 i0 _ 1 4 Tryd.underlying39 HI0.out HZ0.out HZ1.out HZ2.out rfl (by omega) (.slice (some ⟨g, 0, none⟩) k cap) k _ (by rfl) ((HOW2.out.alloc _).drew)
                                         ⟨W.heap.size, 0, none⟩ 1 1 [.int .u32 (a3 : Int)] (by rfl) (by rfl) (World.news_of_block (cs := #[.int .u32 (a3 : Int)]) (t := 38) (fr := (0, 0)) (heap_alloc_new W _)) (by simp [Value.oneCell'])
                                         (by omega) hml hby (by simp; omega) (W.heap.size + 1) (by simp) ?_; intro gg cap1 w1 hown1 hgrow hat hltt))
          all_goals
            go_wp2_with fail
            go_roundw
            case rel =>
              refine ⟨k + 1, gg, cap1, by omega, by omega, by go_num, rfl, ?_, ?_⟩
              · rw [HF.out] at hown1
                rw [HST.out, u32L_snoc]
                exact hown1
              · exact below_row (B := w.heap.size) ((hbl2.alloc hbs _).drew) ((HOW2.out.alloc _).drew) hgrow (by simp; omega)
            case measure => simp [intOf]; omega
        · have hk64 : k = 64 := by omega
          rw [hk64] at how
          have hd : decide ((k : Int) < 64) = false := by simp; omega
          have hwlt : ∀ i, (Sha.sched part 64).getD i 0 < 4294967296 := fun i => Sha.sched_get_lt HB.out 64 i
          have hwl := Sha.sched_len part 64
          have hblk : Sha.blockR r part = Sha.addR r (Sha.comp (Sha.sched part 64) r 64) := rfl
          have hgl : g < wr.heap.size := by
            have := WordsAt.of_own how
            exact block_lt_of_cell (this.cell 0 (by rw [hwl]; omega))
          have hW0 := Lib.hid (WordsAt.of_own how)
          have hbs := hbl.size
          have hgw : 0 ≤ g := Nat.zero_le _
          generalize Sha.sched part 64 = ws at *
          rw [hk64]
          clear hk64 how hlt
          have HWL := Lib.hid hwl
          have HWT := Lib.hid hwlt
          have HBK := Lib.hid hblk
          clear hwl hwlt hblk
          have HN0 := Lib.hid (((HH.out.below hbl hgh).below ((Below.refl wr.heap.size wr).alloc (Nat.le_refl _) (.cells #[] 38)) (by omega)).news)
          have hml8 : 0 + 8 ≤ maxLen := by have : 1000 ≤ maxLen := by decide
                                           omega
          have HB2 := Lib.hid hbl
          clear hbl
          go_wp2_with (at_builtin; refine wpList_append_lies _ rfl _ _ _ rfl wr.heap.size 38 i0 _ 1 4 Tryd.underlying39 HI0.out HZ0.out HZ1.out HZ2.out rfl (by omega) (.slice (some ⟨wr.heap.size, 0, none⟩) 0 0) 0 [] rfl (World.ownsRow_made wr #[] 0 (Nat.le_refl _) (Nat.zero_le _) rfl) ⟨gh, 0, none⟩ 8 ch (u32L (words r)) rfl rfl HN0.out (u32L_one _) (by omega) hml8 (by omega) (by simp) (wr.heap.size + 1) (by simp) ?_)
          intro g2 cap2 w2 hown2 hgrow2 hat2 hlt2
          clear hd
          obtain ⟨rest, hS, hg2⟩ := own_at hown2
          have hS : At w2 g2 38 (u32L (words r) ++ rest).toArray := hS
          have b1 : Below wr.heap.size wr w2 := ((Below.refl wr.heap.size wr).alloc (Nat.le_refl _) _).grown hgrow2 (by simp) (fun r e => by simp [Value.ownBlock] at e; omega)
          have hW := Lib.hid (hW0.out.below b1 hgl)
          have b2 : Below w.heap.size w w2 := HB2.out.trans ⟨b1.os, b1.tape, b1.output, b1.size, fun i hi => b1.block i (by omega)⟩
          have HH2 := Lib.hid (HH.out.below b2 hgh)
          have HK2 := Lib.hid (HK.out.below b2 hgk)
          have B2 := Lib.hid b2
          have hgl2 : g < g2 := by omega
          have hgh2 : gh < g2 := by omega
          have hgk2 : gk < g2 := by omega
          have hBg2 : w.heap.size ≤ g2 := by omega
          have hsz : wr.heap.size ≤ w2.heap.size := b1.size
          clear b1 b2 hown2 hgrow2 hat2 HN0 hW0 hg2
          have HS0 := Lib.hid hS
          clear hS
          go_wp2_with fail
          go_loopw [13] (fun i wx => ∃ k : Nat, k ≤ 64 ∧ i = .int .i64 k ∧ At wx g2 38 (u32L (words (Sha.comp ws r k)) ++ rest).toArray ∧ w2.grownBy wx (some g2)) (fun i _ => 64 - (intOf i).toNat)
          case atStart => exact ⟨0, by omega, rfl, HS0.out, World.grownBy.refl _ _⟩
          case round =>
            obtain ⟨k, hk, rfl, hS, hG⟩ := hrel
            by_cases hlt : k < 64
            · have hok := Sha.comp_ok ws r HR.out k
              have hstep : Sha.comp ws r (k + 1) = Sha.rnd (Sha.comp ws r k) (Sha.KS.getD k 0) (ws.getD k 0) := rfl
              have HS := Lib.hid hS
              generalize Sha.comp ws r k = c at *
              have cs : ∀ i, i < 8 → wr.cell? ⟨g2, i, none⟩ = some (.int .u32 ((words c).getD i 0 : Nat)) := fun i hi => by
                rw [hS.cell]; exact row_get _ _ i hi
              have s0 : wr.cell? ⟨g2, 0, none⟩ = some (.int .u32 (c.a : Nat)) := cs 0 (by omega)
              have s1 : wr.cell? ⟨g2, 1, none⟩ = some (.int .u32 (c.b : Nat)) := cs 1 (by omega)
              have s2 : wr.cell? ⟨g2, 2, none⟩ = some (.int .u32 (c.c : Nat)) := cs 2 (by omega)
              have s3 : wr.cell? ⟨g2, 3, none⟩ = some (.int .u32 (c.d : Nat)) := cs 3 (by omega)
              have s4 : wr.cell? ⟨g2, 4, none⟩ = some (.int .u32 (c.e : Nat)) := cs 4 (by omega)
              have s5 : wr.cell? ⟨g2, 5, none⟩ = some (.int .u32 (c.f : Nat)) := cs 5 (by omega)
              have s6 : wr.cell? ⟨g2, 6, none⟩ = some (.int .u32 (c.g : Nat)) := cs 6 (by omega)
              have s7 : wr.cell? ⟨g2, 7, none⟩ = some (.int .u32 (c.h : Nat)) := cs 7 (by omega)
              have ck : wr.cell? ⟨gk, k, none⟩ = some (.int .u32 (Sha.KS.getD k 0 : Nat)) := (HK2.out.grown hG (by omega) (by simp; omega)).cell k hlt
              have cw : wr.cell? ⟨g, k, none⟩ = some (.int .u32 (ws.getD k 0 : Nat)) := (hW.out.grown hG (by omega) (by simp; omega)).cell k (by rw [HWL.out]; exact hlt)
              have lK := Sha.KS_lt k
              have lW := HWT.out k
              have HST := Lib.hid hstep
              clear cs hstep hS
              generalize Sha.KS.getD k 0 = K at *
              generalize ws.getD k 0 = W at *
              obtain ⟨a, b, cc, d, e, f, g1, h⟩ := c
              obtain ⟨la, lb, lc, ld, le, lf, lg, lh⟩ := hok
              dsimp only at s0 s1 s2 s3 s4 s5 s6 s7 la lb lc ld le lf lg lh
              have jk : (k : Int) < 64 := by omega
              obtain ⟨A1, dA1⟩ : ∃ x, x = Sha.rotr e 6 ^^^ Sha.rotr e 11 := ⟨_, rfl⟩
              obtain ⟨A2, dA2⟩ : ∃ x, x = Sha.S1 e := ⟨_, rfl⟩
              obtain ⟨F1, dF1⟩ : ∃ x, x = e &&& f := ⟨_, rfl⟩
              obtain ⟨ne, dne⟩ : ∃ x, x = 4294967295 - e := ⟨_, rfl⟩
              obtain ⟨F2, dF2⟩ : ∃ x, x = ne &&& g1 := ⟨_, rfl⟩
              obtain ⟨F3, dF3⟩ : ∃ x, x = Sha.ch e f g1 := ⟨_, rfl⟩
              obtain ⟨B1, dB1⟩ : ∃ x, x = (h + A2) % 4294967296 := ⟨_, rfl⟩
              obtain ⟨B2, dB2⟩ : ∃ x, x = (B1 + F3) % 4294967296 := ⟨_, rfl⟩
              obtain ⟨B3, dB3⟩ : ∃ x, x = (B2 + K) % 4294967296 := ⟨_, rfl⟩
              obtain ⟨T1, dT1⟩ : ∃ x, x = (B3 + W) % 4294967296 := ⟨_, rfl⟩
              have lA1 : A1 < 4294967296 := by rw [dA1]; exact Sha.xor32 (Sha.rotr_lt _ _ le) (Sha.rotr_lt _ _ le)
              have z1 : bits .xor .u32 (Sha.rotr e 6 : Int) (Sha.rotr e 11 : Int) = (A1 : Int) := by rw [dA1]; exact u32_xor_nat _ _ (Sha.rotr_lt _ _ le) (Sha.rotr_lt _ _ le)
              have z2 : bits .xor .u32 (A1 : Int) (Sha.rotr e 25 : Int) = (A2 : Int) := by rw [dA2, Sha.S1, ← dA1]; exact u32_xor_nat _ _ lA1 (Sha.rotr_lt _ _ le)
              have z3 : bits .and .u32 (e : Int) (f : Int) = (F1 : Int) := by rw [dF1]; exact u32_and_nat _ _ le lf
              have z4 : bits .xor .u32 IntKind.u32.max (e : Int) = (ne : Int) := by rw [dne]; exact not32 e le
              have hsg : IntKind.u32.signed = false := rfl
              have lne : ne < 4294967296 := by omega
              have z5 : bits .and .u32 (ne : Int) (g1 : Int) = (F2 : Int) := by rw [dF2]; exact u32_and_nat _ _ lne lg
              have z6 : bits .xor .u32 (F1 : Int) (F2 : Int) = (F3 : Int) := by rw [dF3, Sha.ch, ← dF1, ← dne, ← dF2]; exact u32_xor_nat _ _ (by rw [dF1]; exact Sha.and32 _ le) (by rw [dF2]; exact Sha.and32 _ lne)
              have y1 : ((h : Int) + (A2 : Int)) % 4294967296 = (B1 : Int) := by rw [dB1]; omega
              have y2 : ((B1 : Int) + (F3 : Int)) % 4294967296 = (B2 : Int) := by rw [dB2]; omega
              have y3 : ((B2 : Int) + (K : Int)) % 4294967296 = (B3 : Int) := by rw [dB3]; omega
              have y4 : ((B3 : Int) + (W : Int)) % 4294967296 = (T1 : Int) := by rw [dT1]; omega
              have hT1 : T1 = Sha.t1 ⟨a, b, cc, d, e, f, g1, h⟩ K W := by rw [dT1, dB3, dB2, dB1, dA2, dF3]; rfl
              have lT1 : T1 < 4294967296 := by omega
              obtain ⟨C1, dC1⟩ : ∃ x, x = Sha.rotr a 2 ^^^ Sha.rotr a 13 := ⟨_, rfl⟩
              obtain ⟨C2, dC2⟩ : ∃ x, x = Sha.S0 a := ⟨_, rfl⟩
              obtain ⟨M1, dM1⟩ : ∃ x, x = a &&& b := ⟨_, rfl⟩
              obtain ⟨M2, dM2⟩ : ∃ x, x = a &&& cc := ⟨_, rfl⟩
              obtain ⟨M3, dM3⟩ : ∃ x, x = M1 ^^^ M2 := ⟨_, rfl⟩
              obtain ⟨M4, dM4⟩ : ∃ x, x = b &&& cc := ⟨_, rfl⟩
              obtain ⟨M5, dM5⟩ : ∃ x, x = Sha.maj a b cc := ⟨_, rfl⟩
              obtain ⟨T2, dT2⟩ : ∃ x, x = (C2 + M5) % 4294967296 := ⟨_, rfl⟩
              have lC1 : C1 < 4294967296 := by rw [dC1]; exact Sha.xor32 (Sha.rotr_lt _ _ la) (Sha.rotr_lt _ _ la)
              have lM1 : M1 < 4294967296 := by rw [dM1]; exact Sha.and32 _ la
              have lM2 : M2 < 4294967296 := by rw [dM2]; exact Sha.and32 _ la
              have lM3 : M3 < 4294967296 := by rw [dM3]; exact Sha.xor32 lM1 lM2
              have lM4 : M4 < 4294967296 := by rw [dM4]; exact Sha.and32 _ lb
              have v1 : bits .xor .u32 (Sha.rotr a 2 : Int) (Sha.rotr a 13 : Int) = (C1 : Int) := by rw [dC1]; exact u32_xor_nat _ _ (Sha.rotr_lt _ _ la) (Sha.rotr_lt _ _ la)
              have v2 : bits .xor .u32 (C1 : Int) (Sha.rotr a 22 : Int) = (C2 : Int) := by rw [dC2, Sha.S0, ← dC1]; exact u32_xor_nat _ _ lC1 (Sha.rotr_lt _ _ la)
              have v3 : bits .and .u32 (a : Int) (b : Int) = (M1 : Int) := by rw [dM1]; exact u32_and_nat _ _ la lb
              have v4 : bits .and .u32 (a : Int) (cc : Int) = (M2 : Int) := by rw [dM2]; exact u32_and_nat _ _ la lc
              have v5 : bits .xor .u32 (M1 : Int) (M2 : Int) = (M3 : Int) := by rw [dM3]; exact u32_xor_nat _ _ lM1 lM2
              have v6 : bits .and .u32 (b : Int) (cc : Int) = (M4 : Int) := by rw [dM4]; exact u32_and_nat _ _ lb lc
              have v7 : bits .xor .u32 (M3 : Int) (M4 : Int) = (M5 : Int) := by rw [dM5, Sha.maj, ← dM1, ← dM2, ← dM3, ← dM4]; exact u32_xor_nat _ _ lM3 lM4
              have v8 : ((C2 : Int) + (M5 : Int)) % 4294967296 = (T2 : Int) := by rw [dT2]; omega
              have hT2 : T2 = Sha.t2 ⟨a, b, cc, d, e, f, g1, h⟩ := by rw [dT2, dC2, dM5]; rfl
              obtain ⟨N1, dN1⟩ : ∃ x, x = (T1 + T2) % 4294967296 := ⟨_, rfl⟩
              obtain ⟨N5, dN5⟩ : ∃ x, x = (d + T1) % 4294967296 := ⟨_, rfl⟩
              have n1 : ((T1 : Int) + (T2 : Int)) % 4294967296 = (N1 : Int) := by rw [dN1]; omega
              have n5 : ((d : Int) + (T1 : Int)) % 4294967296 = (N5 : Int) := by rw [dN5]; omega
              have hnew : Sha.comp ws r (k + 1) = ⟨N1, a, b, cc, N5, e, f, g1⟩ := by rw [HST.out, Sha.rnd, ← hT1, ← hT2, dN1, dN5]
              have HN := Lib.hid hnew
              clear dA1 dA2 dF1 dne dF2 dF3 dB1 dB2 dB3 dT1 hT1 dC1 dC2 dM1 dM2 dM3 dM4 dM5 dT2 hT2 dN1 dN5 hnew
              go_wp2_with fail
              go_quiet (first | (go_at_call 16; with_reducible exact quietly0 (rotr_6 e le)) | (go_at_call 16; with_reducible exact quietly0 (rotr_11 e le)) | (go_at_call 16; with_reducible exact quietly0 (rotr_25 e le)))
              clear z1 z2 z3 z4 z5 z6 y1 y2 y3
              obtain ⟨n1', rfl⟩ : ∃ n1 : Nat, n1 = nq := ⟨_, rfl⟩
              go_wp2_with fail
              go_quiet (first | (go_at_call 16; with_reducible exact quietly (rotr_2 a la)) | (go_at_call 16; with_reducible exact quietly (rotr_13 a la)) | (go_at_call 16; with_reducible exact quietly (rotr_22 a la)))
              clear v1 v2 v3 v4 v5 v6 v7
              obtain ⟨V, hV⟩ : ∃ V, V = (wr.drewN n1').drewN nq := ⟨_, rfl⟩
              rw [← hV]
              have s0 : V.cell? ⟨g2, 0, none⟩ = some (.int .u32 (a : Nat)) := by rw [hV]; exact s0
              have s1 : V.cell? ⟨g2, 1, none⟩ = some (.int .u32 (b : Nat)) := by rw [hV]; exact s1
              have s2 : V.cell? ⟨g2, 2, none⟩ = some (.int .u32 (cc : Nat)) := by rw [hV]; exact s2
              have s3 : V.cell? ⟨g2, 3, none⟩ = some (.int .u32 (d : Nat)) := by rw [hV]; exact s3
              have s4 : V.cell? ⟨g2, 4, none⟩ = some (.int .u32 (e : Nat)) := by rw [hV]; exact s4
              have s5 : V.cell? ⟨g2, 5, none⟩ = some (.int .u32 (f : Nat)) := by rw [hV]; exact s5
              have s6 : V.cell? ⟨g2, 6, none⟩ = some (.int .u32 (g1 : Nat)) := by rw [hV]; exact s6
              have s7 : V.cell? ⟨g2, 7, none⟩ = some (.int .u32 (h : Nat)) := by rw [hV]; exact s7
              have hSV : At V g2 38 (u32L (words ⟨a, b, cc, d, e, f, g1, h⟩) ++ rest).toArray := by rw [hV]; exact HS.out
              have hGV : w2.grownBy V (some g2) := by rw [hV]; exact only_drewN (only_drewN hG _) _
              have HGV := Lib.hid hGV
              have f0 := hSV.free 0
              have f1 := hSV.free 1
              have f2 := hSV.free 2
              have f3 := hSV.free 3
              have f4 := hSV.free 4
              have f5 := hSV.free 5
              have f6 := hSV.free 6
              have f7 := hSV.free 7
              have HSV := Lib.hid hSV
              clear hV hSV hGV hG ck cw
              clear la lb lc ld le lf lg lh
              go_wp2_with fail
              go_roundw
              case rel =>
                refine ⟨k + 1, by omega, by go_num, ?_, ?_⟩
                · rw [HN.out]
                  have := (((((((HSV.out.put 7 (.int .u32 (g1 : Int))).put 6 (.int .u32 (f : Int))).put 5 (.int .u32 (e : Int))).put 4 (.int .u32 (N5 : Int))).put 3 (.int .u32 (cc : Int))).put 2 (.int .u32 (b : Int))).put 1 (.int .u32 (a : Int))).put 0 (.int .u32 (N1 : Int))
                  rw [row_set _ _ _ _ (by simp [words]), row_set _ _ _ _ (by simp [words]), row_set _ _ _ _ (by simp [words]), row_set _ _ _ _ (by simp [words]), row_set _ _ _ _ (by simp [words]), row_set _ _ _ _ (by simp [words]), row_set _ _ _ _ (by simp [words]), row_set _ _ _ _ (by simp [words])] at this
                  exact this
                · exact only_set (g := g2) (p := ⟨g2, 0, none⟩) (only_set (g := g2) (p := ⟨g2, 1, none⟩) (only_set (g := g2) (p := ⟨g2, 2, none⟩) (only_set (g := g2) (p := ⟨g2, 3, none⟩) (only_set (g := g2) (p := ⟨g2, 4, none⟩) (only_set (g := g2) (p := ⟨g2, 5, none⟩) (only_set (g := g2) (p := ⟨g2, 6, none⟩) (only_set (g := g2) (p := ⟨g2, 7, none⟩) HGV.out (.inl rfl) _) (.inl rfl) _) (.inl rfl) _) (.inl rfl) _) (.inl rfl) _) (.inl rfl) _) (.inl rfl) _) (.inl rfl) _
              case measure => simp [intOf]; omega
            · have hk64 : k = 64 := by omega
              have hok := Sha.comp_ok ws r HR.out k
              rw [hk64] at hS
              have hd : decide ((k : Int) < 64) = false := by simp; omega
              clear hk64
              have hblk := HBK.out
              generalize Sha.comp ws r 64 = c at *
              have HBK2 := Lib.hid hblk
              have HH3 := Lib.hid (HH2.out.grown hG (by omega) (by simp; omega))
              have HS3 := Lib.hid hS
              have HG3 := Lib.hid hG
              clear hblk hS hG
              go_wp2_with fail
              clear hd
              obtain ⟨wq, rfl⟩ : ∃ wq : World, wq = wr := ⟨_, rfl⟩
              go_loopw [16] (fun i wx => ∃ k : Nat, k ≤ 8 ∧ i = .int .i64 k ∧ At wx g2 38 (u32L (mix c r k) ++ rest).toArray ∧ wq.grownBy wx (some g2)) (fun i _ => 8 - (intOf i).toNat)
              case atStart => exact ⟨0, by omega, rfl, HS3.out, World.grownBy.refl _ _⟩
              case round =>
                obtain ⟨k, hk, rfl, hS, hG⟩ := hrel
                by_cases hlt : k < 8
                · have cs : wr.cell? ⟨g2, k, none⟩ = some (.int .u32 ((words c).getD k 0 : Nat)) := by
                    rw [hS.cell, row_get _ _ _ (by rw [mix_len _ _ _ hk]; exact hlt), mix_get _ _ _ hlt]
                  have fs := hS.free k
                  have hgq : gh < wq.heap.size := by have := HS3.out.lt; omega
                  have ch : wr.cell? ⟨gh, k, none⟩ = some (.int .u32 ((words r).getD k 0 : Nat)) := (HH3.out.grown hG hgq (by simp; omega)).cell k hlt
                  have HST := Lib.hid (mix_set c r k hlt)
                  have HS := Lib.hid hS
                  have HML := Lib.hid (mix_len c r k hk)
                  clear hS
                  generalize (words c).getD k 0 = x at *
                  generalize (words r).getD k 0 = y at *
                  obtain ⟨z, dz⟩ : ∃ z, z = (x + y) % 4294967296 := ⟨_, rfl⟩
                  have q1 : ((x : Int) + (y : Int)) % 4294967296 = (z : Int) := by rw [dz]; omega
                  have HZ := Lib.hid dz
                  have HG4 := Lib.hid hG
                  clear dz hG
                  go_wp2_with fail
                  go_region
                  go_wp2_with fail
                  go_roundw
                  case rel =>
                    refine ⟨k + 1, by omega, by go_num, ?_, only_drew (only_set HG4.out (.inl rfl) _)⟩
                    have := HS.out.put k (.int .u32 (z : Int))
                    rw [row_set _ _ _ _ (by rw [HML.out]; exact hlt), HZ.out, HST.out] at this
                    rw [HZ.out]
                    exact this.drew
                  case measure => simp [intOf]; omega
                · have hk8 : k = 8 := by omega
                  rw [hk8, mix_full, addR_comm] at hS
                  have hd : decide ((k : Int) < 8) = false := by simp; omega
                  clear hk8
                  have HS := Lib.hid hS
                  have HG4 := Lib.hid hG
                  clear hS hG
                  go_wp2_with fail
                  go_ret
                  refine ⟨g2, cap2, rfl, ?_, HS.out.lt, ?_⟩
                  · rw [HBK2.out]; exact WordsAt.of_at HS.out
                  · have b3 := B2.out.grown (only_trans HG3.out HG4.out) (by omega) (fun r e => by cases e; exact hBg2)
                    exact b3
end Go.Proofs.YtcnijcmddnacaaaDoor
