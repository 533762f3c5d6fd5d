/- What the program's put, Add, New, Sum and Of make of bytes: the stream's digest. Conditions: the bytes lie where the slice says, fewer than 2^31 of them, and the table of constants is laid. -/
import Derived.Test.YtcnijcmddnacaaaDoorShaBlock
namespace Go.Proofs.YtcnijcmddnacaaaDoor
open Go.RowKit
set_option linter.unusedVariables false
/-- The table of constants is laid. -/
def KSat (w : World) : Prop := ∀ i, i < 64 → w.cell? ⟨0, i, none⟩ = some (.int .u32 (Sha.KS.getD i 0 : Nat))
theorem KSat.lt {w : World} (h : KSat w) : 0 < w.heap.size := block_lt_of_cell (h 0 (by omega))
theorem KSat.grown {w w' : World} {g : Nat} (h : KSat w) (hb : w.grownBy w' (some g)) (hg : 0 < g) : KSat w' := fun i hi =>
  (World.cell?_of_block (hb.block 0 h.lt (fun e => by cases e; omega))).trans (h i hi)
theorem KSat.below {w w' : World} {B : Nat} (h : KSat w) (hb : Below B w w') (hB : 0 < B) : KSat w' := fun i hi => (hb.cell (p := ⟨0, i, none⟩) hB).trans (h i hi)
/-- A hash on its way lies in block g. -/
structure HashAt (w : World) (g : Nat) (s : Sha.St) (total : Nat) : Prop where
  lies : At w g 45 (hashA (words s.r) s.part s.fill total)
  r : s.r.ok
  len : s.part.length = 64
  part : Sha.bytes s.part
  fill : s.fill < 64
theorem puts_snoc (s : Sha.St) (l : List Nat) (c : Nat) : Sha.puts s (l ++ [c]) = Sha.put (Sha.puts s l) c := by rw [Sha.puts_append]; rfl
theorem HashAt.next {w w' : World} {g : Nat} {s : Sha.St} {total : Nat} (h : HashAt w g s total) {c : Nat} (hc : c < 256)
    (hl : At w' g 45 (hashA (words (Sha.put s c).r) (Sha.put s c).part (Sha.put s c).fill total)) : HashAt w' g (Sha.put s c) total :=
  ⟨hl, Sha.put_r_ok s c h.r, (Sha.put_part_len s c).trans h.len, Sha.put_bytes s c hc h.part, (Sha.put_fill s c h.fill).2⟩
set_option maxRecDepth 100000 in
set_option maxHeartbeats 1000000 in
theorem put_any (g : Nat) (s : Sha.St) (total c : Nat) (w : World) (hh : HashAt w g s total) (hc : c < 256) (hK : KSat w) (h0 : 0 < g) :
    Calls Tryd.prog 15 #[.pointer (some ⟨g, 0, none⟩), .int .u8 (c : Int)] w fun e w' => e = .returned (.tuple #[]) ∧ HashAt w' g (Sha.put s c) total ∧ w.grownBy w' (some g) := by
  have HH := Lib.hid hh
  have HK := Lib.hid hK
  have HN := Lib.hid (fun (w' : World) => hh.next (w' := w') hc)
  obtain ⟨hl, hr, hp, hpb, hf⟩ := hh
  have hput : Sha.put s c = if s.fill + 1 = 64 then ⟨Sha.blockR s.r (s.part.set s.fill c), s.part.set s.fill c, 0⟩ else ⟨s.r, s.part.set s.fill c, s.fill + 1⟩ := rfl
  have HPUT := Lib.hid hput
  clear hput hK
  obtain ⟨r, part, fill⟩ := s
  dsimp only at hl hr hp hpb hf HPUT
  have hcell : w.cell? ⟨g, 72, none⟩ = some (.int .i64 (fill : Int)) := (hl.cell 72).trans (hash_fill (words_len _) hp)
  have hpc : w.cell? ⟨g, 8 + fill, none⟩ = some (.int .u8 (part.getD fill 0 : Nat)) := (hl.cell _).trans (hash_part (words_len _) hp fill hf)
  have hpf := hl.free (8 + fill)
  have hff := hl.free 72
  have l1 := hl.put (8 + fill) (.int .u8 (c : Int))
  rw [hash_set_part (words_len _) hp fill c hf] at l1
  have hp1 : (part.set fill c).length = 64 := by rw [List.length_set]; exact hp
  have HB1 := Lib.hid (show Sha.bytes (part.set fill c) from by
    intro x hx
    rcases List.mem_or_eq_of_mem_set hx with hx | rfl
    · exact hpb x hx
    · exact hc)
  have HR := Lib.hid hr
  have HP1 := Lib.hid hp1
  clear hp hp1 hr hpb
  go_enter Tryd.func15, Tryd.ntmps15
  go_wp2_with fail
  go_region
  have l2 := (l1.drew)
  have c2 := (l2.cell 72).trans (hash_fill (words_len _) HP1.out)
  have f2 := l2.free 72
  have l3 : At ((w.setCell ⟨g, 8 + fill, none⟩ (.int .u8 (c : Int))).setCell ⟨g, 72, none⟩ (.int .i64 ((fill : Int) + 1))).drew g 45 (hashA (words r) (part.set fill c) (fill + 1) total) := by
    have := l2.put 72 (.int .i64 ((fill : Int) + 1))
    rw [show ((fill : Int) + 1) = ((fill + 1 : Nat) : Int) from by omega] at this ⊢
    rw [hash_set_fill (words_len _) HP1.out] at this
    exact this
  have o3 : w.grownBy ((w.setCell ⟨g, 8 + fill, none⟩ (.int .u8 (c : Int))).setCell ⟨g, 72, none⟩ (.int .i64 ((fill : Int) + 1))).drew (some g) :=
    only_drew (only_set (g := g) (p := ⟨g, 72, none⟩) (only_set (g := g) (p := ⟨g, 8 + fill, none⟩) (World.grownBy.refl w (some g)) (.inl rfl) _) (.inl rfl) _)
  by_cases h63 : fill = 63
  · have b63 : ((fill : Int) + 1 == 64) = true := by simp; omega
    have hput2 := HPUT.out
    rw [if_pos (by omega)] at hput2
    have HP2 := Lib.hid hput2
    clear h63 hput2
    go_wp2_with fail
    refine (block_any g r (part.set fill c) (fill + 1) total _ l3 HR.out HP1.out HB1.out (HK.out.grown o3 h0) h0).mono ?_
    rintro e w1 ⟨rfl, hl1, hg1⟩
    go_wp2_with fail
    go_end0
    refine ⟨rfl, ?_, only_trans o3 hg1⟩
    apply HN.out
    rw [HP2.out]
    exact hl1
  · have b63 : ((fill : Int) + 1 == 64) = false := by simp; omega
    have hput2 := HPUT.out
    rw [if_neg (by omega)] at hput2
    have HP2 := Lib.hid hput2
    clear h63 hput2
    go_wp2_with fail
    go_end0
    refine ⟨rfl, ?_, o3⟩
    apply HN.out
    rw [HP2.out]
    exact l3
/-- A slice of bytes that lies somewhere: its address, its bytes. -/
structure BytesAt (w : World) (b o : Nat) (bs : List Nat) : Prop where
  lies : w.rangeAt b o (u8L bs)
  small : Sha.bytes bs
theorem BytesAt.cell {w : World} {b o : Nat} {bs : List Nat} (h : BytesAt w b o bs) (k : Nat) (hk : k < bs.length) : w.cell? ⟨b, o + k, none⟩ = some (.int .u8 (bs.getD k 0 : Nat)) :=
  h.lies k _ (u8L_get bs k hk)
theorem take_snoc (bs : List Nat) (k : Nat) (h : k < bs.length) : bs.take (k + 1) = bs.take k ++ [bs.getD k 0] := by
  rw [List.take_succ_eq_append_getElem h, List.getD_eq_getElem?_getD, List.getElem?_eq_getElem h]; rfl
set_option maxRecDepth 100000 in
set_option maxHeartbeats 1000000 in
theorem add_any (g : Nat) (s : Sha.St) (total : Nat) (b o cap : Nat) (bs : List Nat) (w : World) (hh : HashAt w g s total) (hb : BytesAt w b o bs) (hbg : b ≠ g) (hn : bs.length < 2147483648) (ht : total < 2147483648)
    (hK : KSat w) (h0 : 0 < g) :
    Calls Tryd.prog 11 #[.pointer (some ⟨g, 0, none⟩), .slice (some ⟨b, o, none⟩) bs.length cap] w fun e w' => e = .returned (.tuple #[]) ∧ HashAt w' g (Sha.puts s bs) (total + bs.length) ∧ w.grownBy w' (some g) := by
  have HH := Lib.hid hh
  have HB := Lib.hid hb
  have HK := Lib.hid hK
  clear hh hb hK
  go_enter Tryd.func11, Tryd.ntmps11
  go_wp2_with fail
  go_loopw [10] (fun i wr => ∃ k : Nat, k ≤ bs.length ∧ i = .int .i64 k ∧ HashAt wr g (Sha.puts s (bs.take k)) total ∧ w.grownBy wr (some g)) (fun i _ => bs.length - (intOf i).toNat)
  case atStart => exact ⟨0, by omega, rfl, HH.out, World.grownBy.refl _ _⟩
  case round =>
    obtain ⟨k, hk, rfl, hH, hg⟩ := hrel
    by_cases hlt : k < bs.length
    · have hc0 := HB.out.cell k hlt
      have hc : wr.cell? ⟨b, o + k, none⟩ = some (.int .u8 (bs.getD k 0 : Nat)) :=
        (World.cell?_of_block (hg.block b (block_lt_of_cell hc0) (fun e => hbg (by cases e; rfl)))).trans hc0
      have hx := Sha.bytes_getD HB.out.small k
      have HT := Lib.hid (take_snoc bs k hlt)
      have HR := Lib.hid hH
      clear hc0
      generalize bs.getD k 0 = x at *
      go_wp2_with fail
      refine (put_any g _ total x wr HR.out hx (HK.out.grown hg h0) h0).mono ?_
      rintro e w1 ⟨rfl, hH1, hg1⟩
      rw [← puts_snoc, ← HT.out] at hH1
      go_wp2_with fail
      go_roundw
      case rel => exact ⟨k + 1, by omega, by go_num, hH1, only_trans hg hg1⟩
      case measure => simp [intOf]; omega
    · have hk2 : k = bs.length := by omega
      rw [hk2, List.take_length] at hH
      have hd : decide ((k : Int) < (bs.length : Int)) = false := by simp; omega
      clear hk2
      have HR := Lib.hid hH
      have ct : wr.cell? ⟨g, 73, none⟩ = some (.int .u64 (total : Int)) := (hH.lies.cell 73).trans (hash_total (words_len _) hH.len)
      have ft := hH.lies.free 73
      clear hH
      go_wp2_with fail
      go_end0
      have hl := HR.out.lies.put 73 (.int .u64 ((total : Int) + (bs.length : Int)))
      rw [show ((total : Int) + (bs.length : Int)) = ((total + bs.length : Nat) : Int) from by omega, hash_set_total (words_len _) HR.out.len] at hl
      rw [show ((total : Int) + (bs.length : Int)) = ((total + bs.length : Nat) : Int) from by omega]
      exact ⟨rfl, ⟨hl, HR.out.r, HR.out.len, HR.out.part, HR.out.fill⟩, only_set hg (.inl rfl) _⟩
theorem wpList_built {P : Program} {ops : Array Oper} {rest : List Oper} {o : Oper} {a : Act} {w : World} {Q : Exit → Act → World → Prop} (hgd : o.guard = none) (t : TypeId) (parts : Array (Nat × Operand)) (ho : o.op = .build t parts) (v : Value)
    (hr : (Instr.build t (parts.map fun (i, x) => (i, a.eval x))).run P w = .ok v w) (h : wpList P ops Q rest (a.put o.dst v) w) : wpList P ops Q (o :: rest) a w :=
  wpList_plain hgd fun _ hK => by
    unfold Oper.wp execOp
    simp only [ho, Sem.run_bind, Sem.run_pure, Result.andThen_ok, hr]
    exact hK _ _ h
def H0 : Array Value := hashA (words Sha.R0) (List.replicate 64 0) 0 0
theorem new_any (w : World) : Calls Tryd.prog 10 #[] w fun e w' => e = .returned (.pointer (some ⟨w.heap.size, 0, none⟩)) ∧ w' = w.alloc (.cells H0 45) := by
  go_enter Tryd.func10, Tryd.ntmps10
  go_wp2_with (first | (refine wpList_built rfl 43 _ rfl (.agg (u32L (words Sha.R0)).toArray) (by kernel_rfl) ?_) | (refine wpList_built rfl 45 _ rfl (.agg H0) (by kernel_rfl) ?_))
  go_ret
  exact ⟨rfl, rfl⟩
theorem hash_new (w : World) : HashAt (w.alloc (.cells H0 45)) w.heap.size Sha.St0 0 :=
  ⟨At.new _ _ _, Sha.R0_ok, by simp [Sha.St0], by intro x hx; simp only [Sha.St0, List.mem_replicate] at hx; omega, by show 0 < 64; omega⟩
end Go.Proofs.YtcnijcmddnacaaaDoor
