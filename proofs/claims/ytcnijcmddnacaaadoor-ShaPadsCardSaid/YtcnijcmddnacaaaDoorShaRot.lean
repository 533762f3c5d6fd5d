/- The turns of a 32-bit word, by the program's library call and by the reference: the same word. Condition: the word's range. -/
import Derived.Test.YtcnijcmddnacaaaDoorProg
import Derived.Test.YtcnijcmddnacaaaDoorShaPlain
import Derived.WalkKit
import Derived.Lib.Hide
namespace Go.Proofs.YtcnijcmddnacaaaDoor
open Go.RowKit
set_option linter.unusedVariables false
theorem ret_u32 {a b : Int} (h : a = b) : Ending.returned (.int .u32 a) = Ending.returned (.int .u32 b) := by rw [h]
theorem rot_bits (x n d m : Nat) (hd : d = 2 ^ n) (hm : m = 2 ^ (32 - n)) (hx : x < 4294967296) :
    bits .or .u32 ((x : Int) / (d : Int)) ((x : Int) * (m : Int) % 4294967296) = ((Sha.rotr x n : Nat) : Int) := by
  subst hd hm
  have := u32_or_nat (x / 2 ^ n) (x * 2 ^ (32 - n) % 4294967296) (by have := Nat.div_le_self x (2 ^ n); omega) (by omega)
  unfold Sha.rotr
  rw [← this]
  congr 1
theorem rot_bits' (x n d m : Nat) (hd : d = 2 ^ n) (hm : m = 2 ^ (32 - n)) (hx : x < 4294967296) :
    bits .or .u32 ((x : Int) * (m : Int) % 4294967296) ((x : Int) / (d : Int)) = ((Sha.rotr x n : Nat) : Int) := by
  subst hd hm
  have := u32_or_nat (x * 2 ^ (32 - n) % 4294967296) (x / 2 ^ n) (by omega) (by have := Nat.div_le_self x (2 ^ n); omega)
  unfold Sha.rotr
  rw [Nat.or_comm, ← this]
  congr 1
set_option maxRecDepth 100000 in
theorem rotl_2 (x : Nat) (hx : x < 4294967296) (w : World) :
    Calls Tryd.prog 18 #[.int .u32 (x : Int), .int .i64 (-2)] w fun e w' => e = .returned (.int .u32 (Sha.rotr x 2 : Nat)) ∧ w = w' := by
  have h3 : bits .and .u64 (IntKind.u64.wrap (-2)) 31 = 30 := by decide
  go_enter Tryd.func18, Tryd.ntmps18
  go_wp2
  go_ret
  exact ⟨ret_u32 (rot_bits' x 2 4 1073741824 rfl rfl hx), rfl⟩
set_option maxRecDepth 100000 in
theorem rotr_2 (x : Nat) (hx : x < 4294967296) (w : World) :
    Calls Tryd.prog 16 #[.int .u32 (x : Int), .int .u32 2] w fun e w' => e = .returned (.int .u32 (Sha.rotr x 2 : Nat)) ∧ w = w' := by
  go_enter Tryd.func16, Tryd.ntmps16
  go_wp2
  go_ret
  exact ⟨ret_u32 (rot_bits x 2 4 1073741824 rfl rfl hx), rfl⟩
set_option maxRecDepth 100000 in
theorem rotl_6 (x : Nat) (hx : x < 4294967296) (w : World) :
    Calls Tryd.prog 18 #[.int .u32 (x : Int), .int .i64 (-6)] w fun e w' => e = .returned (.int .u32 (Sha.rotr x 6 : Nat)) ∧ w = w' := by
  have h3 : bits .and .u64 (IntKind.u64.wrap (-6)) 31 = 26 := by decide
  go_enter Tryd.func18, Tryd.ntmps18
  go_wp2
  go_ret
  exact ⟨ret_u32 (rot_bits' x 6 64 67108864 rfl rfl hx), rfl⟩
set_option maxRecDepth 100000 in
theorem rotr_6 (x : Nat) (hx : x < 4294967296) (w : World) :
    Calls Tryd.prog 16 #[.int .u32 (x : Int), .int .u32 6] w fun e w' => e = .returned (.int .u32 (Sha.rotr x 6 : Nat)) ∧ w = w' := by
  go_enter Tryd.func16, Tryd.ntmps16
  go_wp2
  go_ret
  exact ⟨ret_u32 (rot_bits x 6 64 67108864 rfl rfl hx), rfl⟩
set_option maxRecDepth 100000 in
theorem rotl_7 (x : Nat) (hx : x < 4294967296) (w : World) :
    Calls Tryd.prog 18 #[.int .u32 (x : Int), .int .i64 (-7)] w fun e w' => e = .returned (.int .u32 (Sha.rotr x 7 : Nat)) ∧ w = w' := by
  have h3 : bits .and .u64 (IntKind.u64.wrap (-7)) 31 = 25 := by decide
  go_enter Tryd.func18, Tryd.ntmps18
  go_wp2
  go_ret
  exact ⟨ret_u32 (rot_bits' x 7 128 33554432 rfl rfl hx), rfl⟩
set_option maxRecDepth 100000 in
theorem rotr_7 (x : Nat) (hx : x < 4294967296) (w : World) :
    Calls Tryd.prog 16 #[.int .u32 (x : Int), .int .u32 7] w fun e w' => e = .returned (.int .u32 (Sha.rotr x 7 : Nat)) ∧ w = w' := by
  go_enter Tryd.func16, Tryd.ntmps16
  go_wp2
  go_ret
  exact ⟨ret_u32 (rot_bits x 7 128 33554432 rfl rfl hx), rfl⟩
set_option maxRecDepth 100000 in
theorem rotl_11 (x : Nat) (hx : x < 4294967296) (w : World) :
    Calls Tryd.prog 18 #[.int .u32 (x : Int), .int .i64 (-11)] w fun e w' => e = .returned (.int .u32 (Sha.rotr x 11 : Nat)) ∧ w = w' := by
  have h3 : bits .and .u64 (IntKind.u64.wrap (-11)) 31 = 21 := by decide
  go_enter Tryd.func18, Tryd.ntmps18
  go_wp2
  go_ret
  exact ⟨ret_u32 (rot_bits' x 11 2048 2097152 rfl rfl hx), rfl⟩
set_option maxRecDepth 100000 in
theorem rotr_11 (x : Nat) (hx : x < 4294967296) (w : World) :
    Calls Tryd.prog 16 #[.int .u32 (x : Int), .int .u32 11] w fun e w' => e = .returned (.int .u32 (Sha.rotr x 11 : Nat)) ∧ w = w' := by
  go_enter Tryd.func16, Tryd.ntmps16
  go_wp2
  go_ret
  exact ⟨ret_u32 (rot_bits x 11 2048 2097152 rfl rfl hx), rfl⟩
set_option maxRecDepth 100000 in
theorem rotl_13 (x : Nat) (hx : x < 4294967296) (w : World) :
    Calls Tryd.prog 18 #[.int .u32 (x : Int), .int .i64 (-13)] w fun e w' => e = .returned (.int .u32 (Sha.rotr x 13 : Nat)) ∧ w = w' := by
  have h3 : bits .and .u64 (IntKind.u64.wrap (-13)) 31 = 19 := by decide
  go_enter Tryd.func18, Tryd.ntmps18
  go_wp2
  go_ret
  exact ⟨ret_u32 (rot_bits' x 13 8192 524288 rfl rfl hx), rfl⟩
set_option maxRecDepth 100000 in
theorem rotr_13 (x : Nat) (hx : x < 4294967296) (w : World) :
    Calls Tryd.prog 16 #[.int .u32 (x : Int), .int .u32 13] w fun e w' => e = .returned (.int .u32 (Sha.rotr x 13 : Nat)) ∧ w = w' := by
  go_enter Tryd.func16, Tryd.ntmps16
  go_wp2
  go_ret
  exact ⟨ret_u32 (rot_bits x 13 8192 524288 rfl rfl hx), rfl⟩
set_option maxRecDepth 100000 in
theorem rotl_17 (x : Nat) (hx : x < 4294967296) (w : World) :
    Calls Tryd.prog 18 #[.int .u32 (x : Int), .int .i64 (-17)] w fun e w' => e = .returned (.int .u32 (Sha.rotr x 17 : Nat)) ∧ w = w' := by
  have h3 : bits .and .u64 (IntKind.u64.wrap (-17)) 31 = 15 := by decide
  go_enter Tryd.func18, Tryd.ntmps18
  go_wp2
  go_ret
  exact ⟨ret_u32 (rot_bits' x 17 131072 32768 rfl rfl hx), rfl⟩
set_option maxRecDepth 100000 in
theorem rotr_17 (x : Nat) (hx : x < 4294967296) (w : World) :
    Calls Tryd.prog 16 #[.int .u32 (x : Int), .int .u32 17] w fun e w' => e = .returned (.int .u32 (Sha.rotr x 17 : Nat)) ∧ w = w' := by
  go_enter Tryd.func16, Tryd.ntmps16
  go_wp2
  go_ret
  exact ⟨ret_u32 (rot_bits x 17 131072 32768 rfl rfl hx), rfl⟩
set_option maxRecDepth 100000 in
theorem rotl_18 (x : Nat) (hx : x < 4294967296) (w : World) :
    Calls Tryd.prog 18 #[.int .u32 (x : Int), .int .i64 (-18)] w fun e w' => e = .returned (.int .u32 (Sha.rotr x 18 : Nat)) ∧ w = w' := by
  have h3 : bits .and .u64 (IntKind.u64.wrap (-18)) 31 = 14 := by decide
  go_enter Tryd.func18, Tryd.ntmps18
  go_wp2
  go_ret
  exact ⟨ret_u32 (rot_bits' x 18 262144 16384 rfl rfl hx), rfl⟩
set_option maxRecDepth 100000 in
theorem rotr_18 (x : Nat) (hx : x < 4294967296) (w : World) :
    Calls Tryd.prog 16 #[.int .u32 (x : Int), .int .u32 18] w fun e w' => e = .returned (.int .u32 (Sha.rotr x 18 : Nat)) ∧ w = w' := by
  go_enter Tryd.func16, Tryd.ntmps16
  go_wp2
  go_ret
  exact ⟨ret_u32 (rot_bits x 18 262144 16384 rfl rfl hx), rfl⟩
set_option maxRecDepth 100000 in
theorem rotl_19 (x : Nat) (hx : x < 4294967296) (w : World) :
    Calls Tryd.prog 18 #[.int .u32 (x : Int), .int .i64 (-19)] w fun e w' => e = .returned (.int .u32 (Sha.rotr x 19 : Nat)) ∧ w = w' := by
  have h3 : bits .and .u64 (IntKind.u64.wrap (-19)) 31 = 13 := by decide
  go_enter Tryd.func18, Tryd.ntmps18
  go_wp2
  go_ret
  exact ⟨ret_u32 (rot_bits' x 19 524288 8192 rfl rfl hx), rfl⟩
set_option maxRecDepth 100000 in
theorem rotr_19 (x : Nat) (hx : x < 4294967296) (w : World) :
    Calls Tryd.prog 16 #[.int .u32 (x : Int), .int .u32 19] w fun e w' => e = .returned (.int .u32 (Sha.rotr x 19 : Nat)) ∧ w = w' := by
  go_enter Tryd.func16, Tryd.ntmps16
  go_wp2
  go_ret
  exact ⟨ret_u32 (rot_bits x 19 524288 8192 rfl rfl hx), rfl⟩
set_option maxRecDepth 100000 in
theorem rotl_22 (x : Nat) (hx : x < 4294967296) (w : World) :
    Calls Tryd.prog 18 #[.int .u32 (x : Int), .int .i64 (-22)] w fun e w' => e = .returned (.int .u32 (Sha.rotr x 22 : Nat)) ∧ w = w' := by
  have h3 : bits .and .u64 (IntKind.u64.wrap (-22)) 31 = 10 := by decide
  go_enter Tryd.func18, Tryd.ntmps18
  go_wp2
  go_ret
  exact ⟨ret_u32 (rot_bits' x 22 4194304 1024 rfl rfl hx), rfl⟩
set_option maxRecDepth 100000 in
theorem rotr_22 (x : Nat) (hx : x < 4294967296) (w : World) :
    Calls Tryd.prog 16 #[.int .u32 (x : Int), .int .u32 22] w fun e w' => e = .returned (.int .u32 (Sha.rotr x 22 : Nat)) ∧ w = w' := by
  go_enter Tryd.func16, Tryd.ntmps16
  go_wp2
  go_ret
  exact ⟨ret_u32 (rot_bits x 22 4194304 1024 rfl rfl hx), rfl⟩
set_option maxRecDepth 100000 in
theorem rotl_25 (x : Nat) (hx : x < 4294967296) (w : World) :
    Calls Tryd.prog 18 #[.int .u32 (x : Int), .int .i64 (-25)] w fun e w' => e = .returned (.int .u32 (Sha.rotr x 25 : Nat)) ∧ w = w' := by
  have h3 : bits .and .u64 (IntKind.u64.wrap (-25)) 31 = 7 := by decide
  go_enter Tryd.func18, Tryd.ntmps18
  go_wp2
  go_ret
  exact ⟨ret_u32 (rot_bits' x 25 33554432 128 rfl rfl hx), rfl⟩
set_option maxRecDepth 100000 in
theorem rotr_25 (x : Nat) (hx : x < 4294967296) (w : World) :
    Calls Tryd.prog 16 #[.int .u32 (x : Int), .int .u32 25] w fun e w' => e = .returned (.int .u32 (Sha.rotr x 25 : Nat)) ∧ w = w' := by
  go_enter Tryd.func16, Tryd.ntmps16
  go_wp2
  go_ret
  exact ⟨ret_u32 (rot_bits x 25 33554432 128 rfl rfl hx), rfl⟩
end Go.Proofs.YtcnijcmddnacaaaDoor
