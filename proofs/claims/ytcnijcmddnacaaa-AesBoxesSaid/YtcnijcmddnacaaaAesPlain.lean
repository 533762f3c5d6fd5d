/- Plain: the AES box by powers of 3 and the reference's box by the 254th power are the same 256 bytes, all unlike. No conditions. -/
import Derived.WalkKit
namespace Go.Proofs.Ytcnijcmddnacaaa
/-! Plain: AES' box by powers, over Nat. -/
def dblN (a : Nat) : Nat := if 128 ≤ a then (a * 2 % 256) ^^^ 27 else a * 2 % 256
def rotN (a m d : Nat) : Nat := (a * m % 256) ||| (a / d)
def q3N (q : Nat) : Nat :=
  let q1 := q ^^^ (q * 2 % 256)
  let q2 := q1 ^^^ (q1 * 4 % 256)
  q2 ^^^ (q2 * 16 % 256)
def qN (q : Nat) : Nat := if 128 ≤ q3N q then q3N q ^^^ 9 else q3N q
def pN (p : Nat) : Nat := p ^^^ dblN p
def sbN (q : Nat) : Nat := ((((q ^^^ rotN q 2 128) ^^^ rotN q 4 64) ^^^ rotN q 8 32) ^^^ rotN q 16 16) ^^^ 99
theorem xor_lt {a b : Nat} (ha : a < 256) (hb : b < 256) : a ^^^ b < 256 := Nat.xor_lt_two_pow (n := 8) ha hb
theorem or_lt {a b : Nat} (ha : a < 256) (hb : b < 256) : a ||| b < 256 := Nat.or_lt_two_pow (n := 8) ha hb
theorem dblN_lt (a : Nat) : dblN a < 256 := by
  unfold dblN; split
  · exact xor_lt (by omega) (by omega)
  · omega
theorem rotN_lt (a m d : Nat) (ha : a < 256) : rotN a m d < 256 := or_lt (by omega) (Nat.lt_of_le_of_lt (Nat.div_le_self _ _) ha)
theorem q3N_lt (q : Nat) (h : q < 256) : q3N q < 256 := by
  unfold q3N; exact xor_lt (xor_lt (xor_lt h (by omega)) (by omega)) (by omega)
theorem qN_lt (q : Nat) (h : q < 256) : qN q < 256 := by
  unfold qN; split
  · exact xor_lt (q3N_lt q h) (by omega)
  · exact q3N_lt q h
theorem pN_lt (p : Nat) (h : p < 256) : pN p < 256 := xor_lt h (dblN_lt p)
theorem sbN_lt (q : Nat) (h : q < 256) : sbN q < 256 := by
  unfold sbN
  exact xor_lt (xor_lt (xor_lt (xor_lt (xor_lt h (rotN_lt _ _ _ h)) (rotN_lt _ _ _ h)) (rotN_lt _ _ _ h)) (rotN_lt _ _ _ h)) (by omega)
/-- The state behind k rounds. -/
def stN : Nat → Nat × Nat × List Nat
  | 0 => (1, 1, (List.replicate 256 0).set 0 99)
  | k + 1 => match stN k with | (p, q, t) => (pN p, qN q, t.set (pN p) (sbN (qN q)))
def boxN : List Nat := (stN 255).2.2
/-- The reference's box. -/
def timesStep (b : Nat) (s : Nat × Nat) (i : Nat) : Nat × Nat :=
  let out := if b / 2 ^ i % 2 = 1 then s.1 ^^^ s.2 else s.1
  let x := s.2 * 2
  (out, if 256 ≤ x then x ^^^ 283 else x)
def timesSt (a b : Nat) : Nat → Nat × Nat
  | 0 => (0, a)
  | k + 1 => timesStep b (timesSt a b k) k
def timesN (a b : Nat) : Nat := (timesSt a b 8).1 % 256
def invN (x : Nat) : Nat → Nat
  | 0 => 1
  | k + 1 => timesN (invN x k) x
def refN (x : Nat) : Nat := sbN (invN x 254)
def L : List Nat := [99, 124, 119, 123, 242, 107, 111, 197, 48, 1, 103, 43, 254, 215, 171, 118, 202, 130, 201, 125, 250, 89, 71, 240, 173, 212, 162, 175, 156, 164, 114, 192, 183, 253, 147, 38, 54, 63, 247, 204, 52, 165, 229, 241, 113, 216, 49, 21, 4, 199, 35, 195, 24, 150, 5, 154, 7, 18, 128, 226, 235, 39, 178, 117, 9, 131, 44, 26, 27, 110, 90, 160, 82, 59, 214, 179, 41, 227, 47, 132, 83, 209, 0, 237, 32, 252, 177, 91, 106, 203, 190, 57, 74, 76, 88, 207, 208, 239, 170, 251, 67, 77, 51, 133, 69, 249, 2, 127, 80, 60, 159, 168, 81, 163, 64, 143, 146, 157, 56, 245, 188, 182, 218, 33, 16, 255, 243, 210, 205, 12, 19, 236, 95, 151, 68, 23, 196, 167, 126, 61, 100, 93, 25, 115, 96, 129, 79, 220, 34, 42, 144, 136, 70, 238, 184, 20, 222, 94, 11, 219, 224, 50, 58, 10, 73, 6, 36, 92, 194, 211, 172, 98, 145, 149, 228, 121, 231, 200, 55, 109, 141, 213, 78, 169, 108, 86, 244, 234, 101, 122, 174, 8, 186, 120, 37, 46, 28, 166, 180, 198, 232, 221, 116, 31, 75, 189, 139, 138, 112, 62, 181, 102, 72, 3, 246, 14, 97, 53, 87, 185, 134, 193, 29, 158, 225, 248, 152, 17, 105, 217, 142, 148, 155, 30, 135, 233, 206, 85, 40, 223, 140, 161, 137, 13, 191, 230, 66, 104, 65, 153, 45, 15, 176, 84, 187, 22]
set_option maxRecDepth 100000 in
theorem boxN_eq : boxN = L := by decide +kernel
set_option maxRecDepth 100000 in
theorem ref_eq : (List.range 256).map refN = L := by decide +kernel
set_option maxRecDepth 100000 in
theorem L_nodup : L.Nodup := by decide +kernel
end Go.Proofs.Ytcnijcmddnacaaa
