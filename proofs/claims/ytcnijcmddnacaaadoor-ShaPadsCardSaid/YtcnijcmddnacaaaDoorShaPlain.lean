/- Plain: SHA-256 over natural numbers, streamed byte by byte and block by block; both come to the same digest. No conditions beside the bytes' range. -/
import Derived.WalkKit
namespace Go.Proofs.YtcnijcmddnacaaaDoor.Sha
def M : Nat := 4294967296
def rotr (x n : Nat) : Nat := (x / 2 ^ n) ||| (x * 2 ^ (32 - n) % 4294967296)
def s0 (x : Nat) : Nat := rotr x 7 ^^^ rotr x 18 ^^^ x / 8
def s1 (x : Nat) : Nat := rotr x 17 ^^^ rotr x 19 ^^^ x / 1024
def S1 (e : Nat) : Nat := rotr e 6 ^^^ rotr e 11 ^^^ rotr e 25
def S0 (a : Nat) : Nat := rotr a 2 ^^^ rotr a 13 ^^^ rotr a 22
def ch (e f g : Nat) : Nat := (e &&& f) ^^^ ((4294967295 - e) &&& g)
def maj (a b c : Nat) : Nat := (a &&& b) ^^^ (a &&& c) ^^^ (b &&& c)
def be (bs : List Nat) (i : Nat) : Nat := ((bs.getD (4 * i) 0 * 256 + bs.getD (4 * i + 1) 0) * 256 + bs.getD (4 * i + 2) 0) * 256 + bs.getD (4 * i + 3) 0
def wStep (bs ws : List Nat) (k : Nat) : Nat :=
  if k < 16 then be bs k else (ws.getD (k - 16) 0 + ws.getD (k - 7) 0 + s0 (ws.getD (k - 15) 0) + s1 (ws.getD (k - 2) 0)) % 4294967296
def sched (bs : List Nat) : Nat → List Nat
  | 0 => []
  | k + 1 => sched bs k ++ [wStep bs (sched bs k) k]
def KS : List Nat := [1116352408, 1899447441, 3049323471, 3921009573, 961987163, 1508970993, 2453635748, 2870763221, 3624381080, 310598401, 607225278, 1426881987, 1925078388, 2162078206, 2614888103, 3248222580, 3835390401, 4022224774, 264347078, 604807628, 770255983, 1249150122, 1555081692, 1996064986, 2554220882, 2821834349, 2952996808, 3210313671, 3336571891, 3584528711, 113926993, 338241895, 666307205, 773529912, 1294757372, 1396182291, 1695183700, 1986661051, 2177026350, 2456956037, 2730485921, 2820302411, 3259730800, 3345764771, 3516065817, 3600352804, 4094571909, 275423344, 430227734, 506948616, 659060556, 883997877, 958139571, 1322822218, 1537002063, 1747873779, 1955562222, 2024104815, 2227730452, 2361852424, 2428436474, 2756734187, 3204031479, 3329325298]
structure R where
  a : Nat
  b : Nat
  c : Nat
  d : Nat
  e : Nat
  f : Nat
  g : Nat
  h : Nat
def R.ok (r : R) : Prop := r.a < 4294967296 ∧ r.b < 4294967296 ∧ r.c < 4294967296 ∧ r.d < 4294967296 ∧ r.e < 4294967296 ∧ r.f < 4294967296 ∧ r.g < 4294967296 ∧ r.h < 4294967296
def t1 (r : R) (k w : Nat) : Nat := ((((r.h + S1 r.e) % 4294967296 + ch r.e r.f r.g) % 4294967296 + k) % 4294967296 + w) % 4294967296
def t2 (r : R) : Nat := (S0 r.a + maj r.a r.b r.c) % 4294967296
def rnd (r : R) (k w : Nat) : R := ⟨(t1 r k w + t2 r) % 4294967296, r.a, r.b, r.c, (r.d + t1 r k w) % 4294967296, r.e, r.f, r.g⟩
def comp (ws : List Nat) (r : R) : Nat → R
  | 0 => r
  | k + 1 => rnd (comp ws r k) (KS.getD k 0) (ws.getD k 0)
def addR (r c : R) : R := ⟨(r.a + c.a) % 4294967296, (r.b + c.b) % 4294967296, (r.c + c.c) % 4294967296, (r.d + c.d) % 4294967296, (r.e + c.e) % 4294967296, (r.f + c.f) % 4294967296, (r.g + c.g) % 4294967296, (r.h + c.h) % 4294967296⟩
def blockR (r : R) (bs : List Nat) : R := addR r (comp (sched bs 64) r 64)
def R0 : R := ⟨1779033703, 3144134277, 1013904242, 2773480762, 1359893119, 2600822924, 528734635, 1541459225⟩
/-- A hash on its way: the words, the part, how much of it is filled. -/
structure St where
  r : R
  part : List Nat
  fill : Nat
def put (s : St) (c : Nat) : St :=
  if s.fill + 1 = 64 then ⟨blockR s.r (s.part.set s.fill c), s.part.set s.fill c, 0⟩ else ⟨s.r, s.part.set s.fill c, s.fill + 1⟩
def puts (s : St) (l : List Nat) : St := l.foldl put s
def St0 : St := ⟨R0, List.replicate 64 0, 0⟩
/-- How many zeros stand behind the first bit. -/
def zs (n : Nat) : Nat := (119 - n % 64) % 64
def lenB (n i : Nat) : Nat := n * 8 / 2 ^ (56 - 8 * i) % 256
def pad (bs : List Nat) : List Nat := bs ++ [128] ++ List.replicate (zs bs.length) 0 ++ (List.range 8).map (lenB bs.length)
def blocks (r : R) : Nat → List Nat → R
  | 0, _ => r
  | n + 1, l => blocks (blockR r (l.take 64)) n (l.drop 64)
def word (r : R) (i : Nat) : Nat := [r.a, r.b, r.c, r.d, r.e, r.f, r.g, r.h].getD i 0
def digest (r : R) : List Nat := (List.range 32).map fun i => word r (i / 4) / 2 ^ (24 - 8 * (i % 4)) % 256
def stream (bs : List Nat) : List Nat := digest (puts St0 (pad bs)).r
def byBlocks (bs : List Nat) : List Nat := digest (blocks R0 ((pad bs).length / 64) (pad bs))
def hexd : List Nat := [48, 49, 50, 51, 52, 53, 54, 55, 56, 57, 97, 98, 99, 100, 101, 102]
def text (d : List Nat) : List Nat := d.flatMap fun x => [hexd.getD (x / 16) 0, hexd.getD (x % 16) 0]
set_option maxRecDepth 100000 in
theorem abc : text (stream [97, 98, 99]) = [98, 97, 55, 56, 49, 54, 98, 102, 56, 102, 48, 49, 99, 102, 101, 97, 52, 49, 52, 49, 52, 48, 100, 101, 53, 100, 97, 101, 50, 50, 50, 51, 98, 48, 48, 51, 54, 49, 97, 51, 57, 54, 49, 55, 55, 97, 57, 99, 98, 52, 49, 48, 102, 102, 54, 49, 102, 50, 48, 48, 49, 53, 97, 100] := by decide +kernel

/-! ### Ranges -/
theorem xor32 {a b : Nat} (ha : a < 4294967296) (hb : b < 4294967296) : a ^^^ b < 4294967296 := Nat.xor_lt_two_pow (n := 32) ha hb
theorem or32 {a b : Nat} (ha : a < 4294967296) (hb : b < 4294967296) : a ||| b < 4294967296 := Nat.or_lt_two_pow (n := 32) ha hb
theorem and32 {a : Nat} (b : Nat) (ha : a < 4294967296) : a &&& b < 4294967296 := Nat.lt_of_le_of_lt Nat.and_le_left ha
theorem rotr_lt (x n : Nat) (hx : x < 4294967296) : rotr x n < 4294967296 :=
  or32 (Nat.lt_of_le_of_lt (Nat.div_le_self _ _) hx) (Nat.mod_lt _ (by omega))
theorem S1_lt (x : Nat) (hx : x < 4294967296) : S1 x < 4294967296 := xor32 (xor32 (rotr_lt _ _ hx) (rotr_lt _ _ hx)) (rotr_lt _ _ hx)
theorem S0_lt (x : Nat) (hx : x < 4294967296) : S0 x < 4294967296 := xor32 (xor32 (rotr_lt _ _ hx) (rotr_lt _ _ hx)) (rotr_lt _ _ hx)
theorem s0_lt (x : Nat) (hx : x < 4294967296) : s0 x < 4294967296 := xor32 (xor32 (rotr_lt _ _ hx) (rotr_lt _ _ hx)) (by omega)
theorem s1_lt (x : Nat) (hx : x < 4294967296) : s1 x < 4294967296 := xor32 (xor32 (rotr_lt _ _ hx) (rotr_lt _ _ hx)) (by omega)
theorem ch_lt (e f g : Nat) (he : e < 4294967296) : ch e f g < 4294967296 := xor32 (and32 _ he) (and32 _ (by omega))
theorem maj_lt (a b c : Nat) (ha : a < 4294967296) (hb : b < 4294967296) : maj a b c < 4294967296 := xor32 (xor32 (and32 _ ha) (and32 _ ha)) (and32 _ hb)
theorem t1_lt (r : R) (k w : Nat) : t1 r k w < 4294967296 := Nat.mod_lt _ (by omega)
theorem t2_lt (r : R) : t2 r < 4294967296 := Nat.mod_lt _ (by omega)
theorem rnd_ok (r : R) (k w : Nat) (h : r.ok) : (rnd r k w).ok := by
  obtain ⟨ha, hb, hc, hd, he, hf, hg, hh⟩ := h
  exact ⟨Nat.mod_lt _ (by omega), ha, hb, hc, Nat.mod_lt _ (by omega), he, hf, hg⟩
theorem comp_ok (ws : List Nat) (r : R) (h : r.ok) : ∀ k, (comp ws r k).ok
  | 0 => h
  | k + 1 => rnd_ok _ _ _ (comp_ok ws r h k)
theorem addR_ok (r c : R) : (addR r c).ok :=
  ⟨Nat.mod_lt _ (by omega), Nat.mod_lt _ (by omega), Nat.mod_lt _ (by omega), Nat.mod_lt _ (by omega), Nat.mod_lt _ (by omega), Nat.mod_lt _ (by omega), Nat.mod_lt _ (by omega), Nat.mod_lt _ (by omega)⟩
theorem blockR_ok (r : R) (bs : List Nat) : (blockR r bs).ok := addR_ok _ _
theorem R0_ok : R0.ok := by unfold R.ok R0; decide
def bytes (l : List Nat) : Prop := ∀ x ∈ l, x < 256
theorem bytes_getD {l : List Nat} (h : bytes l) (i : Nat) : l.getD i 0 < 256 := by
  rw [List.getD_eq_getElem?_getD]
  rcases hi : l[i]? with _ | x
  · simp
  · exact h x (List.mem_of_getElem? hi)
theorem be_lt {bs : List Nat} (h : bytes bs) (i : Nat) : be bs i < 4294967296 := by
  have h0 := bytes_getD h (4 * i)
  have h1 := bytes_getD h (4 * i + 1)
  have h2 := bytes_getD h (4 * i + 2)
  have h3 := bytes_getD h (4 * i + 3)
  unfold be
  omega
theorem wStep_lt {bs : List Nat} (h : bytes bs) (ws : List Nat) (k : Nat) : wStep bs ws k < 4294967296 := by
  unfold wStep
  split
  · exact be_lt h k
  · exact Nat.mod_lt _ (by omega)
theorem sched_len (bs : List Nat) : ∀ k, (sched bs k).length = k
  | 0 => rfl
  | k + 1 => by rw [sched, List.length_append, sched_len bs k]; rfl
theorem sched_lt {bs : List Nat} (h : bytes bs) : ∀ k, ∀ x ∈ sched bs k, x < 4294967296
  | 0 => fun x hx => by cases hx
  | k + 1 => fun x hx => by
    rw [sched, List.mem_append] at hx
    rcases hx with hx | hx
    · exact sched_lt h k x hx
    · rw [List.mem_singleton] at hx; rw [hx]; exact wStep_lt h _ _
theorem sched_get_lt {bs : List Nat} (h : bytes bs) (k i : Nat) : (sched bs k).getD i 0 < 4294967296 := by
  rw [List.getD_eq_getElem?_getD]
  rcases hi : (sched bs k)[i]? with _ | x
  · simp
  · exact sched_lt h k x (List.mem_of_getElem? hi)
theorem KS_len : KS.length = 64 := by decide
theorem KS_lt (i : Nat) : KS.getD i 0 < 4294967296 := by
  have h : ∀ x ∈ KS, x < 4294967296 := by decide
  rw [List.getD_eq_getElem?_getD]
  rcases hi : KS[i]? with _ | x
  · simp
  · exact h x (List.mem_of_getElem? hi)
/-! ### The stream is the blocks -/
theorem put_part_len (s : St) (c : Nat) : (put s c).part.length = s.part.length := by
  unfold put; split <;> simp
theorem puts_part_len (l : List Nat) : ∀ s : St, (puts s l).part.length = s.part.length := by
  induction l with
  | nil => intro s; rfl
  | cons c l ih => intro s; show (puts (put s c) l).part.length = _; rw [ih, put_part_len]
theorem put_fill (s : St) (c : Nat) (h : s.fill < 64) : (put s c).fill = (s.fill + 1) % 64 ∧ (put s c).fill < 64 := by
  unfold put; split
  · exact ⟨by show 0 = _; omega, by show 0 < 64; omega⟩
  · exact ⟨by show s.fill + 1 = _; omega, by show s.fill + 1 < 64; omega⟩
theorem puts_fill (l : List Nat) : ∀ s : St, s.fill < 64 → (puts s l).fill = (s.fill + l.length) % 64 ∧ (puts s l).fill < 64 := by
  induction l with
  | nil => intro s h; exact ⟨by show s.fill = (s.fill + 0) % 64; omega, h⟩
  | cons c l ih =>
    intro s h
    obtain ⟨h1, h2⟩ := put_fill s c h
    obtain ⟨h3, h4⟩ := ih (put s c) h2
    refine ⟨?_, h4⟩
    show (puts (put s c) l).fill = _
    rw [h3, h1, List.length_cons]
    omega
theorem puts_append (s : St) (l m : List Nat) : puts s (l ++ m) = puts (puts s l) m := List.foldl_append ..
theorem put_r_ok (s : St) (c : Nat) (h : s.r.ok) : (put s c).r.ok := by
  unfold put; split
  · exact blockR_ok _ _
  · exact h
theorem puts_r_ok (l : List Nat) : ∀ s : St, s.r.ok → (puts s l).r.ok := by
  induction l with
  | nil => intro s h; exact h
  | cons c l ih => intro s h; exact ih (put s c) (put_r_ok s c h)
theorem put_bytes (s : St) (c : Nat) (hc : c < 256) (h : bytes s.part) : bytes (put s c).part := by
  have : (put s c).part = s.part.set s.fill c := by unfold put; split <;> rfl
  rw [this]
  intro x hx
  rcases List.mem_or_eq_of_mem_set hx with hx | rfl
  · exact h x hx
  · exact hc
theorem puts_bytes (l : List Nat) : ∀ s : St, bytes l → bytes s.part → bytes (puts s l).part := by
  induction l with
  | nil => intro s _ h; exact h
  | cons c l ih => intro s hl h; exact ih (put s c) (fun x hx => hl x (List.mem_cons_of_mem _ hx)) (put_bytes s c (hl c (List.mem_cons_self ..)) h)
theorem set_take (part : List Nat) (fill c : Nat) (h : fill < part.length) : (part.set fill c).take (fill + 1) = part.take fill ++ [c] := by
  rw [List.take_succ_eq_append_getElem (by simpa using h), List.take_set_of_le (Nat.le_refl _)]
  simp
theorem puts_chunk (l : List Nat) : ∀ (r : R) (part : List Nat) (fill : Nat), part.length = 64 → l ≠ [] → fill + l.length = 64 →
    puts ⟨r, part, fill⟩ l = ⟨blockR r (part.take fill ++ l), part.take fill ++ l, 0⟩ := by
  induction l with
  | nil => intro _ _ _ _ h; exact absurd rfl h
  | cons c l ih =>
    intro r part fill hp _ hl
    rw [List.length_cons] at hl
    show puts (put ⟨r, part, fill⟩ c) l = _
    rcases hll : l with _ | ⟨d, m⟩
    · subst hll
      have hf : fill = 63 := by simp at hl; omega
      have hset : part.set fill c = part.take fill ++ [c] := by
        have := set_take part fill c (by omega)
        rw [List.take_of_length_le (by simp; omega)] at this
        exact this
      show put ⟨r, part, fill⟩ c = _
      unfold put
      rw [if_pos (by show fill + 1 = 64; omega)]
      show (⟨blockR r (part.set fill c), part.set fill c, 0⟩ : St) = _
      rw [hset]
    · rw [← hll]
      have hne : l ≠ [] := by rw [hll]; exact List.cons_ne_nil _ _
      have hl1 : 0 < l.length := by rw [hll]; simp
      have h1 : put ⟨r, part, fill⟩ c = ⟨r, part.set fill c, fill + 1⟩ := by
        unfold put
        rw [if_neg (by show ¬ fill + 1 = 64; omega)]
      rw [h1, ih r (part.set fill c) (fill + 1) (by simpa using hp) hne (by omega), set_take part fill c (by omega)]
      simp
theorem puts_blocks : ∀ (n : Nat) (l : List Nat) (r : R) (part : List Nat), part.length = 64 → l.length = 64 * n → (puts ⟨r, part, 0⟩ l).r = blocks r n l
  | 0, l, r, part, _, hl => by
    have : l = [] := List.eq_nil_of_length_eq_zero (by omega)
    subst this
    rfl
  | n + 1, l, r, part, hp, hl => by
    have e : l = l.take 64 ++ l.drop 64 := (List.take_append_drop 64 l).symm
    have h64 : (l.take 64).length = 64 := by rw [List.length_take]; omega
    have hc := puts_chunk (l.take 64) r part 0 hp (fun h => by rw [h] at h64; simp at h64) (by omega)
    rw [List.take_zero, List.nil_append] at hc
    show _ = blocks (blockR r (l.take 64)) n (l.drop 64)
    rw [← puts_blocks n (l.drop 64) (blockR r (l.take 64)) (l.take 64) h64 (by rw [List.length_drop]; omega), ← hc, ← puts_append, ← e]
theorem pad_len (bs : List Nat) : (pad bs).length = bs.length + 9 + zs bs.length := by
  simp [pad]; omega
theorem pad_mod (bs : List Nat) : (pad bs).length % 64 = 0 := by
  rw [pad_len]; unfold zs; omega
theorem pad_gt (bs : List Nat) : bs.length + 8 < (pad bs).length := by rw [pad_len]; omega
theorem pad_le (bs : List Nat) : (pad bs).length ≤ bs.length + 72 := by rw [pad_len]; unfold zs; omega
theorem stream_eq (bs : List Nat) : stream bs = byBlocks bs := by
  unfold stream byBlocks St0
  rw [puts_blocks ((pad bs).length / 64) (pad bs) R0 (List.replicate 64 0) (by simp) (by have := pad_mod bs; omega)]
theorem zs_fill (n j : Nat) (hj : j ≤ zs n) : (n + 1 + j) % 64 = 56 ↔ j = zs n := by
  unfold zs at *; omega
theorem digest_len (r : R) : (digest r).length = 32 := by simp [digest]
theorem word_lt (r : R) (h : r.ok) (i : Nat) : word r i < 4294967296 := by
  obtain ⟨ha, hb, hc, hd, he, hf, hg, hh⟩ := h
  unfold word
  match i with
  | 0 => exact ha
  | 1 => exact hb
  | 2 => exact hc
  | 3 => exact hd
  | 4 => exact he
  | 5 => exact hf
  | 6 => exact hg
  | 7 => exact hh
  | i + 8 => show 0 < 4294967296; omega
theorem bytes_pad (bs : List Nat) (h : bytes bs) : bytes (pad bs) := by
  intro x hx
  simp only [pad, List.mem_append, List.mem_map, List.mem_replicate, List.mem_singleton] at hx
  rcases hx with ((hx | rfl) | ⟨_, rfl⟩) | ⟨i, _, rfl⟩
  · exact h x hx
  · omega
  · omega
  · exact Nat.mod_lt _ (by omega)
end Go.Proofs.YtcnijcmddnacaaaDoor.Sha
