/- What a row of thirty-two bytes that comes in holds, and what the listed table gives the walks. No conditions. -/
import Derived.Test.YtcnijcmddnacaaaDoorShaDigits
import Derived.Test.YtcnijcmddnacaaaDoorCards
import Derived.Test.YtcnijcmddnacaaaDoorTie
import Derived.WalkKit
import Derived.ProofKit
import Derived.OpenShut
import Derived.Deep.DeepHandedRow
import Derived.Lib.LaidTab
namespace Go.Proofs.YtcnijcmddnacaaaDoor
open Go.ChangeShapes Go.WideShapes Go.ChangeAt Go.RowKit
set_option linter.unusedVariables false
theorem cells5 : Tryd.prog.cellsOf 5 = 1 := by kernel_rfl
theorem cells27 : Tryd.prog.cellsOf 27 = 32 := by kernel_rfl
theorem wf8 (n : Int) (h : (Lit.int .u8 n).wf = true) : 0 ≤ n ∧ n ≤ 255 := by simpa [Lit.wf, IntKind.min, IntKind.max, IntKind.signed, IntKind.bits] using h
theorem mapM_bytes {H : Type} {enc : TypeId × Value → H} {W : World} {b : Nat} {sp : Nat → Bool} {hd : Bool} {m : Nat} {cs : List Value} : ∀ (L : List Nat) (ys : List (DataW H × List MemPlace)),
    L.mapM (fun i => DataW.trod enc Tryd.prog W b sp hd m 5 ((cs.drop (i * 1)).take 1)) = some ys →
    ∃ ns : List Nat, ns.length = L.length ∧ Sha.bytes ns ∧ ys = ns.map (fun (n : Nat) => ((.lit (.int .u8 (n : Int)) : DataW H), ([] : List MemPlace))) ∧ (∀ j i, L[j]? = some i → (cs.drop (i * 1)).take 1 = [.int .u8 (ns.getD j 0 : Nat)]) ∧
      ∀ (W' : World) (b' : Nat) (sp' : Nat → Bool) (hd' : Bool), L.mapM (fun i => DataW.trod enc Tryd.prog W' b' sp' hd' m 5 ((cs.drop (i * 1)).take 1)) = some ys
  | [], ys, h => by
    simp at h
    subst h
    exact ⟨[], rfl, (by intro x hx; cases hx), rfl, (by intro j i hj; simp at hj), fun _ _ _ _ => rfl⟩
  | i :: L, ys, h => by
    rw [List.mapM_cons] at h
    simp only [bind, Option.bind_eq_some_iff, pure, Option.some.injEq] at h
    obtain ⟨y, hy, ys', hys, rfl⟩ := h
    obtain ⟨ns, hl, hb, rfl, hc, hw⟩ := mapM_bytes L ys' hys
    obtain ⟨a, ea, rfl, wa⟩ := DataW.trod_int Tryd.underlying5 hy
    have ha := wf8 a wa
    obtain ⟨n, rfl⟩ := Int.eq_ofNat_of_zero_le ha.1
    refine ⟨n :: ns, by simp [hl], ?_, rfl, ?_, ?_⟩
    · intro x hx
      rcases List.mem_cons.1 hx with rfl | hx
      · omega
      · exact hb x hx
    · intro j k hj
      cases j with
      | zero =>
        simp only [List.getElem?_cons_zero, Option.some.injEq] at hj
        subst hj
        exact ea
      | succ j => exact hc j k (by simpa using hj)
    · intro W' b' sp' hd'
      rw [List.mapM_cons, hw W' b' sp' hd', ea]
      cases m with
      | zero => simp [DataW.trod] at hy
      | succ m => rw [trod_int_mk m Tryd.underlying5 wa]; rfl
theorem open32 {H : Type} {enc : TypeId × Value → H} {W : World} {b : Nat} {sp : Nat → Bool} {hd : Bool} {cs : Array Value} {d : DataW H} {p : List MemPlace} (hn : cs.size = 32) (h : DataW.Trod enc Tryd.prog W b sp hd 27 (.agg cs) d p) :
    ∃ l : List Nat, l.length = 32 ∧ Sha.bytes l ∧ cs = (u8L l).toArray ∧ p = [] ∧ ∀ (W' : World) (b' : Nat) (sp' : Nat → Bool) (hd' : Bool), DataW.Trod enc Tryd.prog W' b' sp' hd' 27 (.agg cs) d [] := by
  obtain ⟨fuel, hf⟩ := h
  cases fuel with
  | zero => simp [DataW.trod] at hf
  | succ m =>
    rw [DataW.trod_step] at hf
    unfold DataW.trodStep at hf
    simp only [Tryd.underlying27, Value.cells, cells5, cells27] at hf
    rw [if_pos (by simpa using hn)] at hf
    simp only [Option.map_eq_some_iff] at hf
    obtain ⟨ys, hy, e1⟩ := hf
    obtain ⟨ns, hl, hb, rfl, hc, hw⟩ := mapM_bytes _ ys hy
    simp only [Prod.mk.injEq] at e1
    rw [List.length_range] at hl
    refine ⟨ns, hl, hb, ?_, e1.2.symm.trans (List.flatMap_eq_nil_iff.2 (by intro x hx; obtain ⟨n, _, rfl⟩ := List.mem_map.1 hx; rfl)), ?_⟩
    · apply Array.toList_inj.1
      apply List.ext_getElem?
      intro i
      by_cases hi : i < 32
      · have h1 := hc i i (by rw [List.getElem?_range hi])
        have h2 : cs.toList[i]? = some (.int .u8 (ns.getD i 0 : Nat)) := by
          have h3 := congrArg (fun l => l[0]?) h1
          simpa [List.getElem?_take, List.getElem?_drop] using h3
        rw [h2]
        exact (u8L_get ns i (by omega)).symm
      · rw [List.getElem?_eq_none (by simp; omega), List.getElem?_eq_none (by simp [u8L_len]; omega)]
    · intro W' b' sp' hd'
      refine ⟨m + 1, ?_⟩
      rw [DataW.trod_step]
      unfold DataW.trodStep
      simp only [Tryd.underlying27, Value.cells, cells5, cells27]
      rw [if_pos (by simpa using hn), hw W' b' sp' hd', ← e1.1]
      simp [List.flatMap_eq_nil_iff]
theorem gTab : Tryd.prog.globalNamed "oubliette/sha.roots" = some 0 := by kernel_rfl
theorem gTabType : (Tryd.prog.globals[0]?).map (·.type) = some 48 := by kernel_rfl
theorem cells48 : Tryd.prog.cellsOf 48 = 64 := by kernel_rfl
theorem cells38 : Tryd.prog.cellsOf 38 = 1 := by kernel_rfl
def KI : List Int := [1116352408, 1899447441, 3049323471, 3921009573, 961987163, 1508970993, 2453635748, 2870763221, 3624381080, 310598401, 607225278, 1426881987, 1925078388, 2162078206, 2614888103, 3248222580, 3835390401, 4022224774, 264347078, 604807628, 770255983, 1249150122, 1555081692, 1996064986, 2554220882, 2821834349, 2952996808, 3210313671, 3336571891, 3584528711, 113926993, 338241895, 666307205, 773529912, 1294757372, 1396182291, 1695183700, 1986661051, 2177026350, 2456956037, 2730485921, 2820302411, 3259730800, 3345764771, 3516065817, 3600352804, 4094571909, 275423344, 430227734, 506948616, 659060556, 883997877, 958139571, 1322822218, 1537002063, 1747873779, 1955562222, 2024104815, 2227730452, 2361852424, 2428436474, 2756734187, 3204031479, 3329325298]
theorem KI_get : ∀ i < 64, KI.getD i 0 = ((Sha.KS.getD i 0 : Nat) : Int) := by decide +kernel
theorem table {W : World} (h : laidMetH Tryd.prog [("oubliette/sha.roots", Rows.laid_oubliette_sha_roots)] W) : KSat W := by
  have hT : Lib.TabIs Tryd.prog W "oubliette/sha.roots" .u32 KI := Lib.tabIs_of_head (rest := []) gTab gTabType Tryd.underlying48 Tryd.underlying38 cells38 cells48 h
  intro i hi
  rw [hT.cell gTab i hi, KI_get i hi]
/-- A world for the witness: the settled one, the table (block 0) holding what its initialiser lays. -/
noncomputable def laidWorld (os : Os) : World :=
  { World.holding Tryd.prog os ⟨#[], #[], []⟩ with heap := (World.holding Tryd.prog os ⟨#[], #[], []⟩).heap.modify 0 fun
      | .cells _ t frozen => .cells (u32L Sha.KS).toArray t frozen
      | o => o }
theorem own : ownKnob Tryd.prog.godebug = none := by kernel_rfl
end Go.Proofs.YtcnijcmddnacaaaDoor
