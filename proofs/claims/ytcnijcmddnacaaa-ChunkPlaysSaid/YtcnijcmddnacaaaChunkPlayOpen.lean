/- The steps that come in, opened. No conditions beside the form's own reach. -/
import Derived.Test.YtcnijcmddnacaaaChunkOpen
import Derived.Test.YtcnijcmddnacaaaChunkPlayMem
import Derived.Deep.Slices
import Derived.SizedLaws
namespace Go.Proofs.Ytcnijcmddnacaaa.Chunk
open Go.ChangeShapes Go.WideShapes Go.ChangeAt Go.RowKit
set_option linter.unusedVariables false
theorem c4 : Try.prog.cellsOf 4 = 1 := by kernel_rfl
theorem c25 : Try.prog.cellsOf 25 = 1 := by kernel_rfl
theorem c36 : Try.prog.cellsOf 36 = 3 := by kernel_rfl
theorem b5 : Try.prog.bytesOf 5 = 1 := by kernel_rfl
theorem list_of {α : Type} {P : Nat → α → Prop} : ∀ n : Nat, (∀ i, i < n → ∃ s, P i s) → ∃ l : List α, l.length = n ∧ ∀ i s, l[i]? = some s → P i s
  | 0, _ => ⟨[], rfl, fun i s h => by simp at h⟩
  | n + 1, h => by
    obtain ⟨l, hl, hp⟩ := list_of n (fun i hi => h i (by omega))
    obtain ⟨s, hs⟩ := h n (by omega)
    refine ⟨l ++ [s], by simp [hl], fun i u hu => ?_⟩
    by_cases hi : i < l.length
    · rw [List.getElem?_append_left hi] at hu; exact hp i u hu
    · rw [List.getElem?_append_right (by omega)] at hu
      have : i - l.length = 0 := by
        rcases Nat.eq_zero_or_pos (i - l.length) with h0 | h0
        · exact h0
        · rw [List.getElem?_eq_none (by simp; omega)] at hu; cases hu
      rw [this] at hu
      simp at hu
      subst hu
      rw [show i = n by omega]
      exact hs
section
variable {H : Type} {enc : TypeId × Value → H} {W : World} {base : Nat}
/-- A row of bytes in a cell. -/
theorem open_bytes_cell {fuel : Nat} {v : Value} {x : DataW H × List MemPlace} (hf : DataW.trod enc Try.prog W 0 (fun _ => true) true fuel 25 [v] = some x) :
    ∃ l : List Nat, BytesV W W.heap.size v l ∧ (l = [] ∨ ∃ es sp, x.1 = .slice es sp ∧ es.length = l.length) := by
  rcases open_ints Try.underlying25 Try.underlying5 c5 hf with ⟨hcs, _⟩ | ⟨a, n0, k0, zs, hcs, _, hl, hm, hz, hx, hcell, hw⟩
  · simp at hcs
    subst hcs
    exact ⟨[], .inl ⟨.inl rfl, rfl⟩, .inl rfl⟩
  · simp at hcs
    subst hcs
    simp only [if_true] at hz
    have hbytes : ∀ i, i < zs.length → 0 ≤ zs.getD i 0 ∧ zs.getD i 0 ≤ 255 := fun i hi => wf8 _ (hw _ (by
      rw [List.getD_eq_getElem?_getD, List.getElem?_eq_getElem hi]; exact List.getElem_mem hi))
    let l := (List.range n0).map fun i => (zs.getD i 0).toNat
    have hll : l.length = n0 := by simp [l]
    refine ⟨l, ?_, .inr ⟨_, _, by rw [hx], by simp [lits, hll]; omega⟩⟩
    by_cases h0 : n0 = 0
    · subst h0
      exact .inl ⟨.inr ⟨a, k0, rfl⟩, List.eq_nil_of_length_eq_zero hll⟩
    · have hc0 := hcell 0 (by omega)
      have hsp : a.spot = none := by
        cases hsp : a.spot with
        | none => rfl
        | some s =>
          simp only [World.cell?, Addr.add, if_true] at hc0
          split at hc0
          · simp [hsp] at hc0
          · cases hc0
      obtain ⟨b, o, sp⟩ := a
      simp only at hsp
      subst hsp
      rw [show ((⟨b, o, none⟩ : Addr).add 0) = ⟨b, o, none⟩ from rfl] at hc0
      refine .inr ⟨b, o, k0, by rw [hll], ?_, ⟨fun i u hu => ?_, fun x hx => ?_⟩⟩
      · obtain ⟨ob, hob, _⟩ := cells_of_cell hc0
        exact (Array.getElem?_eq_some_iff.1 hob).1
      · have hi : i < n0 := by
          rcases Nat.lt_or_ge i n0 with hi | hi
          · exact hi
          · rw [List.getElem?_eq_none (by rw [u8L_len, hll]; exact hi)] at hu; cases hu
        rw [u8L_get l i (by rw [hll]; exact hi)] at hu
        cases hu
        have hc := hcell i (by omega)
        rw [add_plain] at hc
        rw [hc]
        have hb := hbytes i (by omega)
        have hg : l.getD i 0 = (zs.getD i 0).toNat := by
          simp only [l, List.getD_eq_getElem?_getD, List.getElem?_map, List.getElem?_range hi]; rfl
        rw [hg, Int.toNat_of_nonneg hb.1]
      · obtain ⟨i, hi, rfl⟩ := List.mem_map.1 hx
        have hb := hbytes i (by have := List.mem_range.1 hi; omega)
        omega
theorem weightsAll_mem {P : Program} {e : TypeId} {n : Nat} : ∀ {ds : List (DataW H)} {d : DataW H}, d ∈ ds → n ∈ d.weights P e → n ∈ DataW.weightsAll P e ds
  | [], _, h, _ => by cases h
  | x :: r, d, h, hn => by
    rw [DataW.weightsAll]
    rcases List.mem_cons.1 h with rfl | h
    · exact List.mem_append_left _ hn
    · exact List.mem_append_right _ (weightsAll_mem h hn)
theorem open_steps {v : Value} {d : DataW H} {p : List MemPlace} (hv : Value.okWide Try.prog W .any base 34 v) (h : DataW.Trod enc Try.prog W 0 (fun _ => true) true 34 v d p) (hsz : ∀ n ∈ d.weights Try.prog 34, n ≤ reachBytes) :
    ∃ (ss : List StepV) (a : Option Addr) (c : Nat), v = .slice a ss.length c ∧ (ss = [] ∨ ∃ b o, a = some ⟨b, o, none⟩ ∧ b < W.heap.size ∧ StepsAt W b o ss) ∧ ss.length ≤ maxLen := by
  obtain ⟨a0, n0, k0, rfl⟩ := okWide_slice Try.underlying34 hv
  obtain ⟨fuel, hf⟩ := h
  rcases Go.Deep.open_slice Try.underlying34 hf with ⟨hcs, _⟩ | ⟨a, len, cap, m, n, D, Pl, hcs, _, hl, hm, hmm, hx, hi⟩
  · simp [Value.cells] at hcs
    obtain ⟨rfl, rfl, rfl⟩ := hcs
    exact ⟨[], none, 0, rfl, .inl rfl, Nat.zero_le _⟩
  · simp [Value.cells] at hcs
    obtain ⟨rfl, rfl, rfl⟩ := hcs
    simp only [if_true] at hmm
    subst hmm
    rw [c36] at hi
    by_cases h0 : n0 = 0
    · subst h0
      exact ⟨[], some a, _, rfl, .inl rfl, Nat.zero_le _⟩
    -- the cells of a step
    have hcells : ∀ i, i < n0 → ∃ x0 x1 x2, W.cell? (a.add (i * 3)) = some x0 ∧ W.cell? ((a.add (i * 3)).add 1) = some x1 ∧ W.cell? ((a.add (i * 3)).add 2) = some x2 ∧ DataW.trod enc Try.prog W 0 (fun _ => true) true n 36 [x0, x1, x2] = some (D i, Pl i) := by
      intro i hin
      obtain ⟨cs', h1, h2⟩ := hi i (by omega)
      unfold World.cells? at h1
      rw [if_pos (Nat.zero_le _)] at h1
      rw [show List.range 3 = [0, 1, 2] from rfl] at h1
      simp only [List.mapM_cons, List.mapM_nil, bind, Option.bind_eq_some_iff, pure, Option.some.injEq] at h1
      obtain ⟨x0, e0, y, ⟨x1, e1, y', ⟨x2, e2, y'', rfl, rfl⟩, rfl⟩, rfl⟩ := h1
      exact ⟨x0, x1, x2, by simpa [Addr.add] using e0, e1, e2, h2⟩
    obtain ⟨x0, x1, x2, e0, _, _, _⟩ := hcells 0 (by omega)
    have hsp : a.spot = none := by
      rw [Nat.zero_mul] at e0
      cases hsp : a.spot with
      | none => rfl
      | some s =>
        simp only [World.cell?, Addr.add, if_true] at e0
        split at e0
        · simp [hsp] at e0
        · cases e0
    obtain ⟨b, o, sp⟩ := a
    simp only at hsp
    subst hsp
    have hb : b < W.heap.size := by
      obtain ⟨ob, hob, _⟩ := cells_of_cell e0
      rw [add_plain] at hob
      exact (Array.getElem?_eq_some_iff.1 hob).1
    have each : ∀ i, i < n0 → ∃ s : StepV, W.cell? ⟨b, o + i * 3, none⟩ = some s.v ∧ W.cell? ⟨b, o + i * 3 + 1, none⟩ = some (.bool s.set) ∧ W.cell? ⟨b, o + i * 3 + 2, none⟩ = some (.int .i64 s.most) ∧ BytesV W W.heap.size s.v s.l ∧ s.l.length ≤ 140737488351232 := by
      intro i hin
      obtain ⟨x0, x1, x2, e0, e1, e2, ht⟩ := hcells i hin
      rw [add_plain] at e0 e1 e2
      rw [add_plain] at e1 e2
      obtain ⟨xs, n', rfl, hDx, _, hlen, hfs⟩ := DataW.trod_struct Try.underlying36 ht
      have f0 : DataW.trod enc Try.prog W 0 (fun _ => true) true n' 25 [x0] = xs[0]? := by
        have h : DataW.trod enc Try.prog W 0 (fun _ => true) true n' 25 (([x0, x1, x2].drop 0).take (Try.prog.cellsOf 25)) = xs[0]? := hfs 0 _ rfl
        rw [c25] at h
        exact h
      have f1 : DataW.trod enc Try.prog W 0 (fun _ => true) true n' 4 [x1] = xs[1]? := by
        have h : DataW.trod enc Try.prog W 0 (fun _ => true) true n' 4 (([x0, x1, x2].drop 1).take (Try.prog.cellsOf 4)) = xs[1]? := hfs 1 _ rfl
        rw [c4] at h
        exact h
      have f2 : DataW.trod enc Try.prog W 0 (fun _ => true) true n' 3 [x2] = xs[2]? := by
        have h : DataW.trod enc Try.prog W 0 (fun _ => true) true n' 3 (([x0, x1, x2].drop 2).take (Try.prog.cellsOf 3)) = xs[2]? := hfs 2 _ rfl
        rw [c3] at h
        exact h
      have hlen : xs.length = 3 := hlen
      rw [List.getElem?_eq_getElem (by omega)] at f0 f1 f2
      obtain ⟨l, hbv, hlw⟩ := open_bytes_cell f0
      obtain ⟨t, ht1, _⟩ := DataW.trod_bool Try.underlying4 f1
      obtain ⟨z, hz1, _, _⟩ := DataW.trod_int Try.underlying3 f2
      simp only [List.cons.injEq, and_true] at ht1 hz1
      subst ht1
      subst hz1
      refine ⟨⟨x0, l, t, z⟩, e0, e1, e2, hbv, ?_⟩
      rcases hlw with rfl | ⟨es, spr, hes, hel⟩
      · simp
      · have hD : D i = .agg (xs.map (·.1)) := (Prod.mk.inj hDx).1
        obtain ⟨y0, y1, y2, hxs⟩ : ∃ y0 y1 y2, xs = [y0, y1, y2] := by
          match xs, hlen with
          | [y0, y1, y2], _ => exact ⟨y0, y1, y2, rfl⟩
        subst hxs
        simp only [List.getElem_cons_zero] at hes
        have hw1 : (es.length + spr.length) * 1 ∈ (D i).weights Try.prog 36 := by
          rw [hD]
          simp only [DataW.weights, Try.underlying36, List.map_cons, List.map_nil, DataW.weightsEach, List.mem_append]
          left
          rw [hes]
          simp only [DataW.weights, Try.underlying25, b5]
          exact List.mem_cons_self
        have hw2 : (es.length + spr.length) * 1 ∈ d.weights Try.prog 34 := by
          have hd : d = .slice ((List.range n0).map D) ((List.range (m - n0)).map fun j => D (n0 + j)) := by cases hx; rfl
          rw [hd]
          simp only [DataW.weights, Try.underlying34]
          exact List.mem_cons_of_mem _ (List.mem_append_left _ (weightsAll_mem (List.mem_map.2 ⟨i, List.mem_range.2 hin, rfl⟩) hw1))
        have := hsz _ hw2
        unfold reachBytes at this
        show l.length ≤ _
        omega
    obtain ⟨ss, hlss, hss⟩ := list_of n0 each
    subst hlss
    exact ⟨ss, _, _, rfl, .inr ⟨b, o, rfl, hb, hss⟩, by omega⟩
end
end Go.Proofs.Ytcnijcmddnacaaa.Chunk
