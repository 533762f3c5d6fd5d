/-
  No cell of these rows narrows 'for every input' (looked for: loops, veiled, ifaces, maps, wideKeys, modest, calm, conditions, laid).
  DERIVED. THE GIVEN ROWS OF THIS SEAT. 5 by the template 'for every input the law returns true; each argument reads behind the call as it read before'; 0 by the template 'total and deterministic' (their statements: YtcnijcmddnacaaaTotals.lean).
  GIVEN WITH THE SEED: the statements are not yours to turn. If you find one false, say at which input.
  Laid BY PROGRAM, IN A SANDBOX (cutbox-rows.mjs): the forced cells as the released guide's own fill.sh prints them over the translation 6d05baed90f79571… (all of the seat's roots in one cut). By AI agents, Wed Nov 11 2026. No macro, syntax, notation, axiom, sorry.
-/
import Derived.Test.YtcnijcmddnacaaaChecked
import GoSem.Claim
import GoSem.ClaimJoined
import GoSem.ClaimMapViews
import Derived.JoinedTies
import Derived.KernelRfl
namespace Go.Proofs.Ytcnijcmddnacaaa
/- THE CELL 'sum', in the pinned program and in every row, IS THE sha256 OF THE DUMP (.gsa) THAT YtcnijcmddnacaaaProg.lean LOADS. Nothing in Lean hashes anything: it is a label: what it is worth is what the hold of that sum in a sandbox is worth. -/
noncomputable def Try.pinned : Pinned := { name := "ytcnijcmddnacaaa", sum := "6d05baed90f7957187e9198b9b56cd47bd505b852a54da3e09e5f1f7e33401f8", checked := Try.checked }
namespace Rows
def none {H : Type} : Left H := { results := [], args := [] }

/-- 'oubliettelaw03.AesBoxes': WHATEVER THE INPUT: true; the input reads as it did. -/
def aesBoxesSpec : ChangeSpec := { name := "aesBoxes", fn := fun _ => fun
  | [d1, d2] => { results := [.lit (.bool true)], args := [d1, d2] }
  | _ => none }
def aesBoxesRow : OpenClaim := { program := "ytcnijcmddnacaaa", sum := "6d05baed90f7957187e9198b9b56cd47bd505b852a54da3e09e5f1f7e33401f8", func := "oubliette/oubliettelaw03.AesBoxes", spec := "aesBoxes", apart := false }
def AesBoxesSaid : Prop := aesBoxesRow.holds Try.pinned (OpenSpec.ofChange aesBoxesSpec)

/-- ITS FALSE NEIGHBOUR: 'it returns false'. Refute it at one input. -/
def aesBoxesWrong : ChangeSpec := { name := "aesBoxes", fn := fun _ => fun
  | [d1, d2] => { results := [.lit (.bool false)], args := [d1, d2] }
  | _ => none }
def AesBoxesWrongFalsely : Prop := aesBoxesRow.holds Try.pinned (OpenSpec.ofChange aesBoxesWrong)

/-- 'oubliettelaw19.ChunkCuts': WHATEVER THE INPUT: true; the input reads as it did. -/
def chunkCutsSpec : ChangeSpec := { name := "chunkCuts", fn := fun _ => fun
  | [d1, d2, d3] => { results := [.lit (.bool true)], args := [d1, d2, d3] }
  | _ => none }
def chunkCutsRow : OpenClaim := { program := "ytcnijcmddnacaaa", sum := "6d05baed90f7957187e9198b9b56cd47bd505b852a54da3e09e5f1f7e33401f8", func := "oubliette/oubliettelaw19.ChunkCuts", spec := "chunkCuts", unfollowed := true, recurses := true, apart := false }
def ChunkCutsSaid : Prop := chunkCutsRow.holds Try.pinned (OpenSpec.ofChange chunkCutsSpec)

/-- ITS FALSE NEIGHBOUR: 'it returns false'. Refute it at one input. -/
def chunkCutsWrong : ChangeSpec := { name := "chunkCuts", fn := fun _ => fun
  | [d1, d2, d3] => { results := [.lit (.bool false)], args := [d1, d2, d3] }
  | _ => none }
def ChunkCutsWrongFalsely : Prop := chunkCutsRow.holds Try.pinned (OpenSpec.ofChange chunkCutsWrong)

/-- 'oubliettelaw19.ChunkPlays': WHATEVER THE INPUT: true; the input reads as it did. -/
def chunkPlaysSpec : ChangeSpec := { name := "chunkPlays", fn := fun _ => fun
  | [d1, d2] => { results := [.lit (.bool true)], args := [d1, d2] }
  | _ => none }
def chunkPlaysRow : OpenClaim := { program := "ytcnijcmddnacaaa", sum := "6d05baed90f7957187e9198b9b56cd47bd505b852a54da3e09e5f1f7e33401f8", func := "oubliette/oubliettelaw19.ChunkPlays", spec := "chunkPlays", unfollowed := true, recurses := true, apart := false }
def ChunkPlaysSaid : Prop := chunkPlaysRow.holds Try.pinned (OpenSpec.ofChange chunkPlaysSpec)

/-- ITS FALSE NEIGHBOUR: 'it returns false'. Refute it at one input. -/
def chunkPlaysWrong : ChangeSpec := { name := "chunkPlays", fn := fun _ => fun
  | [d1, d2] => { results := [.lit (.bool false)], args := [d1, d2] }
  | _ => none }
def ChunkPlaysWrongFalsely : Prop := chunkPlaysRow.holds Try.pinned (OpenSpec.ofChange chunkPlaysWrong)

/-- 'oubliettelaw19.ChunkNext': WHATEVER THE INPUT: true; the input reads as it did. -/
def chunkNextSpec : ChangeSpec := { name := "chunkNext", fn := fun _ => fun
  | [d1, d2, d3] => { results := [.lit (.bool true)], args := [d1, d2, d3] }
  | _ => none }
def chunkNextRow : OpenClaim := { program := "ytcnijcmddnacaaa", sum := "6d05baed90f7957187e9198b9b56cd47bd505b852a54da3e09e5f1f7e33401f8", func := "oubliette/oubliettelaw19.ChunkNext", spec := "chunkNext", unfollowed := true, recurses := true, apart := false }
def ChunkNextSaid : Prop := chunkNextRow.holds Try.pinned (OpenSpec.ofChange chunkNextSpec)

/-- ITS FALSE NEIGHBOUR: 'it returns false'. Refute it at one input. -/
def chunkNextWrong : ChangeSpec := { name := "chunkNext", fn := fun _ => fun
  | [d1, d2, d3] => { results := [.lit (.bool false)], args := [d1, d2, d3] }
  | _ => none }
def ChunkNextWrongFalsely : Prop := chunkNextRow.holds Try.pinned (OpenSpec.ofChange chunkNextWrong)

/-- 'oubliettelaw19.ChunkOver': WHATEVER THE INPUT: true; the input reads as it did. -/
def chunkOverSpec : ChangeSpec := { name := "chunkOver", fn := fun _ => fun
  | [d1, d2, d3] => { results := [.lit (.bool true)], args := [d1, d2, d3] }
  | _ => none }
def chunkOverRow : OpenClaim := { program := "ytcnijcmddnacaaa", sum := "6d05baed90f7957187e9198b9b56cd47bd505b852a54da3e09e5f1f7e33401f8", func := "oubliette/oubliettelaw19.ChunkOver", spec := "chunkOver", unfollowed := true, recurses := true, apart := false }
def ChunkOverSaid : Prop := chunkOverRow.holds Try.pinned (OpenSpec.ofChange chunkOverSpec)

/-- ITS FALSE NEIGHBOUR: 'it returns false'. Refute it at one input. -/
def chunkOverWrong : ChangeSpec := { name := "chunkOver", fn := fun _ => fun
  | [d1, d2, d3] => { results := [.lit (.bool false)], args := [d1, d2, d3] }
  | _ => none }
def ChunkOverWrongFalsely : Prop := chunkOverRow.holds Try.pinned (OpenSpec.ofChange chunkOverWrong)

/- THE SECOND FORM. 'bulk': how many values and letters a reading holds, each counted each time it is reached (what is shared counts as often as it is met; a slice's spare places count too). A statement '..UptoSaid' is the law's where the arguments, and the package variables that the reading takes, are together of bulk at most 1048576: NARROWER than '..Said'. Prove '..Said' where nothing that the law and all that it calls make is longer than what came in: it says more and counts as full. Else prove '..UptoSaid'. A law counts once. -/
mutual
def uptoBulk {H : Type} : DataW H → Nat
  | .lit (.string bytes) => bytes.length + 1
  | .lit _ => 1
  | .nil => 1
  | .ptr d => uptoBulk d + 1
  | .slice elems spare => uptoBulkAll elems + uptoBulkAll spare + 1
  | .agg parts => uptoBulkAll parts + 1
  | .iface _ d => uptoBulk d + 1
  | .map entries => uptoBulkEntries entries + 1
  | .held _ => 1
def uptoBulkAll {H : Type} : List (DataW H) → Nat
  | [] => 0
  | d :: r => uptoBulk d + uptoBulkAll r
def uptoBulkEntries {H : Type} : List (Lit × DataW H) → Nat
  | [] => 0
  | x :: r => uptoBulkEntry x + uptoBulkEntries r
def uptoBulkEntry {H : Type} : Lit × DataW H → Nat
  | (.string bytes, d) => bytes.length + uptoBulk d + 1
  | (_, d) => uptoBulk d + 1
 end
def uptoSmall : (H : Type) → List (DataW H) → Bool := fun _ ds => decide (uptoBulkAll ds ≤ 1048576)
def OpenSpec.upto (s : _root_.Go.ChangeSpec) : _root_.Go.OpenSpec := { _root_.Go.OpenSpec.ofChange s with cond := some uptoSmall }

/-- 'oubliettelaw03.AesBoxes', WHERE WHAT IT READS IS OF BULK AT MOST 1048576: true; the input reads as it did. -/
def aesBoxesUptoRow : OpenClaim := { program := "ytcnijcmddnacaaa", sum := "6d05baed90f7957187e9198b9b56cd47bd505b852a54da3e09e5f1f7e33401f8", func := "oubliette/oubliettelaw03.AesBoxes", spec := "aesBoxes", apart := false, narrowed := true }
def AesBoxesUptoSaid : Prop := aesBoxesUptoRow.holds Try.pinned (OpenSpec.upto aesBoxesSpec)

/-- 'oubliettelaw19.ChunkCuts', WHERE WHAT IT READS IS OF BULK AT MOST 1048576: true; the input reads as it did. -/
def chunkCutsUptoRow : OpenClaim := { program := "ytcnijcmddnacaaa", sum := "6d05baed90f7957187e9198b9b56cd47bd505b852a54da3e09e5f1f7e33401f8", func := "oubliette/oubliettelaw19.ChunkCuts", spec := "chunkCuts", unfollowed := true, recurses := true, apart := false, narrowed := true }
def ChunkCutsUptoSaid : Prop := chunkCutsUptoRow.holds Try.pinned (OpenSpec.upto chunkCutsSpec)

/-- 'oubliettelaw19.ChunkPlays', WHERE WHAT IT READS IS OF BULK AT MOST 1048576: true; the input reads as it did. -/
def chunkPlaysUptoRow : OpenClaim := { program := "ytcnijcmddnacaaa", sum := "6d05baed90f7957187e9198b9b56cd47bd505b852a54da3e09e5f1f7e33401f8", func := "oubliette/oubliettelaw19.ChunkPlays", spec := "chunkPlays", unfollowed := true, recurses := true, apart := false, narrowed := true }
def ChunkPlaysUptoSaid : Prop := chunkPlaysUptoRow.holds Try.pinned (OpenSpec.upto chunkPlaysSpec)

/-- 'oubliettelaw19.ChunkNext', WHERE WHAT IT READS IS OF BULK AT MOST 1048576: true; the input reads as it did. -/
def chunkNextUptoRow : OpenClaim := { program := "ytcnijcmddnacaaa", sum := "6d05baed90f7957187e9198b9b56cd47bd505b852a54da3e09e5f1f7e33401f8", func := "oubliette/oubliettelaw19.ChunkNext", spec := "chunkNext", unfollowed := true, recurses := true, apart := false, narrowed := true }
def ChunkNextUptoSaid : Prop := chunkNextUptoRow.holds Try.pinned (OpenSpec.upto chunkNextSpec)

/-- 'oubliettelaw19.ChunkOver', WHERE WHAT IT READS IS OF BULK AT MOST 1048576: true; the input reads as it did. -/
def chunkOverUptoRow : OpenClaim := { program := "ytcnijcmddnacaaa", sum := "6d05baed90f7957187e9198b9b56cd47bd505b852a54da3e09e5f1f7e33401f8", func := "oubliette/oubliettelaw19.ChunkOver", spec := "chunkOver", unfollowed := true, recurses := true, apart := false, narrowed := true }
def ChunkOverUptoSaid : Prop := chunkOverUptoRow.holds Try.pinned (OpenSpec.upto chunkOverSpec)

end Rows
end Go.Proofs.Ytcnijcmddnacaaa
