/-
  No cell of these rows narrows 'for every input' (looked for: loops, veiled, ifaces, maps, wideKeys, modest, calm, conditions, laid).
  DERIVED. THE GIVEN ROWS OF THIS SEAT. 11 by the template 'for every input the law returns true; each argument reads behind the call as it read before'; 0 by the template 'total and deterministic' (their statements: YtihndplkkpglcaaTotals.lean).
  GIVEN WITH THE SEED: the statements are not yours to turn. If you find one false, say at which input.
  Laid BY PROGRAM, IN A SANDBOX (cutbox-rows.mjs): the forced cells as the released guide's own fill.sh prints them over the translation b4b0b529e05757ff… (all of the seat's roots in one cut). By AI agents, Wed Nov 11 2026. No macro, syntax, notation, axiom, sorry.
-/
import Derived.Test.YtihndplkkpglcaaChecked
import GoSem.Claim
import GoSem.ClaimJoined
import GoSem.ClaimMapViews
import Derived.JoinedTies
import Derived.KernelRfl
namespace Go.Proofs.Ytihndplkkpglcaa
/- THE CELL 'sum', in the pinned program and in every row, IS THE sha256 OF THE DUMP (.gsa) THAT YtihndplkkpglcaaProg.lean LOADS. Nothing in Lean hashes anything: it is a label: what it is worth is what the hold of that sum in a sandbox is worth. -/
noncomputable def Try.pinned : Pinned := { name := "ytihndplkkpglcaa", sum := "b4b0b529e05757ff4875ca3f86af2162c2c8576f9e2c87211f2daee105b75fec", checked := Try.checked }
namespace Rows
def none {H : Type} : Left H := { results := [], args := [] }

/-- 'pillarboxlaw19.WindowPlays': WHATEVER THE INPUT: true; the input reads as it did. -/
def windowPlaysSpec : ChangeSpec := { name := "windowPlays", fn := fun _ => fun
  | [d1, d2] => { results := [.lit (.bool true)], args := [d1, d2] }
  | _ => none }
def windowPlaysRow : OpenClaim := { program := "ytihndplkkpglcaa", sum := "b4b0b529e05757ff4875ca3f86af2162c2c8576f9e2c87211f2daee105b75fec", func := "pillarbox/pillarboxlaw19.WindowPlays", spec := "windowPlays", apart := false }
def WindowPlaysSaid : Prop := windowPlaysRow.holds Try.pinned (OpenSpec.ofChange windowPlaysSpec)

/-- ITS FALSE NEIGHBOUR: 'it returns false'. Refute it at one input. -/
def windowPlaysWrong : ChangeSpec := { name := "windowPlays", fn := fun _ => fun
  | [d1, d2] => { results := [.lit (.bool false)], args := [d1, d2] }
  | _ => none }
def WindowPlaysWrongFalsely : Prop := windowPlaysRow.holds Try.pinned (OpenSpec.ofChange windowPlaysWrong)

/-- 'pillarboxlaw19.WindowBound': WHATEVER THE INPUT: true; the input reads as it did. -/
def windowBoundSpec : ChangeSpec := { name := "windowBound", fn := fun _ => fun
  | [d1, d2] => { results := [.lit (.bool true)], args := [d1, d2] }
  | _ => none }
def windowBoundRow : OpenClaim := { program := "ytihndplkkpglcaa", sum := "b4b0b529e05757ff4875ca3f86af2162c2c8576f9e2c87211f2daee105b75fec", func := "pillarbox/pillarboxlaw19.WindowBound", spec := "windowBound", apart := false }
def WindowBoundSaid : Prop := windowBoundRow.holds Try.pinned (OpenSpec.ofChange windowBoundSpec)

/-- ITS FALSE NEIGHBOUR: 'it returns false'. Refute it at one input. -/
def windowBoundWrong : ChangeSpec := { name := "windowBound", fn := fun _ => fun
  | [d1, d2] => { results := [.lit (.bool false)], args := [d1, d2] }
  | _ => none }
def WindowBoundWrongFalsely : Prop := windowBoundRow.holds Try.pinned (OpenSpec.ofChange windowBoundWrong)

/-- 'pillarboxlaw19.WindowNone': WHATEVER THE INPUT: true; the input reads as it did. -/
def windowNoneSpec : ChangeSpec := { name := "windowNone", fn := fun _ => fun
  | [d] => { results := [.lit (.bool true)], args := [d] }
  | _ => none }
def windowNoneRow : OpenClaim := { program := "ytihndplkkpglcaa", sum := "b4b0b529e05757ff4875ca3f86af2162c2c8576f9e2c87211f2daee105b75fec", func := "pillarbox/pillarboxlaw19.WindowNone", spec := "windowNone", apart := false }
def WindowNoneSaid : Prop := windowNoneRow.holds Try.pinned (OpenSpec.ofChange windowNoneSpec)

/-- ITS FALSE NEIGHBOUR: 'it returns false'. Refute it at one input. -/
def windowNoneWrong : ChangeSpec := { name := "windowNone", fn := fun _ => fun
  | [d] => { results := [.lit (.bool false)], args := [d] }
  | _ => none }
def WindowNoneWrongFalsely : Prop := windowNoneRow.holds Try.pinned (OpenSpec.ofChange windowNoneWrong)

/-- 'pillarboxlaw19.WindowGrows': WHATEVER THE INPUT: true; the input reads as it did. -/
def windowGrowsSpec : ChangeSpec := { name := "windowGrows", fn := fun _ => fun
  | [d1, d2] => { results := [.lit (.bool true)], args := [d1, d2] }
  | _ => none }
def windowGrowsRow : OpenClaim := { program := "ytihndplkkpglcaa", sum := "b4b0b529e05757ff4875ca3f86af2162c2c8576f9e2c87211f2daee105b75fec", func := "pillarbox/pillarboxlaw19.WindowGrows", spec := "windowGrows", apart := false }
def WindowGrowsSaid : Prop := windowGrowsRow.holds Try.pinned (OpenSpec.ofChange windowGrowsSpec)

/-- ITS FALSE NEIGHBOUR: 'it returns false'. Refute it at one input. -/
def windowGrowsWrong : ChangeSpec := { name := "windowGrows", fn := fun _ => fun
  | [d1, d2] => { results := [.lit (.bool false)], args := [d1, d2] }
  | _ => none }
def WindowGrowsWrongFalsely : Prop := windowGrowsRow.holds Try.pinned (OpenSpec.ofChange windowGrowsWrong)

/-- 'pillarboxlaw16.PipeRuns': WHATEVER THE INPUT: true; the input reads as it did. -/
def pipeRunsSpec : ChangeSpec := { name := "pipeRuns", fn := fun _ => fun
  | [d] => { results := [.lit (.bool true)], args := [d] }
  | _ => none }
def pipeRunsRow : OpenClaim := { program := "ytihndplkkpglcaa", sum := "b4b0b529e05757ff4875ca3f86af2162c2c8576f9e2c87211f2daee105b75fec", func := "pillarbox/pillarboxlaw16.PipeRuns", spec := "pipeRuns", apart := false }
def PipeRunsSaid : Prop := pipeRunsRow.holds Try.pinned (OpenSpec.ofChange pipeRunsSpec)

/-- ITS FALSE NEIGHBOUR: 'it returns false'. Refute it at one input. -/
def pipeRunsWrong : ChangeSpec := { name := "pipeRuns", fn := fun _ => fun
  | [d] => { results := [.lit (.bool false)], args := [d] }
  | _ => none }
def PipeRunsWrongFalsely : Prop := pipeRunsRow.holds Try.pinned (OpenSpec.ofChange pipeRunsWrong)

/-- 'pillarboxlaw16.PipeKinds': WHATEVER THE INPUT: true; the input reads as it did. -/
def pipeKindsSpec : ChangeSpec := { name := "pipeKinds", fn := fun _ => fun
  | [d1, d2, d3] => { results := [.lit (.bool true)], args := [d1, d2, d3] }
  | _ => none }
def pipeKindsRow : OpenClaim := { program := "ytihndplkkpglcaa", sum := "b4b0b529e05757ff4875ca3f86af2162c2c8576f9e2c87211f2daee105b75fec", func := "pillarbox/pillarboxlaw16.PipeKinds", spec := "pipeKinds", apart := false }
def PipeKindsSaid : Prop := pipeKindsRow.holds Try.pinned (OpenSpec.ofChange pipeKindsSpec)

/-- ITS FALSE NEIGHBOUR: 'it returns false'. Refute it at one input. -/
def pipeKindsWrong : ChangeSpec := { name := "pipeKinds", fn := fun _ => fun
  | [d1, d2, d3] => { results := [.lit (.bool false)], args := [d1, d2, d3] }
  | _ => none }
def PipeKindsWrongFalsely : Prop := pipeKindsRow.holds Try.pinned (OpenSpec.ofChange pipeKindsWrong)

/-- 'pillarboxlaw03.WordWrites': WHATEVER THE INPUT: true; the input reads as it did. -/
def wordWritesSpec : ChangeSpec := { name := "wordWrites", fn := fun _ => fun
  | [d] => { results := [.lit (.bool true)], args := [d] }
  | _ => none }
def wordWritesRow : OpenClaim := { program := "ytihndplkkpglcaa", sum := "b4b0b529e05757ff4875ca3f86af2162c2c8576f9e2c87211f2daee105b75fec", func := "pillarbox/pillarboxlaw03.WordWrites", spec := "wordWrites", apart := false }
def WordWritesSaid : Prop := wordWritesRow.holds Try.pinned (OpenSpec.ofChange wordWritesSpec)

/-- ITS FALSE NEIGHBOUR: 'it returns false'. Refute it at one input. -/
def wordWritesWrong : ChangeSpec := { name := "wordWrites", fn := fun _ => fun
  | [d] => { results := [.lit (.bool false)], args := [d] }
  | _ => none }
def WordWritesWrongFalsely : Prop := wordWritesRow.holds Try.pinned (OpenSpec.ofChange wordWritesWrong)

/-- 'pillarboxlaw03.WordReads': WHATEVER THE INPUT: true; the input reads as it did. -/
def wordReadsSpec : ChangeSpec := { name := "wordReads", fn := fun _ => fun
  | [d1, d2] => { results := [.lit (.bool true)], args := [d1, d2] }
  | _ => none }
def wordReadsRow : OpenClaim := { program := "ytihndplkkpglcaa", sum := "b4b0b529e05757ff4875ca3f86af2162c2c8576f9e2c87211f2daee105b75fec", func := "pillarbox/pillarboxlaw03.WordReads", spec := "wordReads", apart := false }
def WordReadsSaid : Prop := wordReadsRow.holds Try.pinned (OpenSpec.ofChange wordReadsSpec)

/-- ITS FALSE NEIGHBOUR: 'it returns false'. Refute it at one input. -/
def wordReadsWrong : ChangeSpec := { name := "wordReads", fn := fun _ => fun
  | [d1, d2] => { results := [.lit (.bool false)], args := [d1, d2] }
  | _ => none }
def WordReadsWrongFalsely : Prop := wordReadsRow.holds Try.pinned (OpenSpec.ofChange wordReadsWrong)

/-- 'pillarboxlaw03.WordBack': WHATEVER THE INPUT: true; the input reads as it did. -/
def wordBackSpec : ChangeSpec := { name := "wordBack", fn := fun _ => fun
  | [d] => { results := [.lit (.bool true)], args := [d] }
  | _ => none }
def wordBackRow : OpenClaim := { program := "ytihndplkkpglcaa", sum := "b4b0b529e05757ff4875ca3f86af2162c2c8576f9e2c87211f2daee105b75fec", func := "pillarbox/pillarboxlaw03.WordBack", spec := "wordBack", apart := false }
def WordBackSaid : Prop := wordBackRow.holds Try.pinned (OpenSpec.ofChange wordBackSpec)

/-- ITS FALSE NEIGHBOUR: 'it returns false'. Refute it at one input. -/
def wordBackWrong : ChangeSpec := { name := "wordBack", fn := fun _ => fun
  | [d] => { results := [.lit (.bool false)], args := [d] }
  | _ => none }
def WordBackWrongFalsely : Prop := wordBackRow.holds Try.pinned (OpenSpec.ofChange wordBackWrong)

/-- 'pillarboxlaw03.WordOwn': WHATEVER THE INPUT: true; the input reads as it did. -/
def wordOwnSpec : ChangeSpec := { name := "wordOwn", fn := fun _ => fun
  | [d1, d2] => { results := [.lit (.bool true)], args := [d1, d2] }
  | _ => none }
def wordOwnRow : OpenClaim := { program := "ytihndplkkpglcaa", sum := "b4b0b529e05757ff4875ca3f86af2162c2c8576f9e2c87211f2daee105b75fec", func := "pillarbox/pillarboxlaw03.WordOwn", spec := "wordOwn", apart := false }
def WordOwnSaid : Prop := wordOwnRow.holds Try.pinned (OpenSpec.ofChange wordOwnSpec)

/-- ITS FALSE NEIGHBOUR: 'it returns false'. Refute it at one input. -/
def wordOwnWrong : ChangeSpec := { name := "wordOwn", fn := fun _ => fun
  | [d1, d2] => { results := [.lit (.bool false)], args := [d1, d2] }
  | _ => none }
def WordOwnWrongFalsely : Prop := wordOwnRow.holds Try.pinned (OpenSpec.ofChange wordOwnWrong)

/-- 'pillarboxlaw03.WordCut': WHATEVER THE INPUT: true; the input reads as it did. -/
def wordCutSpec : ChangeSpec := { name := "wordCut", fn := fun _ => fun
  | [d1, d2, d3] => { results := [.lit (.bool true)], args := [d1, d2, d3] }
  | _ => none }
def wordCutRow : OpenClaim := { program := "ytihndplkkpglcaa", sum := "b4b0b529e05757ff4875ca3f86af2162c2c8576f9e2c87211f2daee105b75fec", func := "pillarbox/pillarboxlaw03.WordCut", spec := "wordCut", apart := false }
def WordCutSaid : Prop := wordCutRow.holds Try.pinned (OpenSpec.ofChange wordCutSpec)

/-- ITS FALSE NEIGHBOUR: 'it returns false'. Refute it at one input. -/
def wordCutWrong : ChangeSpec := { name := "wordCut", fn := fun _ => fun
  | [d1, d2, d3] => { results := [.lit (.bool false)], args := [d1, d2, d3] }
  | _ => none }
def WordCutWrongFalsely : Prop := wordCutRow.holds Try.pinned (OpenSpec.ofChange wordCutWrong)

/- THE SECOND FORM. 'bulk': how many values and letters a reading holds, each counted each time it is reached (what is shared counts as often as it is met; a slice's spare places count too). A statement '..UptoSaid' is the law's where the arguments, and the package variables that the reading takes, are together of bulk at most 1048576: NARROWER than '..Said'. Prove '..Said' where nothing that the law and all that it calls make is longer than what came in: it says more and counts as full. Else prove '..UptoSaid'. A law counts once. -/
mutual
def uptoBulk {H : Type} : DataW H → Nat
  | .lit (.string bytes) => bytes.length + 1
  | .lit _ => 1
  | .nil => 1
  | .ptr d => uptoBulk d + 1
  | .slice elems spare => uptoBulkAll elems + uptoBulkAll spare + 1
  | .agg parts => uptoBulkAll parts + 1
  | .iface _ d => uptoBulk d + 1
  | .map entries => uptoBulkEntries entries + 1
  | .held _ => 1
def uptoBulkAll {H : Type} : List (DataW H) → Nat
  | [] => 0
  | d :: r => uptoBulk d + uptoBulkAll r
def uptoBulkEntries {H : Type} : List (Lit × DataW H) → Nat
  | [] => 0
  | x :: r => uptoBulkEntry x + uptoBulkEntries r
def uptoBulkEntry {H : Type} : Lit × DataW H → Nat
  | (.string bytes, d) => bytes.length + uptoBulk d + 1
  | (_, d) => uptoBulk d + 1
 end
def uptoSmall : (H : Type) → List (DataW H) → Bool := fun _ ds => decide (uptoBulkAll ds ≤ 1048576)
def OpenSpec.upto (s : _root_.Go.ChangeSpec) : _root_.Go.OpenSpec := { _root_.Go.OpenSpec.ofChange s with cond := some uptoSmall }

/-- 'pillarboxlaw19.WindowPlays', WHERE WHAT IT READS IS OF BULK AT MOST 1048576: true; the input reads as it did. -/
def windowPlaysUptoRow : OpenClaim := { program := "ytihndplkkpglcaa", sum := "b4b0b529e05757ff4875ca3f86af2162c2c8576f9e2c87211f2daee105b75fec", func := "pillarbox/pillarboxlaw19.WindowPlays", spec := "windowPlays", apart := false, narrowed := true }
def WindowPlaysUptoSaid : Prop := windowPlaysUptoRow.holds Try.pinned (OpenSpec.upto windowPlaysSpec)

/-- 'pillarboxlaw19.WindowBound', WHERE WHAT IT READS IS OF BULK AT MOST 1048576: true; the input reads as it did. -/
def windowBoundUptoRow : OpenClaim := { program := "ytihndplkkpglcaa", sum := "b4b0b529e05757ff4875ca3f86af2162c2c8576f9e2c87211f2daee105b75fec", func := "pillarbox/pillarboxlaw19.WindowBound", spec := "windowBound", apart := false, narrowed := true }
def WindowBoundUptoSaid : Prop := windowBoundUptoRow.holds Try.pinned (OpenSpec.upto windowBoundSpec)

/-- 'pillarboxlaw19.WindowNone', WHERE WHAT IT READS IS OF BULK AT MOST 1048576: true; the input reads as it did. -/
def windowNoneUptoRow : OpenClaim := { program := "ytihndplkkpglcaa", sum := "b4b0b529e05757ff4875ca3f86af2162c2c8576f9e2c87211f2daee105b75fec", func := "pillarbox/pillarboxlaw19.WindowNone", spec := "windowNone", apart := false, narrowed := true }
def WindowNoneUptoSaid : Prop := windowNoneUptoRow.holds Try.pinned (OpenSpec.upto windowNoneSpec)

/-- 'pillarboxlaw19.WindowGrows', WHERE WHAT IT READS IS OF BULK AT MOST 1048576: true; the input reads as it did. -/
def windowGrowsUptoRow : OpenClaim := { program := "ytihndplkkpglcaa", sum := "b4b0b529e05757ff4875ca3f86af2162c2c8576f9e2c87211f2daee105b75fec", func := "pillarbox/pillarboxlaw19.WindowGrows", spec := "windowGrows", apart := false, narrowed := true }
def WindowGrowsUptoSaid : Prop := windowGrowsUptoRow.holds Try.pinned (OpenSpec.upto windowGrowsSpec)

/-- 'pillarboxlaw16.PipeRuns', WHERE WHAT IT READS IS OF BULK AT MOST 1048576: true; the input reads as it did. -/
def pipeRunsUptoRow : OpenClaim := { program := "ytihndplkkpglcaa", sum := "b4b0b529e05757ff4875ca3f86af2162c2c8576f9e2c87211f2daee105b75fec", func := "pillarbox/pillarboxlaw16.PipeRuns", spec := "pipeRuns", apart := false, narrowed := true }
def PipeRunsUptoSaid : Prop := pipeRunsUptoRow.holds Try.pinned (OpenSpec.upto pipeRunsSpec)

/-- 'pillarboxlaw16.PipeKinds', WHERE WHAT IT READS IS OF BULK AT MOST 1048576: true; the input reads as it did. -/
def pipeKindsUptoRow : OpenClaim := { program := "ytihndplkkpglcaa", sum := "b4b0b529e05757ff4875ca3f86af2162c2c8576f9e2c87211f2daee105b75fec", func := "pillarbox/pillarboxlaw16.PipeKinds", spec := "pipeKinds", apart := false, narrowed := true }
def PipeKindsUptoSaid : Prop := pipeKindsUptoRow.holds Try.pinned (OpenSpec.upto pipeKindsSpec)

/-- 'pillarboxlaw03.WordWrites', WHERE WHAT IT READS IS OF BULK AT MOST 1048576: true; the input reads as it did. -/
def wordWritesUptoRow : OpenClaim := { program := "ytihndplkkpglcaa", sum := "b4b0b529e05757ff4875ca3f86af2162c2c8576f9e2c87211f2daee105b75fec", func := "pillarbox/pillarboxlaw03.WordWrites", spec := "wordWrites", apart := false, narrowed := true }
def WordWritesUptoSaid : Prop := wordWritesUptoRow.holds Try.pinned (OpenSpec.upto wordWritesSpec)

/-- 'pillarboxlaw03.WordReads', WHERE WHAT IT READS IS OF BULK AT MOST 1048576: true; the input reads as it did. -/
def wordReadsUptoRow : OpenClaim := { program := "ytihndplkkpglcaa", sum := "b4b0b529e05757ff4875ca3f86af2162c2c8576f9e2c87211f2daee105b75fec", func := "pillarbox/pillarboxlaw03.WordReads", spec := "wordReads", apart := false, narrowed := true }
def WordReadsUptoSaid : Prop := wordReadsUptoRow.holds Try.pinned (OpenSpec.upto wordReadsSpec)

/-- 'pillarboxlaw03.WordBack', WHERE WHAT IT READS IS OF BULK AT MOST 1048576: true; the input reads as it did. -/
def wordBackUptoRow : OpenClaim := { program := "ytihndplkkpglcaa", sum := "b4b0b529e05757ff4875ca3f86af2162c2c8576f9e2c87211f2daee105b75fec", func := "pillarbox/pillarboxlaw03.WordBack", spec := "wordBack", apart := false, narrowed := true }
def WordBackUptoSaid : Prop := wordBackUptoRow.holds Try.pinned (OpenSpec.upto wordBackSpec)

/-- 'pillarboxlaw03.WordOwn', WHERE WHAT IT READS IS OF BULK AT MOST 1048576: true; the input reads as it did. -/
def wordOwnUptoRow : OpenClaim := { program := "ytihndplkkpglcaa", sum := "b4b0b529e05757ff4875ca3f86af2162c2c8576f9e2c87211f2daee105b75fec", func := "pillarbox/pillarboxlaw03.WordOwn", spec := "wordOwn", apart := false, narrowed := true }
def WordOwnUptoSaid : Prop := wordOwnUptoRow.holds Try.pinned (OpenSpec.upto wordOwnSpec)

/-- 'pillarboxlaw03.WordCut', WHERE WHAT IT READS IS OF BULK AT MOST 1048576: true; the input reads as it did. -/
def wordCutUptoRow : OpenClaim := { program := "ytihndplkkpglcaa", sum := "b4b0b529e05757ff4875ca3f86af2162c2c8576f9e2c87211f2daee105b75fec", func := "pillarbox/pillarboxlaw03.WordCut", spec := "wordCut", apart := false, narrowed := true }
def WordCutUptoSaid : Prop := wordCutUptoRow.holds Try.pinned (OpenSpec.upto wordCutSpec)

end Rows
end Go.Proofs.Ytihndplkkpglcaa
