/-
  No cell of these rows narrows 'for every input' (looked for: loops, veiled, ifaces, maps, wideKeys, modest, calm, conditions, laid).
  DERIVED. THE GIVEN ROWS OF THIS SEAT. 10 by the template 'for every input the law returns true; each argument reads behind the call as it read before'; 0 by the template 'total and deterministic' (their statements: YtkhlcdmmhnmnoaaTotals.lean).
  GIVEN WITH THE SEED: the statements are not yours to turn. If you find one false, say at which input.
  Laid BY PROGRAM, IN A SANDBOX (cutbox-rows.mjs): the forced cells as the released guide's own fill.sh prints them over the translation 6d8f799c6d4a400a… (all of the seat's roots in one cut). By AI agents, Wed Nov 11 2026. No macro, syntax, notation, axiom, sorry.
-/
import Derived.Test.YtkhlcdmmhnmnoaaChecked
import GoSem.Claim
import GoSem.ClaimJoined
import GoSem.ClaimMapViews
import Derived.JoinedTies
import Derived.KernelRfl
namespace Go.Proofs.Ytkhlcdmmhnmnoaa
/- THE CELL 'sum', in the pinned program and in every row, IS THE sha256 OF THE DUMP (.gsa) THAT YtkhlcdmmhnmnoaaProg.lean LOADS. Nothing in Lean hashes anything: it is a label: what it is worth is what the hold of that sum in a sandbox is worth. -/
noncomputable def Try.pinned : Pinned := { name := "ytkhlcdmmhnmnoaa", sum := "6d8f799c6d4a400aaf561c439f2d0e0149e74687687809d9139893bd2c2a296a", checked := Try.checked }
namespace Rows
def none {H : Type} : Left H := { results := [], args := [] }

/-- 'pillarboxlaw01.SatCounts': WHATEVER THE INPUT: true; the input reads as it did. -/
def satCountsSpec : ChangeSpec := { name := "satCounts", fn := fun _ => fun
  | [d1, d2] => { results := [.lit (.bool true)], args := [d1, d2] }
  | _ => none }
def satCountsRow : OpenClaim := { program := "ytkhlcdmmhnmnoaa", sum := "6d8f799c6d4a400aaf561c439f2d0e0149e74687687809d9139893bd2c2a296a", func := "pillarbox/pillarboxlaw01.SatCounts", spec := "satCounts", apart := false }
def SatCountsSaid : Prop := satCountsRow.holds Try.pinned (OpenSpec.ofChange satCountsSpec)

/-- ITS FALSE NEIGHBOUR: 'it returns false'. Refute it at one input. -/
def satCountsWrong : ChangeSpec := { name := "satCounts", fn := fun _ => fun
  | [d1, d2] => { results := [.lit (.bool false)], args := [d1, d2] }
  | _ => none }
def SatCountsWrongFalsely : Prop := satCountsRow.holds Try.pinned (OpenSpec.ofChange satCountsWrong)

/-- 'pillarboxlaw01.SatOrders': WHATEVER THE INPUT: true; the input reads as it did. -/
def satOrdersSpec : ChangeSpec := { name := "satOrders", fn := fun _ => fun
  | [d1, d2, d3] => { results := [.lit (.bool true)], args := [d1, d2, d3] }
  | _ => none }
def satOrdersRow : OpenClaim := { program := "ytkhlcdmmhnmnoaa", sum := "6d8f799c6d4a400aaf561c439f2d0e0149e74687687809d9139893bd2c2a296a", func := "pillarbox/pillarboxlaw01.SatOrders", spec := "satOrders", apart := false }
def SatOrdersSaid : Prop := satOrdersRow.holds Try.pinned (OpenSpec.ofChange satOrdersSpec)

/-- ITS FALSE NEIGHBOUR: 'it returns false'. Refute it at one input. -/
def satOrdersWrong : ChangeSpec := { name := "satOrders", fn := fun _ => fun
  | [d1, d2, d3] => { results := [.lit (.bool false)], args := [d1, d2, d3] }
  | _ => none }
def SatOrdersWrongFalsely : Prop := satOrdersRow.holds Try.pinned (OpenSpec.ofChange satOrdersWrong)

/-- 'pillarboxlaw01.SatThree': WHATEVER THE INPUT: true; the input reads as it did. -/
def satThreeSpec : ChangeSpec := { name := "satThree", fn := fun _ => fun
  | [d1, d2, d3] => { results := [.lit (.bool true)], args := [d1, d2, d3] }
  | _ => none }
def satThreeRow : OpenClaim := { program := "ytkhlcdmmhnmnoaa", sum := "6d8f799c6d4a400aaf561c439f2d0e0149e74687687809d9139893bd2c2a296a", func := "pillarbox/pillarboxlaw01.SatThree", spec := "satThree", apart := false }
def SatThreeSaid : Prop := satThreeRow.holds Try.pinned (OpenSpec.ofChange satThreeSpec)

/-- ITS FALSE NEIGHBOUR: 'it returns false'. Refute it at one input. -/
def satThreeWrong : ChangeSpec := { name := "satThree", fn := fun _ => fun
  | [d1, d2, d3] => { results := [.lit (.bool false)], args := [d1, d2, d3] }
  | _ => none }
def SatThreeWrongFalsely : Prop := satThreeRow.holds Try.pinned (OpenSpec.ofChange satThreeWrong)

/-- 'pillarboxlaw01.SatExact': WHATEVER THE INPUT: true; the input reads as it did. -/
def satExactSpec : ChangeSpec := { name := "satExact", fn := fun _ => fun
  | [d1, d2] => { results := [.lit (.bool true)], args := [d1, d2] }
  | _ => none }
def satExactRow : OpenClaim := { program := "ytkhlcdmmhnmnoaa", sum := "6d8f799c6d4a400aaf561c439f2d0e0149e74687687809d9139893bd2c2a296a", func := "pillarbox/pillarboxlaw01.SatExact", spec := "satExact", apart := false }
def SatExactSaid : Prop := satExactRow.holds Try.pinned (OpenSpec.ofChange satExactSpec)

/-- ITS FALSE NEIGHBOUR: 'it returns false'. Refute it at one input. -/
def satExactWrong : ChangeSpec := { name := "satExact", fn := fun _ => fun
  | [d1, d2] => { results := [.lit (.bool false)], args := [d1, d2] }
  | _ => none }
def SatExactWrongFalsely : Prop := satExactRow.holds Try.pinned (OpenSpec.ofChange satExactWrong)

/-- 'pillarboxlaw18.BackPauses': WHATEVER THE INPUT: true; the input reads as it did. -/
def backPausesSpec : ChangeSpec := { name := "backPauses", fn := fun _ => fun
  | [d1, d2, d3, d4] => { results := [.lit (.bool true)], args := [d1, d2, d3, d4] }
  | _ => none }
def backPausesRow : OpenClaim := { program := "ytkhlcdmmhnmnoaa", sum := "6d8f799c6d4a400aaf561c439f2d0e0149e74687687809d9139893bd2c2a296a", func := "pillarbox/pillarboxlaw18.BackPauses", spec := "backPauses", apart := false }
def BackPausesSaid : Prop := backPausesRow.holds Try.pinned (OpenSpec.ofChange backPausesSpec)

/-- ITS FALSE NEIGHBOUR: 'it returns false'. Refute it at one input. -/
def backPausesWrong : ChangeSpec := { name := "backPauses", fn := fun _ => fun
  | [d1, d2, d3, d4] => { results := [.lit (.bool false)], args := [d1, d2, d3, d4] }
  | _ => none }
def BackPausesWrongFalsely : Prop := backPausesRow.holds Try.pinned (OpenSpec.ofChange backPausesWrong)

/-- 'pillarboxlaw18.BackGrows': WHATEVER THE INPUT: true; the input reads as it did. -/
def backGrowsSpec : ChangeSpec := { name := "backGrows", fn := fun _ => fun
  | [d1, d2, d3] => { results := [.lit (.bool true)], args := [d1, d2, d3] }
  | _ => none }
def backGrowsRow : OpenClaim := { program := "ytkhlcdmmhnmnoaa", sum := "6d8f799c6d4a400aaf561c439f2d0e0149e74687687809d9139893bd2c2a296a", func := "pillarbox/pillarboxlaw18.BackGrows", spec := "backGrows", apart := false }
def BackGrowsSaid : Prop := backGrowsRow.holds Try.pinned (OpenSpec.ofChange backGrowsSpec)

/-- ITS FALSE NEIGHBOUR: 'it returns false'. Refute it at one input. -/
def backGrowsWrong : ChangeSpec := { name := "backGrows", fn := fun _ => fun
  | [d1, d2, d3] => { results := [.lit (.bool false)], args := [d1, d2, d3] }
  | _ => none }
def BackGrowsWrongFalsely : Prop := backGrowsRow.holds Try.pinned (OpenSpec.ofChange backGrowsWrong)

/-- 'pillarboxlaw17.BucketPlays': WHATEVER THE INPUT: true; the input reads as it did. -/
def bucketPlaysSpec : ChangeSpec := { name := "bucketPlays", fn := fun _ => fun
  | [d1, d2, d3, d4, d5] => { results := [.lit (.bool true)], args := [d1, d2, d3, d4, d5] }
  | _ => none }
def bucketPlaysRow : OpenClaim := { program := "ytkhlcdmmhnmnoaa", sum := "6d8f799c6d4a400aaf561c439f2d0e0149e74687687809d9139893bd2c2a296a", func := "pillarbox/pillarboxlaw17.BucketPlays", spec := "bucketPlays", apart := false }
def BucketPlaysSaid : Prop := bucketPlaysRow.holds Try.pinned (OpenSpec.ofChange bucketPlaysSpec)

/-- ITS FALSE NEIGHBOUR: 'it returns false'. Refute it at one input. -/
def bucketPlaysWrong : ChangeSpec := { name := "bucketPlays", fn := fun _ => fun
  | [d1, d2, d3, d4, d5] => { results := [.lit (.bool false)], args := [d1, d2, d3, d4, d5] }
  | _ => none }
def BucketPlaysWrongFalsely : Prop := bucketPlaysRow.holds Try.pinned (OpenSpec.ofChange bucketPlaysWrong)

/-- 'pillarboxlaw17.BucketBound': WHATEVER THE INPUT: true; the input reads as it did. -/
def bucketBoundSpec : ChangeSpec := { name := "bucketBound", fn := fun _ => fun
  | [d1, d2, d3] => { results := [.lit (.bool true)], args := [d1, d2, d3] }
  | _ => none }
def bucketBoundRow : OpenClaim := { program := "ytkhlcdmmhnmnoaa", sum := "6d8f799c6d4a400aaf561c439f2d0e0149e74687687809d9139893bd2c2a296a", func := "pillarbox/pillarboxlaw17.BucketBound", spec := "bucketBound", apart := false }
def BucketBoundSaid : Prop := bucketBoundRow.holds Try.pinned (OpenSpec.ofChange bucketBoundSpec)

/-- ITS FALSE NEIGHBOUR: 'it returns false'. Refute it at one input. -/
def bucketBoundWrong : ChangeSpec := { name := "bucketBound", fn := fun _ => fun
  | [d1, d2, d3] => { results := [.lit (.bool false)], args := [d1, d2, d3] }
  | _ => none }
def BucketBoundWrongFalsely : Prop := bucketBoundRow.holds Try.pinned (OpenSpec.ofChange bucketBoundWrong)

/-- 'pillarboxlaw17.BucketNone': WHATEVER THE INPUT: true; the input reads as it did. -/
def bucketNoneSpec : ChangeSpec := { name := "bucketNone", fn := fun _ => fun
  | [d] => { results := [.lit (.bool true)], args := [d] }
  | _ => none }
def bucketNoneRow : OpenClaim := { program := "ytkhlcdmmhnmnoaa", sum := "6d8f799c6d4a400aaf561c439f2d0e0149e74687687809d9139893bd2c2a296a", func := "pillarbox/pillarboxlaw17.BucketNone", spec := "bucketNone", apart := false }
def BucketNoneSaid : Prop := bucketNoneRow.holds Try.pinned (OpenSpec.ofChange bucketNoneSpec)

/-- ITS FALSE NEIGHBOUR: 'it returns false'. Refute it at one input. -/
def bucketNoneWrong : ChangeSpec := { name := "bucketNone", fn := fun _ => fun
  | [d] => { results := [.lit (.bool false)], args := [d] }
  | _ => none }
def BucketNoneWrongFalsely : Prop := bucketNoneRow.holds Try.pinned (OpenSpec.ofChange bucketNoneWrong)

/-- 'pillarboxlaw17.BucketSame': WHATEVER THE INPUT: true; the input reads as it did. -/
def bucketSameSpec : ChangeSpec := { name := "bucketSame", fn := fun _ => fun
  | [d1, d2, d3, d4, d5] => { results := [.lit (.bool true)], args := [d1, d2, d3, d4, d5] }
  | _ => none }
def bucketSameRow : OpenClaim := { program := "ytkhlcdmmhnmnoaa", sum := "6d8f799c6d4a400aaf561c439f2d0e0149e74687687809d9139893bd2c2a296a", func := "pillarbox/pillarboxlaw17.BucketSame", spec := "bucketSame", apart := false }
def BucketSameSaid : Prop := bucketSameRow.holds Try.pinned (OpenSpec.ofChange bucketSameSpec)

/-- ITS FALSE NEIGHBOUR: 'it returns false'. Refute it at one input. -/
def bucketSameWrong : ChangeSpec := { name := "bucketSame", fn := fun _ => fun
  | [d1, d2, d3, d4, d5] => { results := [.lit (.bool false)], args := [d1, d2, d3, d4, d5] }
  | _ => none }
def BucketSameWrongFalsely : Prop := bucketSameRow.holds Try.pinned (OpenSpec.ofChange bucketSameWrong)

/- THE SECOND FORM. 'bulk': how many values and letters a reading holds, each counted each time it is reached (what is shared counts as often as it is met; a slice's spare places count too). A statement '..UptoSaid' is the law's where the arguments, and the package variables that the reading takes, are together of bulk at most 1048576: NARROWER than '..Said'. Prove '..Said' where nothing that the law and all that it calls make is longer than what came in: it says more and counts as full. Else prove '..UptoSaid'. A law counts once. -/
mutual
def uptoBulk {H : Type} : DataW H → Nat
  | .lit (.string bytes) => bytes.length + 1
  | .lit _ => 1
  | .nil => 1
  | .ptr d => uptoBulk d + 1
  | .slice elems spare => uptoBulkAll elems + uptoBulkAll spare + 1
  | .agg parts => uptoBulkAll parts + 1
  | .iface _ d => uptoBulk d + 1
  | .map entries => uptoBulkEntries entries + 1
  | .held _ => 1
def uptoBulkAll {H : Type} : List (DataW H) → Nat
  | [] => 0
  | d :: r => uptoBulk d + uptoBulkAll r
def uptoBulkEntries {H : Type} : List (Lit × DataW H) → Nat
  | [] => 0
  | x :: r => uptoBulkEntry x + uptoBulkEntries r
def uptoBulkEntry {H : Type} : Lit × DataW H → Nat
  | (.string bytes, d) => bytes.length + uptoBulk d + 1
  | (_, d) => uptoBulk d + 1
 end
def uptoSmall : (H : Type) → List (DataW H) → Bool := fun _ ds => decide (uptoBulkAll ds ≤ 1048576)
def OpenSpec.upto (s : _root_.Go.ChangeSpec) : _root_.Go.OpenSpec := { _root_.Go.OpenSpec.ofChange s with cond := some uptoSmall }

/-- 'pillarboxlaw01.SatCounts', WHERE WHAT IT READS IS OF BULK AT MOST 1048576: true; the input reads as it did. -/
def satCountsUptoRow : OpenClaim := { program := "ytkhlcdmmhnmnoaa", sum := "6d8f799c6d4a400aaf561c439f2d0e0149e74687687809d9139893bd2c2a296a", func := "pillarbox/pillarboxlaw01.SatCounts", spec := "satCounts", apart := false, narrowed := true }
def SatCountsUptoSaid : Prop := satCountsUptoRow.holds Try.pinned (OpenSpec.upto satCountsSpec)

/-- 'pillarboxlaw01.SatOrders', WHERE WHAT IT READS IS OF BULK AT MOST 1048576: true; the input reads as it did. -/
def satOrdersUptoRow : OpenClaim := { program := "ytkhlcdmmhnmnoaa", sum := "6d8f799c6d4a400aaf561c439f2d0e0149e74687687809d9139893bd2c2a296a", func := "pillarbox/pillarboxlaw01.SatOrders", spec := "satOrders", apart := false, narrowed := true }
def SatOrdersUptoSaid : Prop := satOrdersUptoRow.holds Try.pinned (OpenSpec.upto satOrdersSpec)

/-- 'pillarboxlaw01.SatThree', WHERE WHAT IT READS IS OF BULK AT MOST 1048576: true; the input reads as it did. -/
def satThreeUptoRow : OpenClaim := { program := "ytkhlcdmmhnmnoaa", sum := "6d8f799c6d4a400aaf561c439f2d0e0149e74687687809d9139893bd2c2a296a", func := "pillarbox/pillarboxlaw01.SatThree", spec := "satThree", apart := false, narrowed := true }
def SatThreeUptoSaid : Prop := satThreeUptoRow.holds Try.pinned (OpenSpec.upto satThreeSpec)

/-- 'pillarboxlaw01.SatExact', WHERE WHAT IT READS IS OF BULK AT MOST 1048576: true; the input reads as it did. -/
def satExactUptoRow : OpenClaim := { program := "ytkhlcdmmhnmnoaa", sum := "6d8f799c6d4a400aaf561c439f2d0e0149e74687687809d9139893bd2c2a296a", func := "pillarbox/pillarboxlaw01.SatExact", spec := "satExact", apart := false, narrowed := true }
def SatExactUptoSaid : Prop := satExactUptoRow.holds Try.pinned (OpenSpec.upto satExactSpec)

/-- 'pillarboxlaw18.BackPauses', WHERE WHAT IT READS IS OF BULK AT MOST 1048576: true; the input reads as it did. -/
def backPausesUptoRow : OpenClaim := { program := "ytkhlcdmmhnmnoaa", sum := "6d8f799c6d4a400aaf561c439f2d0e0149e74687687809d9139893bd2c2a296a", func := "pillarbox/pillarboxlaw18.BackPauses", spec := "backPauses", apart := false, narrowed := true }
def BackPausesUptoSaid : Prop := backPausesUptoRow.holds Try.pinned (OpenSpec.upto backPausesSpec)

/-- 'pillarboxlaw18.BackGrows', WHERE WHAT IT READS IS OF BULK AT MOST 1048576: true; the input reads as it did. -/
def backGrowsUptoRow : OpenClaim := { program := "ytkhlcdmmhnmnoaa", sum := "6d8f799c6d4a400aaf561c439f2d0e0149e74687687809d9139893bd2c2a296a", func := "pillarbox/pillarboxlaw18.BackGrows", spec := "backGrows", apart := false, narrowed := true }
def BackGrowsUptoSaid : Prop := backGrowsUptoRow.holds Try.pinned (OpenSpec.upto backGrowsSpec)

/-- 'pillarboxlaw17.BucketPlays', WHERE WHAT IT READS IS OF BULK AT MOST 1048576: true; the input reads as it did. -/
def bucketPlaysUptoRow : OpenClaim := { program := "ytkhlcdmmhnmnoaa", sum := "6d8f799c6d4a400aaf561c439f2d0e0149e74687687809d9139893bd2c2a296a", func := "pillarbox/pillarboxlaw17.BucketPlays", spec := "bucketPlays", apart := false, narrowed := true }
def BucketPlaysUptoSaid : Prop := bucketPlaysUptoRow.holds Try.pinned (OpenSpec.upto bucketPlaysSpec)

/-- 'pillarboxlaw17.BucketBound', WHERE WHAT IT READS IS OF BULK AT MOST 1048576: true; the input reads as it did. -/
def bucketBoundUptoRow : OpenClaim := { program := "ytkhlcdmmhnmnoaa", sum := "6d8f799c6d4a400aaf561c439f2d0e0149e74687687809d9139893bd2c2a296a", func := "pillarbox/pillarboxlaw17.BucketBound", spec := "bucketBound", apart := false, narrowed := true }
def BucketBoundUptoSaid : Prop := bucketBoundUptoRow.holds Try.pinned (OpenSpec.upto bucketBoundSpec)

/-- 'pillarboxlaw17.BucketNone', WHERE WHAT IT READS IS OF BULK AT MOST 1048576: true; the input reads as it did. -/
def bucketNoneUptoRow : OpenClaim := { program := "ytkhlcdmmhnmnoaa", sum := "6d8f799c6d4a400aaf561c439f2d0e0149e74687687809d9139893bd2c2a296a", func := "pillarbox/pillarboxlaw17.BucketNone", spec := "bucketNone", apart := false, narrowed := true }
def BucketNoneUptoSaid : Prop := bucketNoneUptoRow.holds Try.pinned (OpenSpec.upto bucketNoneSpec)

/-- 'pillarboxlaw17.BucketSame', WHERE WHAT IT READS IS OF BULK AT MOST 1048576: true; the input reads as it did. -/
def bucketSameUptoRow : OpenClaim := { program := "ytkhlcdmmhnmnoaa", sum := "6d8f799c6d4a400aaf561c439f2d0e0149e74687687809d9139893bd2c2a296a", func := "pillarbox/pillarboxlaw17.BucketSame", spec := "bucketSame", apart := false, narrowed := true }
def BucketSameUptoSaid : Prop := bucketSameUptoRow.holds Try.pinned (OpenSpec.upto bucketSameSpec)

end Rows
end Go.Proofs.Ytkhlcdmmhnmnoaa
