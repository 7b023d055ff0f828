/-
  No cell of these rows narrows 'for every input' (looked for: loops, veiled, ifaces, maps, wideKeys, modest, calm, conditions, laid).
  DERIVED. THE GIVEN ROWS OF THIS SEAT. 10 by the template 'for every input the law returns true; each argument reads behind the call as it read before'; 0 by the template 'total and deterministic' (their statements: YtbiahndpfbmoeaaTotals.lean).
  GIVEN WITH THE SEED: the statements are not yours to turn. If you find one false, say at which input.
  Laid BY PROGRAM, IN A SANDBOX (cutbox-rows.mjs): the forced cells as the released guide's own fill.sh prints them over the translation ad95e745e3263e80… (all of the seat's roots in one cut). By AI agents, Wed Nov 11 2026. No macro, syntax, notation, axiom, sorry.
-/
import Derived.Test.YtbiahndpfbmoeaaChecked
import GoSem.Claim
import GoSem.ClaimJoined
import GoSem.ClaimMapViews
import Derived.JoinedTies
import Derived.KernelRfl
namespace Go.Proofs.Ytbiahndpfbmoeaa
/- THE CELL 'sum', in the pinned program and in every row, IS THE sha256 OF THE DUMP (.gsa) THAT YtbiahndpfbmoeaaProg.lean LOADS. Nothing in Lean hashes anything: it is a label: what it is worth is what the hold of that sum in a sandbox is worth. -/
noncomputable def Try.pinned : Pinned := { name := "ytbiahndpfbmoeaa", sum := "ad95e745e3263e80b1db1f827b643c66611cdc65b0d0de59f2297195076994aa", checked := Try.checked }
namespace Rows
def none {H : Type} : Left H := { results := [], args := [] }

/-- 'pillarboxlaw21.RingPlays': WHATEVER THE INPUT: true; the input reads as it did. -/
def ringPlaysSpec : ChangeSpec := { name := "ringPlays", fn := fun _ => fun
  | [d] => { results := [.lit (.bool true)], args := [d] }
  | _ => none }
def ringPlaysRow : OpenClaim := { program := "ytbiahndpfbmoeaa", sum := "ad95e745e3263e80b1db1f827b643c66611cdc65b0d0de59f2297195076994aa", func := "pillarbox/pillarboxlaw21.RingPlays", spec := "ringPlays", unfollowed := true, recurses := true, plainKeys := false, apart := false }
def RingPlaysSaid : Prop := ringPlaysRow.holds Try.pinned (OpenSpec.ofChange ringPlaysSpec)

/-- ITS FALSE NEIGHBOUR: 'it returns false'. Refute it at one input. -/
def ringPlaysWrong : ChangeSpec := { name := "ringPlays", fn := fun _ => fun
  | [d] => { results := [.lit (.bool false)], args := [d] }
  | _ => none }
def RingPlaysWrongFalsely : Prop := ringPlaysRow.holds Try.pinned (OpenSpec.ofChange ringPlaysWrong)

/-- 'pillarboxlaw21.RingFair': WHATEVER THE INPUT: true; the input reads as it did. -/
def ringFairSpec : ChangeSpec := { name := "ringFair", fn := fun _ => fun
  | [d1, d2, d3] => { results := [.lit (.bool true)], args := [d1, d2, d3] }
  | _ => none }
def ringFairRow : OpenClaim := { program := "ytbiahndpfbmoeaa", sum := "ad95e745e3263e80b1db1f827b643c66611cdc65b0d0de59f2297195076994aa", func := "pillarbox/pillarboxlaw21.RingFair", spec := "ringFair", unfollowed := true, recurses := true, plainKeys := false, apart := false }
def RingFairSaid : Prop := ringFairRow.holds Try.pinned (OpenSpec.ofChange ringFairSpec)

/-- ITS FALSE NEIGHBOUR: 'it returns false'. Refute it at one input. -/
def ringFairWrong : ChangeSpec := { name := "ringFair", fn := fun _ => fun
  | [d1, d2, d3] => { results := [.lit (.bool false)], args := [d1, d2, d3] }
  | _ => none }
def RingFairWrongFalsely : Prop := ringFairRow.holds Try.pinned (OpenSpec.ofChange ringFairWrong)

/-- 'pillarboxlaw21.RingWaits': WHATEVER THE INPUT: true; the input reads as it did. -/
def ringWaitsSpec : ChangeSpec := { name := "ringWaits", fn := fun _ => fun
  | [d1, d2, d3] => { results := [.lit (.bool true)], args := [d1, d2, d3] }
  | _ => none }
def ringWaitsRow : OpenClaim := { program := "ytbiahndpfbmoeaa", sum := "ad95e745e3263e80b1db1f827b643c66611cdc65b0d0de59f2297195076994aa", func := "pillarbox/pillarboxlaw21.RingWaits", spec := "ringWaits", unfollowed := true, recurses := true, plainKeys := false, apart := false }
def RingWaitsSaid : Prop := ringWaitsRow.holds Try.pinned (OpenSpec.ofChange ringWaitsSpec)

/-- ITS FALSE NEIGHBOUR: 'it returns false'. Refute it at one input. -/
def ringWaitsWrong : ChangeSpec := { name := "ringWaits", fn := fun _ => fun
  | [d1, d2, d3] => { results := [.lit (.bool false)], args := [d1, d2, d3] }
  | _ => none }
def RingWaitsWrongFalsely : Prop := ringWaitsRow.holds Try.pinned (OpenSpec.ofChange ringWaitsWrong)

/-- 'pillarboxlaw21.RingNone': WHATEVER THE INPUT: true; the input reads as it did. -/
def ringNoneSpec : ChangeSpec := { name := "ringNone", fn := fun _ => fun
  | [d1, d2] => { results := [.lit (.bool true)], args := [d1, d2] }
  | _ => none }
def ringNoneRow : OpenClaim := { program := "ytbiahndpfbmoeaa", sum := "ad95e745e3263e80b1db1f827b643c66611cdc65b0d0de59f2297195076994aa", func := "pillarbox/pillarboxlaw21.RingNone", spec := "ringNone", unfollowed := true, recurses := true, plainKeys := false, apart := false }
def RingNoneSaid : Prop := ringNoneRow.holds Try.pinned (OpenSpec.ofChange ringNoneSpec)

/-- ITS FALSE NEIGHBOUR: 'it returns false'. Refute it at one input. -/
def ringNoneWrong : ChangeSpec := { name := "ringNone", fn := fun _ => fun
  | [d1, d2] => { results := [.lit (.bool false)], args := [d1, d2] }
  | _ => none }
def RingNoneWrongFalsely : Prop := ringNoneRow.holds Try.pinned (OpenSpec.ofChange ringNoneWrong)

/-- 'pillarboxlaw21.RingOnce': WHATEVER THE INPUT: true; the input reads as it did. -/
def ringOnceSpec : ChangeSpec := { name := "ringOnce", fn := fun _ => fun
  | [d] => { results := [.lit (.bool true)], args := [d] }
  | _ => none }
def ringOnceRow : OpenClaim := { program := "ytbiahndpfbmoeaa", sum := "ad95e745e3263e80b1db1f827b643c66611cdc65b0d0de59f2297195076994aa", func := "pillarbox/pillarboxlaw21.RingOnce", spec := "ringOnce", unfollowed := true, recurses := true, plainKeys := false, apart := false }
def RingOnceSaid : Prop := ringOnceRow.holds Try.pinned (OpenSpec.ofChange ringOnceSpec)

/-- ITS FALSE NEIGHBOUR: 'it returns false'. Refute it at one input. -/
def ringOnceWrong : ChangeSpec := { name := "ringOnce", fn := fun _ => fun
  | [d] => { results := [.lit (.bool false)], args := [d] }
  | _ => none }
def RingOnceWrongFalsely : Prop := ringOnceRow.holds Try.pinned (OpenSpec.ofChange ringOnceWrong)

/-- 'pillarboxlaw22.SchedPlays': WHATEVER THE INPUT: true; the input reads as it did. -/
def schedPlaysSpec : ChangeSpec := { name := "schedPlays", fn := fun _ => fun
  | [d1, d2] => { results := [.lit (.bool true)], args := [d1, d2] }
  | _ => none }
def schedPlaysRow : OpenClaim := { program := "ytbiahndpfbmoeaa", sum := "ad95e745e3263e80b1db1f827b643c66611cdc65b0d0de59f2297195076994aa", func := "pillarbox/pillarboxlaw22.SchedPlays", spec := "schedPlays", unfollowed := true, recurses := true, plainKeys := false, apart := false }
def SchedPlaysSaid : Prop := schedPlaysRow.holds Try.pinned (OpenSpec.ofChange schedPlaysSpec)

/-- ITS FALSE NEIGHBOUR: 'it returns false'. Refute it at one input. -/
def schedPlaysWrong : ChangeSpec := { name := "schedPlays", fn := fun _ => fun
  | [d1, d2] => { results := [.lit (.bool false)], args := [d1, d2] }
  | _ => none }
def SchedPlaysWrongFalsely : Prop := schedPlaysRow.holds Try.pinned (OpenSpec.ofChange schedPlaysWrong)

/-- 'pillarboxlaw22.SchedNone': WHATEVER THE INPUT: true; the input reads as it did. -/
def schedNoneSpec : ChangeSpec := { name := "schedNone", fn := fun _ => fun
  | [d] => { results := [.lit (.bool true)], args := [d] }
  | _ => none }
def schedNoneRow : OpenClaim := { program := "ytbiahndpfbmoeaa", sum := "ad95e745e3263e80b1db1f827b643c66611cdc65b0d0de59f2297195076994aa", func := "pillarbox/pillarboxlaw22.SchedNone", spec := "schedNone", unfollowed := true, recurses := true, plainKeys := false, apart := false }
def SchedNoneSaid : Prop := schedNoneRow.holds Try.pinned (OpenSpec.ofChange schedNoneSpec)

/-- ITS FALSE NEIGHBOUR: 'it returns false'. Refute it at one input. -/
def schedNoneWrong : ChangeSpec := { name := "schedNone", fn := fun _ => fun
  | [d] => { results := [.lit (.bool false)], args := [d] }
  | _ => none }
def SchedNoneWrongFalsely : Prop := schedNoneRow.holds Try.pinned (OpenSpec.ofChange schedNoneWrong)

/-- 'pillarboxlaw22.SchedFair': WHATEVER THE INPUT: true; the input reads as it did. -/
def schedFairSpec : ChangeSpec := { name := "schedFair", fn := fun _ => fun
  | [d1, d2, d3, d4] => { results := [.lit (.bool true)], args := [d1, d2, d3, d4] }
  | _ => none }
def schedFairRow : OpenClaim := { program := "ytbiahndpfbmoeaa", sum := "ad95e745e3263e80b1db1f827b643c66611cdc65b0d0de59f2297195076994aa", func := "pillarbox/pillarboxlaw22.SchedFair", spec := "schedFair", unfollowed := true, recurses := true, plainKeys := false, apart := false }
def SchedFairSaid : Prop := schedFairRow.holds Try.pinned (OpenSpec.ofChange schedFairSpec)

/-- ITS FALSE NEIGHBOUR: 'it returns false'. Refute it at one input. -/
def schedFairWrong : ChangeSpec := { name := "schedFair", fn := fun _ => fun
  | [d1, d2, d3, d4] => { results := [.lit (.bool false)], args := [d1, d2, d3, d4] }
  | _ => none }
def SchedFairWrongFalsely : Prop := schedFairRow.holds Try.pinned (OpenSpec.ofChange schedFairWrong)

/-- 'pillarboxlaw22.SchedOrder': WHATEVER THE INPUT: true; the input reads as it did. -/
def schedOrderSpec : ChangeSpec := { name := "schedOrder", fn := fun _ => fun
  | [d1, d2] => { results := [.lit (.bool true)], args := [d1, d2] }
  | _ => none }
def schedOrderRow : OpenClaim := { program := "ytbiahndpfbmoeaa", sum := "ad95e745e3263e80b1db1f827b643c66611cdc65b0d0de59f2297195076994aa", func := "pillarbox/pillarboxlaw22.SchedOrder", spec := "schedOrder", unfollowed := true, recurses := true, plainKeys := false, apart := false }
def SchedOrderSaid : Prop := schedOrderRow.holds Try.pinned (OpenSpec.ofChange schedOrderSpec)

/-- ITS FALSE NEIGHBOUR: 'it returns false'. Refute it at one input. -/
def schedOrderWrong : ChangeSpec := { name := "schedOrder", fn := fun _ => fun
  | [d1, d2] => { results := [.lit (.bool false)], args := [d1, d2] }
  | _ => none }
def SchedOrderWrongFalsely : Prop := schedOrderRow.holds Try.pinned (OpenSpec.ofChange schedOrderWrong)

/-- 'pillarboxlaw22.SchedBounds': WHATEVER THE INPUT: true; the input reads as it did. -/
def schedBoundsSpec : ChangeSpec := { name := "schedBounds", fn := fun _ => fun
  | [d1, d2, d3] => { results := [.lit (.bool true)], args := [d1, d2, d3] }
  | _ => none }
def schedBoundsRow : OpenClaim := { program := "ytbiahndpfbmoeaa", sum := "ad95e745e3263e80b1db1f827b643c66611cdc65b0d0de59f2297195076994aa", func := "pillarbox/pillarboxlaw22.SchedBounds", spec := "schedBounds", unfollowed := true, recurses := true, plainKeys := false, apart := false }
def SchedBoundsSaid : Prop := schedBoundsRow.holds Try.pinned (OpenSpec.ofChange schedBoundsSpec)

/-- ITS FALSE NEIGHBOUR: 'it returns false'. Refute it at one input. -/
def schedBoundsWrong : ChangeSpec := { name := "schedBounds", fn := fun _ => fun
  | [d1, d2, d3] => { results := [.lit (.bool false)], args := [d1, d2, d3] }
  | _ => none }
def SchedBoundsWrongFalsely : Prop := schedBoundsRow.holds Try.pinned (OpenSpec.ofChange schedBoundsWrong)

/- THE SECOND FORM. 'bulk': how many values and letters a reading holds, each counted each time it is reached (what is shared counts as often as it is met; a slice's spare places count too). A statement '..UptoSaid' is the law's where the arguments, and the package variables that the reading takes, are together of bulk at most 1048576: NARROWER than '..Said'. Prove '..Said' where nothing that the law and all that it calls make is longer than what came in: it says more and counts as full. Else prove '..UptoSaid'. A law counts once. -/
mutual
def uptoBulk {H : Type} : DataW H → Nat
  | .lit (.string bytes) => bytes.length + 1
  | .lit _ => 1
  | .nil => 1
  | .ptr d => uptoBulk d + 1
  | .slice elems spare => uptoBulkAll elems + uptoBulkAll spare + 1
  | .agg parts => uptoBulkAll parts + 1
  | .iface _ d => uptoBulk d + 1
  | .map entries => uptoBulkEntries entries + 1
  | .held _ => 1
def uptoBulkAll {H : Type} : List (DataW H) → Nat
  | [] => 0
  | d :: r => uptoBulk d + uptoBulkAll r
def uptoBulkEntries {H : Type} : List (Lit × DataW H) → Nat
  | [] => 0
  | x :: r => uptoBulkEntry x + uptoBulkEntries r
def uptoBulkEntry {H : Type} : Lit × DataW H → Nat
  | (.string bytes, d) => bytes.length + uptoBulk d + 1
  | (_, d) => uptoBulk d + 1
 end
def uptoSmall : (H : Type) → List (DataW H) → Bool := fun _ ds => decide (uptoBulkAll ds ≤ 1048576)
def OpenSpec.upto (s : _root_.Go.ChangeSpec) : _root_.Go.OpenSpec := { _root_.Go.OpenSpec.ofChange s with cond := some uptoSmall }

/-- 'pillarboxlaw21.RingPlays', WHERE WHAT IT READS IS OF BULK AT MOST 1048576: true; the input reads as it did. -/
def ringPlaysUptoRow : OpenClaim := { program := "ytbiahndpfbmoeaa", sum := "ad95e745e3263e80b1db1f827b643c66611cdc65b0d0de59f2297195076994aa", func := "pillarbox/pillarboxlaw21.RingPlays", spec := "ringPlays", unfollowed := true, recurses := true, plainKeys := false, apart := false, narrowed := true }
def RingPlaysUptoSaid : Prop := ringPlaysUptoRow.holds Try.pinned (OpenSpec.upto ringPlaysSpec)

/-- 'pillarboxlaw21.RingFair', WHERE WHAT IT READS IS OF BULK AT MOST 1048576: true; the input reads as it did. -/
def ringFairUptoRow : OpenClaim := { program := "ytbiahndpfbmoeaa", sum := "ad95e745e3263e80b1db1f827b643c66611cdc65b0d0de59f2297195076994aa", func := "pillarbox/pillarboxlaw21.RingFair", spec := "ringFair", unfollowed := true, recurses := true, plainKeys := false, apart := false, narrowed := true }
def RingFairUptoSaid : Prop := ringFairUptoRow.holds Try.pinned (OpenSpec.upto ringFairSpec)

/-- 'pillarboxlaw21.RingWaits', WHERE WHAT IT READS IS OF BULK AT MOST 1048576: true; the input reads as it did. -/
def ringWaitsUptoRow : OpenClaim := { program := "ytbiahndpfbmoeaa", sum := "ad95e745e3263e80b1db1f827b643c66611cdc65b0d0de59f2297195076994aa", func := "pillarbox/pillarboxlaw21.RingWaits", spec := "ringWaits", unfollowed := true, recurses := true, plainKeys := false, apart := false, narrowed := true }
def RingWaitsUptoSaid : Prop := ringWaitsUptoRow.holds Try.pinned (OpenSpec.upto ringWaitsSpec)

/-- 'pillarboxlaw21.RingNone', WHERE WHAT IT READS IS OF BULK AT MOST 1048576: true; the input reads as it did. -/
def ringNoneUptoRow : OpenClaim := { program := "ytbiahndpfbmoeaa", sum := "ad95e745e3263e80b1db1f827b643c66611cdc65b0d0de59f2297195076994aa", func := "pillarbox/pillarboxlaw21.RingNone", spec := "ringNone", unfollowed := true, recurses := true, plainKeys := false, apart := false, narrowed := true }
def RingNoneUptoSaid : Prop := ringNoneUptoRow.holds Try.pinned (OpenSpec.upto ringNoneSpec)

/-- 'pillarboxlaw21.RingOnce', WHERE WHAT IT READS IS OF BULK AT MOST 1048576: true; the input reads as it did. -/
def ringOnceUptoRow : OpenClaim := { program := "ytbiahndpfbmoeaa", sum := "ad95e745e3263e80b1db1f827b643c66611cdc65b0d0de59f2297195076994aa", func := "pillarbox/pillarboxlaw21.RingOnce", spec := "ringOnce", unfollowed := true, recurses := true, plainKeys := false, apart := false, narrowed := true }
def RingOnceUptoSaid : Prop := ringOnceUptoRow.holds Try.pinned (OpenSpec.upto ringOnceSpec)

/-- 'pillarboxlaw22.SchedPlays', WHERE WHAT IT READS IS OF BULK AT MOST 1048576: true; the input reads as it did. -/
def schedPlaysUptoRow : OpenClaim := { program := "ytbiahndpfbmoeaa", sum := "ad95e745e3263e80b1db1f827b643c66611cdc65b0d0de59f2297195076994aa", func := "pillarbox/pillarboxlaw22.SchedPlays", spec := "schedPlays", unfollowed := true, recurses := true, plainKeys := false, apart := false, narrowed := true }
def SchedPlaysUptoSaid : Prop := schedPlaysUptoRow.holds Try.pinned (OpenSpec.upto schedPlaysSpec)

/-- 'pillarboxlaw22.SchedNone', WHERE WHAT IT READS IS OF BULK AT MOST 1048576: true; the input reads as it did. -/
def schedNoneUptoRow : OpenClaim := { program := "ytbiahndpfbmoeaa", sum := "ad95e745e3263e80b1db1f827b643c66611cdc65b0d0de59f2297195076994aa", func := "pillarbox/pillarboxlaw22.SchedNone", spec := "schedNone", unfollowed := true, recurses := true, plainKeys := false, apart := false, narrowed := true }
def SchedNoneUptoSaid : Prop := schedNoneUptoRow.holds Try.pinned (OpenSpec.upto schedNoneSpec)

/-- 'pillarboxlaw22.SchedFair', WHERE WHAT IT READS IS OF BULK AT MOST 1048576: true; the input reads as it did. -/
def schedFairUptoRow : OpenClaim := { program := "ytbiahndpfbmoeaa", sum := "ad95e745e3263e80b1db1f827b643c66611cdc65b0d0de59f2297195076994aa", func := "pillarbox/pillarboxlaw22.SchedFair", spec := "schedFair", unfollowed := true, recurses := true, plainKeys := false, apart := false, narrowed := true }
def SchedFairUptoSaid : Prop := schedFairUptoRow.holds Try.pinned (OpenSpec.upto schedFairSpec)

/-- 'pillarboxlaw22.SchedOrder', WHERE WHAT IT READS IS OF BULK AT MOST 1048576: true; the input reads as it did. -/
def schedOrderUptoRow : OpenClaim := { program := "ytbiahndpfbmoeaa", sum := "ad95e745e3263e80b1db1f827b643c66611cdc65b0d0de59f2297195076994aa", func := "pillarbox/pillarboxlaw22.SchedOrder", spec := "schedOrder", unfollowed := true, recurses := true, plainKeys := false, apart := false, narrowed := true }
def SchedOrderUptoSaid : Prop := schedOrderUptoRow.holds Try.pinned (OpenSpec.upto schedOrderSpec)

/-- 'pillarboxlaw22.SchedBounds', WHERE WHAT IT READS IS OF BULK AT MOST 1048576: true; the input reads as it did. -/
def schedBoundsUptoRow : OpenClaim := { program := "ytbiahndpfbmoeaa", sum := "ad95e745e3263e80b1db1f827b643c66611cdc65b0d0de59f2297195076994aa", func := "pillarbox/pillarboxlaw22.SchedBounds", spec := "schedBounds", unfollowed := true, recurses := true, plainKeys := false, apart := false, narrowed := true }
def SchedBoundsUptoSaid : Prop := schedBoundsUptoRow.holds Try.pinned (OpenSpec.upto schedBoundsSpec)

end Rows
end Go.Proofs.Ytbiahndpfbmoeaa
