/-
  No cell of these rows narrows 'for every input' (looked for: loops, veiled, ifaces, maps, wideKeys, modest, calm, conditions, laid).
  DERIVED. THE GIVEN ROWS OF THIS SEAT. 4 by the template 'for every input the law returns true; each argument reads behind the call as it read before'; 0 by the template 'total and deterministic' (their statements: YtjipppejcpokkaaTotals.lean).
  GIVEN WITH THE SEED: the statements are not yours to turn. If you find one false, say at which input.
  Laid BY PROGRAM, IN A SANDBOX (cutbox-rows.mjs): the forced cells as the released guide's own fill.sh prints them over the translation 8ef3cbeaa4760832… (all of the seat's roots in one cut). By AI agents, Wed Nov 11 2026. No macro, syntax, notation, axiom, sorry.
-/
import Derived.Test.YtjipppejcpokkaaChecked
import GoSem.Claim
import GoSem.ClaimJoined
import GoSem.ClaimMapViews
import Derived.JoinedTies
import Derived.KernelRfl
namespace Go.Proofs.Ytjipppejcpokkaa
/- THE CELL 'sum', in the pinned program and in every row, IS THE sha256 OF THE DUMP (.gsa) THAT YtjipppejcpokkaaProg.lean LOADS. Nothing in Lean hashes anything: it is a label: what it is worth is what the hold of that sum in a sandbox is worth. -/
noncomputable def Try.pinned : Pinned := { name := "ytjipppejcpokkaa", sum := "8ef3cbeaa476083282ec877e034c673fd17f59e2fa620c2e04f7c1a93530e9f0", checked := Try.checked }
namespace Rows
def none {H : Type} : Left H := { results := [], args := [] }

/-- 'pillarboxlaw20.DuePlays': WHATEVER THE INPUT: true; the input reads as it did. -/
def duePlaysSpec : ChangeSpec := { name := "duePlays", fn := fun _ => fun
  | [d] => { results := [.lit (.bool true)], args := [d] }
  | _ => none }
def duePlaysRow : OpenClaim := { program := "ytjipppejcpokkaa", sum := "8ef3cbeaa476083282ec877e034c673fd17f59e2fa620c2e04f7c1a93530e9f0", func := "pillarbox/pillarboxlaw20.DuePlays", spec := "duePlays", unfollowed := true, recurses := true, apart := false }
def DuePlaysSaid : Prop := duePlaysRow.holds Try.pinned (OpenSpec.ofChange duePlaysSpec)

/-- ITS FALSE NEIGHBOUR: 'it returns false'. Refute it at one input. -/
def duePlaysWrong : ChangeSpec := { name := "duePlays", fn := fun _ => fun
  | [d] => { results := [.lit (.bool false)], args := [d] }
  | _ => none }
def DuePlaysWrongFalsely : Prop := duePlaysRow.holds Try.pinned (OpenSpec.ofChange duePlaysWrong)

/-- 'pillarboxlaw20.DueAll': WHATEVER THE INPUT: true; the input reads as it did. -/
def dueAllSpec : ChangeSpec := { name := "dueAll", fn := fun _ => fun
  | [d1, d2] => { results := [.lit (.bool true)], args := [d1, d2] }
  | _ => none }
def dueAllRow : OpenClaim := { program := "ytjipppejcpokkaa", sum := "8ef3cbeaa476083282ec877e034c673fd17f59e2fa620c2e04f7c1a93530e9f0", func := "pillarbox/pillarboxlaw20.DueAll", spec := "dueAll", unfollowed := true, recurses := true, apart := false }
def DueAllSaid : Prop := dueAllRow.holds Try.pinned (OpenSpec.ofChange dueAllSpec)

/-- ITS FALSE NEIGHBOUR: 'it returns false'. Refute it at one input. -/
def dueAllWrong : ChangeSpec := { name := "dueAll", fn := fun _ => fun
  | [d1, d2] => { results := [.lit (.bool false)], args := [d1, d2] }
  | _ => none }
def DueAllWrongFalsely : Prop := dueAllRow.holds Try.pinned (OpenSpec.ofChange dueAllWrong)

/-- 'pillarboxlaw20.DueNone': WHATEVER THE INPUT: true; the input reads as it did. -/
def dueNoneSpec : ChangeSpec := { name := "dueNone", fn := fun _ => fun
  | [d1, d2] => { results := [.lit (.bool true)], args := [d1, d2] }
  | _ => none }
def dueNoneRow : OpenClaim := { program := "ytjipppejcpokkaa", sum := "8ef3cbeaa476083282ec877e034c673fd17f59e2fa620c2e04f7c1a93530e9f0", func := "pillarbox/pillarboxlaw20.DueNone", spec := "dueNone", unfollowed := true, recurses := true, apart := false }
def DueNoneSaid : Prop := dueNoneRow.holds Try.pinned (OpenSpec.ofChange dueNoneSpec)

/-- ITS FALSE NEIGHBOUR: 'it returns false'. Refute it at one input. -/
def dueNoneWrong : ChangeSpec := { name := "dueNone", fn := fun _ => fun
  | [d1, d2] => { results := [.lit (.bool false)], args := [d1, d2] }
  | _ => none }
def DueNoneWrongFalsely : Prop := dueNoneRow.holds Try.pinned (OpenSpec.ofChange dueNoneWrong)

/-- 'pillarboxlaw20.DueMoves': WHATEVER THE INPUT: true; the input reads as it did. -/
def dueMovesSpec : ChangeSpec := { name := "dueMoves", fn := fun _ => fun
  | [d1, d2, d3, d4, d5] => { results := [.lit (.bool true)], args := [d1, d2, d3, d4, d5] }
  | _ => none }
def dueMovesRow : OpenClaim := { program := "ytjipppejcpokkaa", sum := "8ef3cbeaa476083282ec877e034c673fd17f59e2fa620c2e04f7c1a93530e9f0", func := "pillarbox/pillarboxlaw20.DueMoves", spec := "dueMoves", unfollowed := true, recurses := true, apart := false }
def DueMovesSaid : Prop := dueMovesRow.holds Try.pinned (OpenSpec.ofChange dueMovesSpec)

/-- ITS FALSE NEIGHBOUR: 'it returns false'. Refute it at one input. -/
def dueMovesWrong : ChangeSpec := { name := "dueMoves", fn := fun _ => fun
  | [d1, d2, d3, d4, d5] => { results := [.lit (.bool false)], args := [d1, d2, d3, d4, d5] }
  | _ => none }
def DueMovesWrongFalsely : Prop := dueMovesRow.holds Try.pinned (OpenSpec.ofChange dueMovesWrong)

/- THE SECOND FORM. 'bulk': how many values and letters a reading holds, each counted each time it is reached (what is shared counts as often as it is met; a slice's spare places count too). A statement '..UptoSaid' is the law's where the arguments, and the package variables that the reading takes, are together of bulk at most 1048576: NARROWER than '..Said'. Prove '..Said' where nothing that the law and all that it calls make is longer than what came in: it says more and counts as full. Else prove '..UptoSaid'. A law counts once. -/
mutual
def uptoBulk {H : Type} : DataW H → Nat
  | .lit (.string bytes) => bytes.length + 1
  | .lit _ => 1
  | .nil => 1
  | .ptr d => uptoBulk d + 1
  | .slice elems spare => uptoBulkAll elems + uptoBulkAll spare + 1
  | .agg parts => uptoBulkAll parts + 1
  | .iface _ d => uptoBulk d + 1
  | .map entries => uptoBulkEntries entries + 1
  | .held _ => 1
def uptoBulkAll {H : Type} : List (DataW H) → Nat
  | [] => 0
  | d :: r => uptoBulk d + uptoBulkAll r
def uptoBulkEntries {H : Type} : List (Lit × DataW H) → Nat
  | [] => 0
  | x :: r => uptoBulkEntry x + uptoBulkEntries r
def uptoBulkEntry {H : Type} : Lit × DataW H → Nat
  | (.string bytes, d) => bytes.length + uptoBulk d + 1
  | (_, d) => uptoBulk d + 1
 end
def uptoSmall : (H : Type) → List (DataW H) → Bool := fun _ ds => decide (uptoBulkAll ds ≤ 1048576)
def OpenSpec.upto (s : _root_.Go.ChangeSpec) : _root_.Go.OpenSpec := { _root_.Go.OpenSpec.ofChange s with cond := some uptoSmall }

/-- 'pillarboxlaw20.DuePlays', WHERE WHAT IT READS IS OF BULK AT MOST 1048576: true; the input reads as it did. -/
def duePlaysUptoRow : OpenClaim := { program := "ytjipppejcpokkaa", sum := "8ef3cbeaa476083282ec877e034c673fd17f59e2fa620c2e04f7c1a93530e9f0", func := "pillarbox/pillarboxlaw20.DuePlays", spec := "duePlays", unfollowed := true, recurses := true, apart := false, narrowed := true }
def DuePlaysUptoSaid : Prop := duePlaysUptoRow.holds Try.pinned (OpenSpec.upto duePlaysSpec)

/-- 'pillarboxlaw20.DueAll', WHERE WHAT IT READS IS OF BULK AT MOST 1048576: true; the input reads as it did. -/
def dueAllUptoRow : OpenClaim := { program := "ytjipppejcpokkaa", sum := "8ef3cbeaa476083282ec877e034c673fd17f59e2fa620c2e04f7c1a93530e9f0", func := "pillarbox/pillarboxlaw20.DueAll", spec := "dueAll", unfollowed := true, recurses := true, apart := false, narrowed := true }
def DueAllUptoSaid : Prop := dueAllUptoRow.holds Try.pinned (OpenSpec.upto dueAllSpec)

/-- 'pillarboxlaw20.DueNone', WHERE WHAT IT READS IS OF BULK AT MOST 1048576: true; the input reads as it did. -/
def dueNoneUptoRow : OpenClaim := { program := "ytjipppejcpokkaa", sum := "8ef3cbeaa476083282ec877e034c673fd17f59e2fa620c2e04f7c1a93530e9f0", func := "pillarbox/pillarboxlaw20.DueNone", spec := "dueNone", unfollowed := true, recurses := true, apart := false, narrowed := true }
def DueNoneUptoSaid : Prop := dueNoneUptoRow.holds Try.pinned (OpenSpec.upto dueNoneSpec)

/-- 'pillarboxlaw20.DueMoves', WHERE WHAT IT READS IS OF BULK AT MOST 1048576: true; the input reads as it did. -/
def dueMovesUptoRow : OpenClaim := { program := "ytjipppejcpokkaa", sum := "8ef3cbeaa476083282ec877e034c673fd17f59e2fa620c2e04f7c1a93530e9f0", func := "pillarbox/pillarboxlaw20.DueMoves", spec := "dueMoves", unfollowed := true, recurses := true, apart := false, narrowed := true }
def DueMovesUptoSaid : Prop := dueMovesUptoRow.holds Try.pinned (OpenSpec.upto dueMovesSpec)

end Rows
end Go.Proofs.Ytjipppejcpokkaa
