/- SchedFair: the law returns true for every input. No condition. -/
import Derived.Test.YtbiahndpfbmoeaaSchedFair1
import Derived.Test.YtbiahndpfbmoeaaSchedFair2
import Derived.ProofKit
namespace Go.Proofs.Ytbiahndpfbmoeaa
open Go.RowKit Go.ChangeShapes Go.WideShapes SatAid Go.Deep

set_option maxRecDepth 100000 in
set_option maxHeartbeats 3200000 in
theorem schedFair_law {H : Type} {enc : TypeId × Value → H} (W : World) {base : Nat} (v0 v1 v2 v3 : Value) (d0 d1 d2 d3 : DataW H) (p0 p1 p2 p3 : List MemPlace)
    (k0 : Value.okWide Try.prog W .any base 4 v0) (k1 : Value.okWide Try.prog W .any base 5 v1) (k2 : Value.okWide Try.prog W .any base 5 v2) (k3 : Value.okWide Try.prog W .any base 46 v3)
    (h0 : DataW.Trod enc Try.prog W 0 (fun _ => true) true 4 v0 d0 p0) (h1 : DataW.Trod enc Try.prog W 0 (fun _ => true) true 5 v1 d1 p1) (h2 : DataW.Trod enc Try.prog W 0 (fun _ => true) true 5 v2 d2 p2) (h3 : DataW.Trod enc Try.prog W 0 (fun _ => true) true 46 v3 d3 p3) :
    Calls Try.prog 10 #[v0, v1, v2, v3] W fun e W' => e = .returned (.bool true) ∧ Below W.heap.size W W' := by
  obtain ⟨local', rfl⟩ := okWide_bool Try.underlying4 k0
  obtain ⟨mm, rfl, rfl, rfl, wr0⟩ := open_int Try.underlying5 k1 h1
  obtain ⟨oo, rfl, rfl, rfl, wu0⟩ := open_int Try.underlying5 k2 h2
  obtain ⟨ao, len, cap, f, rfl, hnc, hcap, hrow, _⟩ := open_sops k3 h3
  obtain ⟨ma, mb⟩ := bounds_u8 wr0
  obtain ⟨oa, ob⟩ := bounds_u8 wu0
  cases local' with
  | false => exact schedFair_far W mm oo ma mb oa ob ao len cap f hnc hcap hrow
  | true => exact schedFair_near W mm oo ma mb oa ob ao len cap f hnc hcap hrow
end Go.Proofs.Ytbiahndpfbmoeaa
