/- What every row of this seat leans on: arguments that lie below what the call has written read behind it as before. No condition. -/
import Derived.Test.YtbiahndpfbmoeaaRows
import Derived.Carry
import Derived.ChangeOld
import Derived.ProofKit
import Derived.OpenShut
namespace Go.Proofs.Ytbiahndpfbmoeaa
open Go.RowKit
theorem laidOut : laidOutB Try.prog = true := by kernel_rfl
namespace Aid
theorem trodAll_stays {H : Type} {enc : TypeId × Value → H} {P : Program} (hl : laidOutB P = true) {W W' : World} :
    ∀ {ts : List TypeId} {vs : List Value} {ds : List (DataW H)} {ps : List MemPlace}, (ts.all fun t => P.readableRec t && decide (t < P.types.size)) = true →
      DataW.TrodAll enc P W 0 (fun _ => true) true ts vs ds ps → Below W.heap.size W W' → DataW.TrodAll enc P W' 0 (fun b => decide (b < W.heap.size)) true ts vs ds ps
  | [], [], [], _, _, h, _ => h
  | t :: ts, v :: vs, d :: ds, ps, hr, h, hb => by
    obtain ⟨p, q, h1, h2, rfl⟩ := h
    rw [List.all_cons, Bool.and_eq_true, Bool.and_eq_true, decide_eq_true_eq] at hr
    obtain ⟨⟨hr1, hr2⟩, hr3⟩ := hr
    refine ⟨p, q, Below.trod hl hr1 hr2 h1 hb ?_, trodAll_stays hl hr3 h2 hb, rfl⟩
    obtain ⟨n, hn⟩ := h1
    exact DataW.trod_lt n t _ _ hn
  | [], _ :: _, _, _, _, h, _ => h.elim
  | [], [], _ :: _, _, _, h, _ => h.elim
  | _ :: _, [], _, _, _, h, _ => h.elim
  | _ :: _, _ :: _, [], _, _, h, _ => h.elim
end Aid
end Go.Proofs.Ytbiahndpfbmoeaa
