/- What the reference's SameStarts does where both are the same. Condition: there are no more than fit into memory. -/
import Derived.Test.YtbiahndpfbmoeaaSf9
import Derived.BigQuiet
namespace Go.Proofs.Ytbiahndpfbmoeaa
open Go.RowKit SatAid

/-- these starts can be read at ao -/
def TRd (w : World) (ao : Option Addr) (T : List (Int × Int × ByteArray)) : Prop := ∀ i x, T[i]? = some x → ∃ g, ao = some ⟨g, 0, none⟩ ∧ g < w.heap.size ∧ w.cell? ⟨g, i * 3, none⟩ = some (.int .i64 x.1) ∧ w.cell? ⟨g, i * 3 + 1, none⟩ = some (.int .i64 x.2.1) ∧ w.cell? ⟨g, i * 3 + 2, none⟩ = some (.string x.2.2)
theorem TRd.own {w : World} {v : Value} {T : List (Int × Int × ByteArray)} {n : Nat} (h : Own w 66 3 v n (Stc T)) (hn : n = T.length) : ∃ ao cap, v = .slice ao T.length cap ∧ TRd w ao T := by
  subst hn
  rcases h.shape with ⟨rfl, hn, hx⟩ | ⟨g, cap, rfl, hc, hc2, hg⟩
  · refine ⟨none, 0, by rw [hn], fun i x hx => ?_⟩
    have := (List.getElem?_eq_some_iff.1 hx).1
    omega
  · exact ⟨_, cap, rfl, fun i x hx => ⟨g, rfl, hg, h.cell (Stc_get hx).1, h.cell (Stc_get hx).2.1, h.cell (Stc_get hx).2.2⟩⟩
theorem TRd.calm {w w' : World} {ao : Option Addr} {T : List (Int × Int × ByteArray)} (h : TRd w ao T) (hk : Kp (fun _ => False) w w') : TRd w' ao T := fun i x hx => by
  obtain ⟨g, e, hg, h0, h1, h2⟩ := h i x hx
  exact ⟨g, e, Nat.lt_of_lt_of_le hg hk.size, (hk.cell _ hg (fun h => h)).trans h0, (hk.cell _ hg (fun h => h)).trans h1, (hk.cell _ hg (fun h => h)).trans h2⟩
theorem fsame_any (ao bo : Option Addr) (c d : Nat) (T : List (Int × Int × ByteArray)) (w : World) (ha : TRd w ao T) (hb : TRd w bo T) (hl : T.length ≤ 1000000) :
    Calls Try.prog 63 #[.slice ao T.length c, .slice bo T.length d] w fun e w' => e = .returned (.bool true) ∧ Kp (fun _ => False) w w' := by
  have HA := Lib.hid ha; have HB := Lib.hid hb; clear ha hb
  go_enter Try.func63, Try.ntmps63
  go_wp2_with fail
  go_loopg [5] T.length (fun k i wr => ∃ j : Nat, k = T.length - j ∧ j ≤ T.length ∧ i = .int .i64 j ∧ Kp (fun _ => False) w wr)
  case atStart => exact ⟨0, rfl, Nat.zero_le _, rfl, Kp.refl _ _⟩
  case round =>
    obtain ⟨j, hk, hj, rfl, hkp⟩ := hrel
    have HKk := Lib.hid hk; have HKP := Lib.hid hkp
    clear hk hkp
    by_cases hlt : j < T.length
    · obtain ⟨⟨x0, x1, x2⟩, hx⟩ : ∃ x, T[j]? = some x := ⟨_, List.getElem?_eq_getElem hlt⟩
      obtain ⟨g, rfl, hg, a0, a1, a2⟩ := HA.out.calm HKP.out j _ hx
      obtain ⟨g', rfl, hg', b0, b1, b2⟩ := HB.out.calm HKP.out j _ hx
      simp only at a0 a1 a2 b0 b1 b2
      have q1 : (0 : Int) ≤ (j : Int) := by omega
      have q2 : (j : Int) < (T.length : Int) := by omega
      have ej : IntKind.i64.wrap ((j : Int) + 1) = ((j + 1 : Nat) : Int) := by rw [IntWalk.i64_in _ (by omega)]; omega
      clear hx
      go_wp2_with fail
      go_quiet (fail)
      have HKQ := Lib.hid (HKP.out.drewN nq)
      go_wp2_with fail
      go_roundg (T.length - (j + 1))
      case measure => rw [HKk.out]; omega
      case rel => exact ⟨j + 1, rfl, by omega, rfl, HKQ.out⟩
    · go_wp2_with fail
      go_ret
      exact ⟨rfl, HKP.out⟩
end Go.Proofs.Ytbiahndpfbmoeaa
