/- What the reference's side and at do. Condition: there are no more recipients than fit into memory. -/
import Derived.Test.YtbiahndpfbmoeaaSf0
import Derived.Test.YtbiahndpfbmoeaaSf1
import Derived.Deep.LoopGhost
import Derived.Deep.QuietTactic
import Derived.BigQuiet
namespace Go.Proofs.Ytbiahndpfbmoeaa
open Go.RowKit SatAid

theorem fside_any (b : Bool) (w : World) : Calls Try.prog 49 #[.bool b] w fun e w' => e = .returned (.int .i64 (sI b)) ∧ w = w' := by
  cases b
  · have H := Lib.hid (show sI false = 0 from rfl)
    go_enter Try.func49, Try.ntmps49
    go_wp2
    go_ret
    exact ⟨ret_int H.out.symm, rfl⟩
  · have H := Lib.hid (show sI true = 1 from rfl)
    go_enter Try.func49, Try.ntmps49
    go_wp2
    go_ret
    exact ⟨ret_int H.out.symm, rfl⟩
/-- where the recipients lie -/
def LRow (w : World) (ao : Option Addr) (W : List Wt) : Prop := ∀ i x, W[i]? = some x → ∃ g, ao = some ⟨g, 0, none⟩ ∧ g < w.heap.size ∧ w.cell? ⟨g, i * 7, none⟩ = some (.int .i64 x.id) ∧ w.cell? ⟨g, i * 7 + 1, none⟩ = some (.int .i64 x.rc) ∧ w.cell? ⟨g, i * 7 + 2, none⟩ = some (.int .i64 x.nx) ∧ w.cell? ⟨g, i * 7 + 3, none⟩ = some (.string x.snd) ∧ w.cell? ⟨g, i * 7 + 4, none⟩ = some (.string x.dom) ∧ w.cell? ⟨g, i * 7 + 5, none⟩ = some (.bool x.loc) ∧ w.cell? ⟨g, i * 7 + 6, none⟩ = some (.bool x.go)
theorem lrow_own {w : World} {v : Value} {W : List Wt} (h : Own w 62 7 v W.length (Wl W)) : ∃ ao cap, v = .slice ao W.length cap ∧ LRow w ao W ∧ (0 < W.length → W.length ≤ cap ∧ cap ≤ 9223372036854775807) ∧ ((ao = none ∧ cap = 0) ∨ ∃ g, ao = some ⟨g, 0, none⟩) := by
  rcases h.shape with ⟨rfl, hn, hx⟩ | ⟨g, cap, rfl, hc, hc2, hg⟩
  · refine ⟨none, 0, by rw [hn], fun i x hx => ?_, fun h0 => by omega, Or.inl ⟨rfl, rfl⟩⟩
    have := (List.getElem?_eq_some_iff.1 hx).1
    omega
  · refine ⟨_, cap, rfl, fun i x hx => ⟨g, rfl, hg, ?_, ?_, ?_, ?_, ?_, ?_, ?_⟩, fun _ => ⟨hc, hc2⟩, Or.inr ⟨g, rfl⟩⟩
    · exact h.cell (j := i * 7 + 0) ((Wl_get hx (by omega)).trans rfl)
    · exact h.cell ((Wl_get hx (by omega)).trans rfl)
    · exact h.cell ((Wl_get hx (by omega)).trans rfl)
    · exact h.cell ((Wl_get hx (by omega)).trans rfl)
    · exact h.cell ((Wl_get hx (by omega)).trans rfl)
    · exact h.cell ((Wl_get hx (by omega)).trans rfl)
    · exact h.cell ((Wl_get hx (by omega)).trans rfl)
theorem key_before {W : List Wt} (h : W.Pairwise (fun a b => (a.id, a.rc) ≠ (b.id, b.rc))) {i j : Nat} {x z : Wt} (hx : W[i]? = some x) (hz : W[j]? = some z) (hij : j < i) : ¬ (z.id = x.id ∧ z.rc = x.rc) := by
  rintro ⟨e1, e2⟩
  obtain ⟨a1, rfl⟩ := List.getElem?_eq_some_iff.1 hx
  obtain ⟨a2, rfl⟩ := List.getElem?_eq_some_iff.1 hz
  exact List.pairwise_iff_getElem.1 h j i a2 a1 hij (by rw [e1, e2])
/-- the place of a key, or none -/
def AtK (W : List Wt) (id rc : Int) (r : Int) : Prop := (∃ (i : Nat) (x : Wt), W[i]? = some x ∧ x.id = id ∧ x.rc = rc ∧ r = i ∧ ∀ (j : Nat) (z : Wt), j < i → W[j]? = some z → ¬ (z.id = id ∧ z.rc = rc)) ∨ ((∀ z ∈ W, ¬ (z.id = id ∧ z.rc = rc)) ∧ r = -1)
def AtP (W : List Wt) (id rc : Int) (w : World) (e : Ending) (w' : World) : Prop := ∃ r : Int, e = .returned (.int .i64 r) ∧ AtK W id rc r ∧ w = w'
set_option maxRecDepth 100000 in
theorem fat_any (q N : Nat) (s : Sd) (vl vp : Value) (id rc : Int) (w : World) (h : MIn w q s vl vp N) (hN : N ≤ 1000000) :
    Calls Try.prog 48 #[.pointer (some ⟨q, 0, none⟩), .int .i64 id, .int .i64 rc] w (AtP s.Ws id rc w) := by
  obtain ⟨ao, cap, rfl, hrow, _, _⟩ := lrow_own h.lst
  have c12 : w.cell? ⟨q, 12, none⟩ = some (.slice ao s.Ws.length cap) := (cell_of h.head 12).trans rfl
  have hl : s.Ws.length ≤ 1000000 := Nat.le_trans h.lw hN
  have HROW := Lib.hid hrow
  obtain ⟨W, hW⟩ : ∃ W, W = s.Ws := ⟨_, rfl⟩
  rw [← hW] at HROW hl c12 ⊢
  clear h hrow hW
  go_enter Try.func48, Try.ntmps48
  go_wp2_with fail
  go_loopg [7] W.length (fun k i wr => ∃ j : Nat, k = W.length - j ∧ j ≤ W.length ∧ i = .int .i64 j ∧ wr = w ∧ ∀ (t : Nat) (z : Wt), t < j → W[t]? = some z → ¬ (z.id = id ∧ z.rc = rc))
  case atStart => exact ⟨0, rfl, Nat.zero_le _, rfl, rfl, fun t z ht => absurd ht (Nat.not_lt_zero _)⟩
  case round =>
    obtain ⟨j, hk, hj, rfl, rfl, hno⟩ := hrel
    have HKk := Lib.hid hk; have HNO := Lib.hid hno
    clear hk hno
    by_cases hlt : j < W.length
    · obtain ⟨z, hz⟩ : ∃ z, W[j]? = some z := ⟨_, List.getElem?_eq_getElem hlt⟩
      obtain ⟨g, rfl, hg, z0, z1, z2, z3, z4, z5, z6⟩ := HROW.out j z hz
      have HZ := Lib.hid hz
      clear hz z2 z3 z4 z5 z6
      obtain ⟨zi, hzi⟩ : ∃ t, t = z.id := ⟨_, rfl⟩
      obtain ⟨zr, hzr⟩ : ∃ t, t = z.rc := ⟨_, rfl⟩
      rw [← hzi] at z0
      rw [← hzr] at z1
      have HZI := Lib.hid hzi; have HZR := Lib.hid hzr
      clear hzi hzr
      by_cases e1 : zi = id
      · by_cases e2 : zr = rc
        · subst e1 e2
          have HR := Lib.hid (show AtK W zi zr j from Or.inl ⟨j, z, HZ.out, HZI.out.symm, HZR.out.symm, rfl, fun t y ht hy => HNO.out t y ht hy⟩)
          go_wp2_with fail
          go_ret
          exact ⟨_, rfl, HR.out, rfl⟩
        · subst e1
          have HNEW := Lib.hid (show ∀ (t : Nat) (y : Wt), t < j + 1 → W[t]? = some y → ¬ (y.id = zi ∧ y.rc = rc) from fun t y ht hy => by
            by_cases e : t = j
            · subst e
              rw [HZ.out] at hy; cases hy
              rintro ⟨_, e4⟩
              exact e2 (HZR.out.trans e4)
            · exact HNO.out t y (by omega) hy)
          have b2 : (zr == rc) = false := by simp [e2]
          go_wp2_with fail
          go_roundg (W.length - (j + 1))
          case measure => rw [HKk.out]; omega
          case rel => exact ⟨j + 1, rfl, by omega, by go_num, rfl, HNEW.out⟩
      · have HNEW := Lib.hid (show ∀ (t : Nat) (y : Wt), t < j + 1 → W[t]? = some y → ¬ (y.id = id ∧ y.rc = rc) from fun t y ht hy => by
            by_cases e : t = j
            · subst e
              rw [HZ.out] at hy; cases hy
              rintro ⟨e4, _⟩
              exact e1 (HZI.out.trans e4)
            · exact HNO.out t y (by omega) hy)
        have b1 : (zi == id) = false := by simp [e1]
        go_wp2_with fail
        go_roundg (W.length - (j + 1))
        case measure => rw [HKk.out]; omega
        case rel => exact ⟨j + 1, rfl, by omega, by go_num, rfl, HNEW.out⟩
    · have HR := Lib.hid (show AtK W id rc (-1) from Or.inr ⟨fun z hz => by
        obtain ⟨t, ht⟩ := List.mem_iff_getElem?.1 hz
        exact HNO.out t z (by have := (List.getElem?_eq_some_iff.1 ht).1; omega) ht, rfl⟩)
      go_wp2_with fail
      go_ret
      exact ⟨_, rfl, HR.out, rfl⟩
end Go.Proofs.Ytbiahndpfbmoeaa
