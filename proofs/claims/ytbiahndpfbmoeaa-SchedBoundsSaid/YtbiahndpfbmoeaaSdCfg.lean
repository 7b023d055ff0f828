/- The configuration that law 22's statements are given; what is light. No condition. -/
import Derived.Test.YtbiahndpfbmoeaaSdOp
import Derived.Test.YtbiahndpfbmoeaaRingWaits
namespace Go.Proofs.Ytbiahndpfbmoeaa
open Go.RowKit Go.ChangeShapes Go.WideShapes Go.Deep

theorem cells_cfg : Try.prog.cellsOf 45 = 12 := by kernel_rfl
set_option maxRecDepth 100000 in
theorem cells_sstrs : Try.prog.cellsOf 24 = 1 := by kernel_rfl
/-- what is known of a configuration -/
def CfOk (W : World) (c : Cf) : Prop := ∃ ao cap, c.lv = .slice ao c.L.length cap ∧ Hs W ao cap c.L
set_option maxRecDepth 100000 in
theorem cfg_of_trod {H : Type} {enc : TypeId × Value → H} {W : World} {fuel : Nat} {cs : List Value} {y : DataW H × List MemPlace} (hV : cs.length = 12)
    (hy : DataW.trod enc Try.prog W 0 (fun _ => true) true fuel 45 cs = some y) : ∃ c, cs = Cc c ∧ CfOk W c := by
  obtain ⟨xs, n', rfl, _, hl, hxl, hx⟩ := DataW.trod_struct Try.underlying45 hy
  have e0 : DataW.trod enc Try.prog W 0 (fun _ => true) true n' 9 ((cs.drop 0).take (Try.prog.cellsOf 9)) = xs[0]? := hx 0 _ rfl
  have e1 : DataW.trod enc Try.prog W 0 (fun _ => true) true n' 24 ((cs.drop 1).take (Try.prog.cellsOf 24)) = xs[1]? := hx 1 _ rfl
  have e2 : DataW.trod enc Try.prog W 0 (fun _ => true) true n' 3 ((cs.drop 2).take (Try.prog.cellsOf 3)) = xs[2]? := hx 2 _ rfl
  have e3 : DataW.trod enc Try.prog W 0 (fun _ => true) true n' 3 ((cs.drop 3).take (Try.prog.cellsOf 3)) = xs[3]? := hx 3 _ rfl
  have e4 : DataW.trod enc Try.prog W 0 (fun _ => true) true n' 3 ((cs.drop 4).take (Try.prog.cellsOf 3)) = xs[4]? := hx 4 _ rfl
  have e5 : DataW.trod enc Try.prog W 0 (fun _ => true) true n' 3 ((cs.drop 5).take (Try.prog.cellsOf 3)) = xs[5]? := hx 5 _ rfl
  have e6 : DataW.trod enc Try.prog W 0 (fun _ => true) true n' 3 ((cs.drop 6).take (Try.prog.cellsOf 3)) = xs[6]? := hx 6 _ rfl
  have e7 : DataW.trod enc Try.prog W 0 (fun _ => true) true n' 3 ((cs.drop 7).take (Try.prog.cellsOf 3)) = xs[7]? := hx 7 _ rfl
  have e8 : DataW.trod enc Try.prog W 0 (fun _ => true) true n' 3 ((cs.drop 8).take (Try.prog.cellsOf 3)) = xs[8]? := hx 8 _ rfl
  have e9 : DataW.trod enc Try.prog W 0 (fun _ => true) true n' 3 ((cs.drop 9).take (Try.prog.cellsOf 3)) = xs[9]? := hx 9 _ rfl
  have e10 : DataW.trod enc Try.prog W 0 (fun _ => true) true n' 3 ((cs.drop 10).take (Try.prog.cellsOf 3)) = xs[10]? := hx 10 _ rfl
  have e11 : DataW.trod enc Try.prog W 0 (fun _ => true) true n' 3 ((cs.drop 11).take (Try.prog.cellsOf 3)) = xs[11]? := hx 11 _ rfl
  rw [cells_sint] at e2 e3 e4 e5 e6 e7 e8 e9 e10 e11
  rw [cells_sstr] at e0
  rw [cells_sstrs] at e1
  match cs, hV with
  | [a0, a1, a2, a3, a4, a5, a6, a7, a8, a9, a10, a11], _ =>
    have l3 : xs.length = 12 := hxl
    rw [List.getElem?_eq_getElem (by omega)] at e0 e1 e2 e3 e4 e5 e6 e7 e8 e9 e10 e11
    obtain ⟨z0, h0, _⟩ := DataW.trod_string Try.underlying9 e0
    obtain ⟨bo, N, cc, h1, _, _, hs⟩ := strs_of_trod e1
    obtain ⟨z2, h2, _⟩ := DataW.trod_int Try.underlying3 e2
    obtain ⟨z3, h3, _⟩ := DataW.trod_int Try.underlying3 e3
    obtain ⟨z4, h4, _⟩ := DataW.trod_int Try.underlying3 e4
    obtain ⟨z5, h5, _⟩ := DataW.trod_int Try.underlying3 e5
    obtain ⟨z6, h6, _⟩ := DataW.trod_int Try.underlying3 e6
    obtain ⟨z7, h7, _⟩ := DataW.trod_int Try.underlying3 e7
    obtain ⟨z8, h8, _⟩ := DataW.trod_int Try.underlying3 e8
    obtain ⟨z9, h9, _⟩ := DataW.trod_int Try.underlying3 e9
    obtain ⟨z10, h10, _⟩ := DataW.trod_int Try.underlying3 e10
    obtain ⟨z11, h11, _⟩ := DataW.trod_int Try.underlying3 e11
    simp at h0 h1 h2 h3 h4 h5 h6 h7 h8 h9 h10 h11
    exact ⟨⟨z0, .slice bo N.length cc, N, z2, z3, z4, z5, z6, z7, z8, z9, z10, z11⟩, by rw [h0, h1, h2, h3, h4, h5, h6, h7, h8, h9, h10, h11]; rfl, bo, cc, rfl, hs⟩
set_option maxRecDepth 100000 in
theorem open_cfg {H : Type} {enc : TypeId × Value → H} {W : World} {base : Nat} {v : Value} {d : DataW H} {ps : List MemPlace} (k : Value.okWide Try.prog W .any base 45 v) (h : DataW.Trod enc Try.prog W 0 (fun _ => true) true 45 v d ps) :
    ∃ c, v = .agg (Cc c).toArray ∧ CfOk W c := by
  obtain ⟨cs, rfl, hs⟩ := okWide_struct Try.underlying45 k
  obtain ⟨fuel, hf⟩ := h
  rw [cells_cfg] at hs
  obtain ⟨r, h1, h2⟩ := cfg_of_trod (cs := cs.toList) (by simpa using hs) (by simpa [Value.cells] using hf)
  exact ⟨r, by rw [← h1], h2⟩
set_option maxRecDepth 100000 in
theorem light_any (c : Cf) (ar ao : Option Addr) (n cap cc : Nat) (w : World) (hl : c.lv = .slice ar c.L.length cc) :
    Calls Try.prog 22 #[.agg (Cc c).toArray, .slice ao n cap] w fun e w' => e = .returned (.bool (decide (c.L.length ≤ 20) && decide (n ≤ 150))) ∧ Kp (fun _ => False) w w' := by
  obtain ⟨host, lv, L, i1, i2, i3, i4, i5, i6, i7, i8, i9, i10⟩ := c
  simp only at hl
  subst hl
  by_cases h1 : L.length ≤ 20
  · have q1 : (L.length : Int) ≤ 20 := by omega
    by_cases h2 : n ≤ 150
    · have q2 : (n : Int) ≤ 150 := by omega
      rw [decide_eq_true h1, decide_eq_true h2]
      go_enter Try.func22, Try.ntmps22
      unfold Cc
      go_wp2_with fail
      go_ret
      exact ⟨rfl, (by repeat (first | exact Kp.refl _ _ | apply Kp.drew | apply Kp.drewN | refine Kp.setCell ?_ _ _ (Or.inl rfl) | apply Kp.alloc))⟩
    · have q2 : ¬ (n : Int) ≤ 150 := by omega
      rw [decide_eq_true h1, decide_eq_false h2]
      go_enter Try.func22, Try.ntmps22
      unfold Cc
      go_wp2_with fail
      go_ret
      exact ⟨rfl, (by repeat (first | exact Kp.refl _ _ | apply Kp.drew | apply Kp.drewN | refine Kp.setCell ?_ _ _ (Or.inl rfl) | apply Kp.alloc))⟩
  · have q1 : ¬ (L.length : Int) ≤ 20 := by omega
    rw [decide_eq_false h1]
    go_enter Try.func22, Try.ntmps22
    unfold Cc
    go_wp2_with fail
    go_ret
    exact ⟨rfl, (by repeat (first | exact Kp.refl _ _ | apply Kp.drew | apply Kp.drewN | refine Kp.setCell ?_ _ _ (Or.inl rfl) | apply Kp.alloc))⟩
end Go.Proofs.Ytbiahndpfbmoeaa
