/- What slices.MinFunc, slices.DeleteFunc do for package sched. Conditions: there are no more recipients than fit into memory. -/
import Derived.Test.YtbiahndpfbmoeaaSd11
namespace Go.Proofs.Ytbiahndpfbmoeaa
open Go.RowKit Go.Maps SatAid Go.MapKept Go.ChangeMaps Go.WideShapes

theorem Le2_nn (x z : Wt) : 0 ≤ Le2 x z ↔ ¬ (x.id < z.id ∨ x.id = z.id ∧ x.rc < z.rc) := by rw [← Le2_neg]; omega
/-- the recipients lie where they lie -/
def Wb (w : World) (R : List Wt) : Prop := ∀ x ∈ R, w.heap[x.blk]? = some (.cells (Wc x) 99 (0, 0))
theorem Wb.keep {w w' : World} {R : List Wt} {S : Nat → Prop} (h : Wb w R) (hk : Kp S w w') (hs : ∀ x ∈ R, ¬ S x.blk) : Wb w' R := fun x hx => hk.keep (h x hx) (hs x hx)
theorem rp_get {R : List Wt} {j : Nat} {x : Wt} (h : R[j]? = some x) : (Rp R)[j]? = some (.pointer (some ⟨x.blk, 0, none⟩)) := by unfold Rp; rw [List.getElem?_map, h]; rfl
set_option maxRecDepth 100000 in
theorem smin_any (g cap : Nat) (R : List Wt) (w : World) (hc : ∀ j u, (Rp R)[j]? = some u → w.cell? ⟨g, j, none⟩ = some u) (hw : Wb w R) (hR : R ≠ []) (hl : R.length ≤ 1000000) (hg : g < w.heap.size) :
    Calls Try.prog 72 #[.slice (some ⟨g, 0, none⟩) R.length cap, .func (.func 73) #[] #[]] w fun e w' =>
      (∃ m ∈ R, e = .returned (.pointer (some ⟨m.blk, 0, none⟩)) ∧ ∀ z ∈ R, 0 ≤ Le2 z m) ∧ Kp (fun _ => False) w w' := by
  have hpos : 0 < R.length := List.length_pos_iff.2 hR
  obtain ⟨x0, hx0⟩ : ∃ x, R[0]? = some x := ⟨_, List.getElem?_eq_getElem hpos⟩
  have c0 := hc 0 _ (rp_get hx0)
  have q0 : (0 : Int) < (R.length : Int) := by omega
  have q1 : ¬ (R.length : Int) < 1 := by omega
  have HC := Lib.hid hc; have HW := Lib.hid hw; have HX0 := Lib.hid hx0
  clear hc hw hx0 hR
  go_enter Try.func72, Try.ntmps72
  go_wp2_with fail
  go_loopg [5, 6] (R.length - 1) (fun k mv i wr => ∃ (j : Nat) (m : Wt), k = R.length - j ∧ 1 ≤ j ∧ j ≤ R.length ∧ i = .int .i64 j ∧ mv = .pointer (some ⟨m.blk, 0, none⟩) ∧ m ∈ R ∧ (∀ t z, t < j → R[t]? = some z → 0 ≤ Le2 z m) ∧ Kp (fun _ => False) w wr)
  case atStart => exact ⟨1, x0, by omega, by omega, by omega, rfl, rfl, List.mem_of_getElem? HX0.out, fun t z ht hz => by
    obtain rfl : t = 0 := by omega
    rw [HX0.out] at hz
    obtain rfl := Option.some.inj hz
    rw [Le2_nn]; omega, Kp.refl _ _⟩
  case round =>
    obtain ⟨j, m, hk, hj1, hj, rfl, rfl, hm, hmin, hkp⟩ := hrel
    have HKk := Lib.hid hk; have HM := Lib.hid hm; have HMIN := Lib.hid hmin; have HKP := Lib.hid hkp; clear hk hm hmin hkp
    by_cases hlt : j < R.length
    · obtain ⟨x, hx⟩ : ∃ x, R[j]? = some x := ⟨_, List.getElem?_eq_getElem hlt⟩
      have hxm := List.mem_of_getElem? hx
      have cj := (HKP.out.cell j hg (fun h => h)).trans (HC.out j _ (rp_get hx))
      have q2 : (0 : Int) ≤ (j : Int) := by omega
      have q3 : (j : Int) < (R.length : Int) := by omega
      have HX := Lib.hid hx; have HXM := Lib.hid hxm; clear hx hxm
      go_wp2_with fail
      refine (sleast_any x m _ (HKP.out.keep (HW.out x HXM.out) (fun h => h)) (HKP.out.keep (HW.out m HM.out) (fun h => h))).mono ?_; rintro e w1 ⟨rfl, hk1⟩
      have HK1 := Lib.hid (HKP.out.trans hk1)
      have cj1 := (hk1.cell j (Nat.lt_of_lt_of_le hg HKP.out.size) (fun h => h)).trans cj
      clear hk1 cj
      by_cases hle : Le2 x m < 0
      · go_wp2_with fail
        go_roundg (R.length - (j + 1))
        case measure => rw [HKk.out]; omega
        case rel => exact ⟨j + 1, x, rfl, by omega, by omega, by go_num, rfl, HXM.out, fun t z ht hz => by
          rw [Le2_neg] at hle
          rw [Le2_nn]
          by_cases e : t = j
          · subst e; rw [HX.out] at hz; obtain rfl := Option.some.inj hz; omega
          · have := HMIN.out t z (by omega) hz
            rw [Le2_nn] at this
            omega, HK1.out⟩
      · go_wp2_with fail
        go_roundg (R.length - (j + 1))
        case measure => rw [HKk.out]; omega
        case rel => exact ⟨j + 1, m, rfl, by omega, by omega, by go_num, rfl, HM.out, fun t z ht hz => by
          by_cases e : t = j
          · subst e; rw [HX.out] at hz; obtain rfl := Option.some.inj hz; omega
          · exact HMIN.out t z (by omega) hz, HK1.out⟩
    · have HZ := Lib.hid (show (∃ u ∈ R, Ending.returned (.pointer (some ⟨m.blk, 0, none⟩)) = .returned (.pointer (some ⟨u.blk, 0, none⟩)) ∧ ∀ z ∈ R, 0 ≤ Le2 z u) ∧ Kp (fun _ => False) w wr from
        ⟨⟨m, HM.out, rfl, fun z hz => by
          obtain ⟨t, ht⟩ := List.getElem?_of_mem hz
          exact HMIN.out t z (by have := (List.getElem?_eq_some_iff.1 ht).1; omega) ht⟩, HKP.out⟩)
      go_wp2_with fail
      go_ret
      exact HZ.out

/-- the closure: another sender? -/
theorem sother_any (b : Nat) (x : Wt) (a : ByteArray) (w : World) (hb : w.cell? ⟨b, 0, none⟩ = some (.string a)) (hx : w.heap[x.blk]? = some (.cells (Wc x) 99 (0, 0))) :
    Calls Try.prog 71 #[.pointer (some ⟨x.blk, 0, none⟩), .pointer (some ⟨b, 0, none⟩)] w fun e w' => e = .returned (.bool (!decide (x.snd = a))) ∧ Kp (fun _ => False) w w' := by
  have x2 : w.cell? ⟨x.blk, 2, none⟩ = some (.string x.snd) := (cell_of hx 2).trans rfl
  clear hx
  by_cases e : x.snd = a
  · rw [decide_eq_true e]
    rw [e] at x2
    clear e
    go_enter Try.func71, Try.ntmps71
    go_wp2_with fail
    go_quiet (fail)
    go_wp2_with fail
    go_ret
    exact ⟨by simp, (by repeat (first | exact Kp.refl _ _ | apply Kp.drew | apply Kp.drewN | refine Kp.setCell ?_ _ _ (Or.inl rfl) | apply Kp.alloc))⟩
  · rw [decide_eq_false e]
    have h3 : (x.snd.toList == a.toList) = false := by rw [beq_eq_false_iff_ne]; exact toList_ne e
    have h4 : ¬ x.snd.toList = a.toList := toList_ne e
    clear e
    go_enter Try.func71, Try.ntmps71
    go_wp2_with fail
    go_quiet (fail)
    go_wp2_with fail
    go_ret
    exact ⟨by simp, (by repeat (first | exact Kp.refl _ _ | apply Kp.drew | apply Kp.drewN | refine Kp.setCell ?_ _ _ (Or.inl rfl) | apply Kp.alloc))⟩
end Go.Proofs.Ytbiahndpfbmoeaa
