/- WindowPlays, WindowBound, WindowGrows: each law returns true for every input. No condition. -/
import Derived.Test.YtihndplkkpglcaaWindowLaws
namespace Go.Proofs.Ytihndplkkpglcaa
open Go.RowKit Go.ChangeShapes Go.WideShapes
attribute [local go_sem] Mm.max2_int Mm.min2_int Mm.max_two Mm.min_two Mm.max_three

set_option maxRecDepth 100000 in
set_option maxHeartbeats 1600000 in
theorem windowBound_law {H : Type} {enc : TypeId × Value → H} (W : World) {base : Nat} (v0 v1 : Value) (d0 d1 : DataW H) (p0 p1 : List MemPlace)
    (k0 : Value.okWide Try.prog W .any base 3 v0) (k1 : Value.okWide Try.prog W .any base 22 v1)
    (h0 : DataW.Trod enc Try.prog W 0 (fun _ => true) true 3 v0 d0 p0) (h1 : DataW.Trod enc Try.prog W 0 (fun _ => true) true 22 v1 d1 p1) :
    Calls Try.prog 4 #[v0, v1] W fun e W' => e = .returned (.bool true) ∧ Below W.heap.size W W' := by
  obtain ⟨t, rfl, rfl, rfl, _⟩ := open_int Try.underlying3 k0 h0
  obtain ⟨ao, len, cap, f, rfl, hcap, hlen, hrow, hwf⟩ := open_introw Try.underlying22 cells_u8 Try.underlying5 k1 h1
  clear h0 h1 k0 k1
  have HR1 := Lib.hid hrow; have HW1 := Lib.hid hwf; clear hrow hwf
  obtain ⟨m, hm⟩ : ∃ m, m = V8 t := ⟨_, rfl⟩
  have m0 := V8_lo t; have m1 := V8_hi t
  rw [← hm] at m0 m1
  have em : min (max t 1) 8 = m := hm.symm
  have HM := Lib.hid hm; clear hm
  go_enter Try.func4, Try.ntmps4
  go_wp2_with fail
  refine (wnew_any _ _).mono ?_; rintro e w0 ⟨x, rfl, hx, hb, hk⟩
  rw [← HM.out] at hb
  have HX0 := Lib.hid hb; have HK0 := Lib.hid hk; clear hb hk
  go_wp2_with fail
  clear em
  go_loopg [7] len (fun k i wr => ∃ (j : Nat) (n b : Int), k = len - j ∧ j ≤ len ∧ i = .int .i64 j ∧ WOk m n b ∧ wr.heap[x]? = some (.cells (Wd m n b) 73 (0, 0)) ∧ Kp (fun _ => False) W wr)
  case atStart => exact ⟨0, 1, 0, by omega, by omega, rfl, by unfold WOk; omega, HX0.out, HK0.out⟩
  case round =>
    obtain ⟨j, n, b, hk, hj, rfl, hok, hX, hkp⟩ := hrel
    have HX := Lib.hid hX; have HKP := Lib.hid hkp; have HKk := Lib.hid hk; have HOK := Lib.hid hok; clear hX hkp hk hok
    by_cases hlt : j < len
    · by_cases h500 : j < 500
      · obtain ⟨a, off, rfl, ha, hrow0⟩ := HR1.out.get hlt
        obtain ⟨z, hz⟩ : ∃ z, z = f j := ⟨_, rfl⟩
        have HC0 := Lib.hid (show W.cell? ⟨a, off + j, none⟩ = some (.int .u8 z) by rw [hz]; exact hrow0 j hlt)
        obtain ⟨z0, z1⟩ := bounds_u8 (HW1.out j hlt)
        rw [← hz] at z0 z1
        clear hz hrow0
        have hc := (HKP.out.cell (off + j) ha (fun h => h)).trans HC0.out
        have hax : ¬ a = x := by have h4 : W.heap.size ≤ x := hx; omega
        by_cases hz3 : z % 3 = 0
        · have b1 : (z % 3 == 0) = true := by rw [beq_iff_eq]; exact hz3
          clear hz3
          go_wp2_with fail
          refine (wbegin_any x m n b _ HOK.out HX.out).mono ?_; rintro e w1 ⟨rfl, hX1, hk1⟩
          have HOK1 := Lib.hid HOK.out.begin
          obtain ⟨n', rfl⟩ : ∃ n' : Int, n' = n := ⟨_, rfl⟩
          obtain ⟨b', hb'⟩ : ∃ b', b' = Bb n' b := ⟨_, rfl⟩
          rw [← hb'] at hX1 HOK1
          clear hb'
          have HX1 := Lib.hid hX1; clear hX1
          have HKP1 := Lib.hid (HKP.out.trans_new hk1 (fun k h1 h2 => by have h3 : k = x := h2; have h4 : W.heap.size ≤ x := hx; omega))
          obtain ⟨q1, q2, q3, q4, q5⟩ := HOK1.out
          go_wp2_with (first | (go_at_call 21; refine (wbusy_any x m n' b' _ (by exact HX1.out)).mono ?_; rintro e w' ⟨rfl, rfl⟩) | (go_at_call 20; refine (wnow_any x m n' b' _ (by exact HX1.out)).mono ?_; rintro e w' ⟨rfl, rfl⟩))
          go_roundg (len - (j + 1))
          case measure => rw [HKk.out]; omega
          case rel => exact ⟨j + 1, n', b', rfl, by omega, by go_num, HOK1.out, HX1.out, HKP1.out⟩
        · have b1 : (z % 3 == 0) = false := by rw [beq_eq_false_iff_ne]; exact hz3
          clear hz3
          go_wp2_with fail
          refine (wend_any x _ m n b _ HOK.out HX.out).mono ?_; rintro e w1 ⟨rfl, hX1, hk1⟩
          have HOK1 := Lib.hid (HOK.out.ends (z % 3 == 1))
          obtain ⟨n', hn'⟩ : ∃ n', n' = En (z % 3 == 1) m n b := ⟨_, rfl⟩
          obtain ⟨b', hb'⟩ : ∃ b', b' = Eb b := ⟨_, rfl⟩
          rw [← hn', ← hb'] at hX1 HOK1
          clear hn' hb'
          have HX1 := Lib.hid hX1; clear hX1
          have HKP1 := Lib.hid (HKP.out.trans_new hk1 (fun k h1 h2 => by have h3 : k = x := h2; have h4 : W.heap.size ≤ x := hx; omega))
          obtain ⟨q1, q2, q3, q4, q5⟩ := HOK1.out
          go_wp2_with (first | (go_at_call 21; refine (wbusy_any x m n' b' _ (by exact HX1.out)).mono ?_; rintro e w' ⟨rfl, rfl⟩) | (go_at_call 20; refine (wnow_any x m n' b' _ (by exact HX1.out)).mono ?_; rintro e w' ⟨rfl, rfl⟩))
          go_roundg (len - (j + 1))
          case measure => rw [HKk.out]; omega
          case rel => exact ⟨j + 1, n', b', rfl, by omega, by go_num, HOK1.out, HX1.out, HKP1.out⟩
      · go_wp2_with fail
        refine (wans_any _).mono ?_; rintro e w2 ⟨rfl, hk2⟩
        go_wp2_with fail
        go_ret
        exact ⟨rfl, (HKP.out.trans hk2).below (fun _ _ h => h)⟩
    · go_wp2_with fail
      refine (wans_any _).mono ?_; rintro e w2 ⟨rfl, hk2⟩
      go_wp2_with fail
      go_ret
      exact ⟨rfl, (HKP.out.trans hk2).below (fun _ _ h => h)⟩

set_option maxRecDepth 100000 in
set_option maxHeartbeats 1600000 in
theorem windowGrows_law {H : Type} {enc : TypeId × Value → H} (W : World) {base : Nat} (v0 v1 : Value) (d0 d1 : DataW H) (p0 p1 : List MemPlace)
    (k0 : Value.okWide Try.prog W .any base 3 v0) (k1 : Value.okWide Try.prog W .any base 5 v1)
    (h0 : DataW.Trod enc Try.prog W 0 (fun _ => true) true 3 v0 d0 p0) (h1 : DataW.Trod enc Try.prog W 0 (fun _ => true) true 5 v1 d1 p1) :
    Calls Try.prog 6 #[v0, v1] W fun e W' => e = .returned (.bool true) ∧ Below W.heap.size W W' := by
  obtain ⟨t, rfl, rfl, rfl, _⟩ := open_int Try.underlying3 k0 h0
  obtain ⟨z, rfl, rfl, rfl, wz⟩ := open_int Try.underlying5 k1 h1
  obtain ⟨z0, z1⟩ := bounds_u8 wz
  clear h0 h1 k0 k1 wz
  obtain ⟨m, hm⟩ : ∃ m, m = V8 t := ⟨_, rfl⟩
  have m0 := V8_lo t; have m1 := V8_hi t
  rw [← hm] at m0 m1
  have em : min (max t 1) 8 = m := hm.symm
  have HM := Lib.hid hm; clear hm
  have y0 : 0 ≤ z % 20 := by omega
  have y1 : z % 20 ≤ 19 := by omega
  go_enter Try.func6, Try.ntmps6
  go_wp2_with fail
  refine (wnew_any _ _).mono ?_; rintro e w0 ⟨x, rfl, hx, hb, hk⟩
  rw [← HM.out] at hb
  have HX0 := Lib.hid hb; have HK0 := Lib.hid hk; clear hb hk
  go_wp2_with fail
  clear em
  go_loopg [7] ((z % 20).toNat) (fun k i wr => ∃ (j : Nat) (c : Int), k = (z % 20).toNat - j ∧ (j : Int) ≤ z % 20 ∧ i = .int .i64 j ∧ 1 ≤ c ∧ c ≤ m ∧ Hid (c = min ((j : Int) + 1) m) ∧ wr.heap[x]? = some (.cells (Wd m c 0) 73 (0, 0)) ∧ Kp (fun _ => False) W wr)
  case atStart => exact ⟨0, 1, by omega, by omega, rfl, by omega, by omega, Lib.hid (by omega), HX0.out, HK0.out⟩
  case round =>
    obtain ⟨j, c, hk, hj, rfl, c0, c1, hc, hX, hkp⟩ := hrel
    have HX := Lib.hid hX; have HKP := Lib.hid hkp; have HKk := Lib.hid hk; clear hX hkp hk
    have ok0 := Lib.hid (show WOk m c 0 by unfold WOk; omega)
    have ok1 := Lib.hid (show WOk m c 1 by unfold WOk; omega)
    have eb := Lib.hid (show Bg c 0 = true by unfold Bg; rw [decide_eq_true_eq]; omega)
    have eb1 := Lib.hid (show Bb c 0 = 1 by unfold Bb; rw [if_pos (by omega)]; rfl)
    have ee : Ed 1 = true := by decide
    have ee1 : Eb 1 = 0 := by decide
    have EE := Lib.hid ee; have EE1 := Lib.hid ee1; clear ee ee1
    by_cases hlt : (j : Int) < z % 20
    · have en := Lib.hid (show En true m c 1 = min (c + 1) m by unfold En; rw [if_pos (by omega)])
      go_wp2_with fail
      refine (wbegin_any x m c 0 _ ok0.out HX.out).mono ?_; rintro e w1 ⟨rfl, hX1, hk1⟩
      rw [eb.out]; rw [eb1.out] at hX1
      have HX1 := Lib.hid hX1; clear hX1
      go_wp2_with fail
      refine (wend_any x true m c 1 _ ok1.out HX1.out).mono ?_; rintro e w2 ⟨rfl, hX2, hk2⟩
      rw [EE.out]; rw [en.out, EE1.out] at hX2
      have HX2 := Lib.hid hX2; clear hX2
      go_wp2_with fail
      go_roundg ((z % 20).toNat - (j + 1))
      case measure => rw [HKk.out]; omega
      case rel =>
        have := hc.out
        exact ⟨j + 1, min (c + 1) m, rfl, by omega, by go_num, by omega, by omega, Lib.hid (by omega), HX2.out, HKP.out.trans_new (hk1.trans hk2) (fun k h1 h2 => by have h3 : k = x := h2; have h4 : W.heap.size ≤ x := hx; omega)⟩
    · have hc2 := Lib.hid (show c = min (z % 20 + 1) m by rw [hc.out]; omega)
      have hw : (c != min (z % 20 + 1) m) = false := by rw [← hc2.out]; simp
      have en := Lib.hid (show En false m c 1 = max (c / 2) 1 by unfold En; rw [if_pos (by omega)]; simp only; omega)
      have hn : (max (c / 2) 1 == max ((min (z % 20 + 1) m) / 2) 1) = true := by rw [← hc2.out]; simp
      have b0 : 0 ≤ c / 2 := by omega
      go_wp2_with fail
      refine (wnow_any x m c 0 _ HX.out).mono ?_; rintro e w' ⟨rfl, rfl⟩
      go_wp2_with fail
      refine (wbegin_any x m c 0 _ ok0.out HX.out).mono ?_; rintro e w1 ⟨rfl, hX1, hk1⟩
      rw [eb1.out] at hX1
      have HX1 := Lib.hid hX1; clear hX1
      go_wp2_with fail
      refine (wend_any x false m c 1 _ ok1.out HX1.out).mono ?_; rintro e w2 ⟨rfl, hX2, hk2⟩
      rw [en.out, EE1.out] at hX2
      have HX2 := Lib.hid hX2; clear hX2
      go_wp2_with fail
      refine (wans_any _).mono ?_; rintro e w3 ⟨rfl, hk3⟩
      have HX3 := Lib.hid (hk3.keep HX2.out (fun h => h))
      go_wp2_with fail
      refine (wnow_any x m _ 0 _ HX3.out).mono ?_; rintro e w' ⟨rfl, rfl⟩
      go_wp2_with fail
      refine (wbusy_any x m _ 0 _ HX3.out).mono ?_; rintro e w' ⟨rfl, rfl⟩
      go_wp2_with fail
      go_ret
      exact ⟨rfl, ((HKP.out.trans_new (hk1.trans hk2) (fun k h1 h2 => by have h3 : k = x := h2; have h4 : W.heap.size ≤ x := hx; omega)).trans hk3).below (fun _ _ h => h)⟩
end Go.Proofs.Ytihndplkkpglcaa
