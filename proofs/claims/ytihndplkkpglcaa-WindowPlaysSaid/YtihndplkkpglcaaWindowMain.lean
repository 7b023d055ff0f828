/- WindowPlays: whatever begins, and ends, is as the reference's window has it: the law returns true for every input. No condition. -/
import Derived.Test.YtihndplkkpglcaaWindowLaws
namespace Go.Proofs.Ytihndplkkpglcaa
open Go.RowKit Go.ChangeShapes Go.WideShapes

set_option maxRecDepth 100000 in
set_option maxHeartbeats 1600000 in
theorem windowPlays_law {H : Type} {enc : TypeId × Value → H} (W : World) {base : Nat} (v0 v1 : Value) (d0 d1 : DataW H) (p0 p1 : List MemPlace)
    (k0 : Value.okWide Try.prog W .any base 3 v0) (k1 : Value.okWide Try.prog W .any base 22 v1)
    (h0 : DataW.Trod enc Try.prog W 0 (fun _ => true) true 3 v0 d0 p0) (h1 : DataW.Trod enc Try.prog W 0 (fun _ => true) true 22 v1 d1 p1) :
    Calls Try.prog 3 #[v0, v1] W fun e W' => e = .returned (.bool true) ∧ Below W.heap.size W W' := by
  obtain ⟨t, rfl, rfl, rfl, _⟩ := open_int Try.underlying3 k0 h0
  obtain ⟨ao, len, cap, f, rfl, hcap, hlen, hrow, hwf⟩ := open_introw Try.underlying22 cells_u8 Try.underlying5 k1 h1
  clear h0 h1 k0 k1
  have HR1 := Lib.hid hrow; have HW1 := Lib.hid hwf; clear hrow hwf
  obtain ⟨m, hm⟩ : ∃ m, m = V8 t := ⟨_, rfl⟩
  have m0 := V8_lo t; have m1 := V8_hi t
  rw [← hm] at m0 m1
  have HM := Lib.hid hm; clear hm
  go_enter Try.func3, Try.ntmps3
  go_wp2_with fail
  refine (wnew_any _ _).mono ?_; rintro e w0 ⟨x, rfl, hx, hb, hk⟩
  rw [← HM.out] at hb
  have HX00 := Lib.hid hb; have HK00 := Lib.hid hk; clear hb hk
  go_wp2_with fail
  refine (rwnew_any _ _).mono ?_; rintro e w1 ⟨y, rfl, hy, hb, hk⟩
  rw [← HM.out] at hb
  have hlx := lt_of_block HX00.out
  have HX0 := Lib.hid (hk.keep HX00.out (fun h => h))
  have HY0 := Lib.hid hb; have HK0 := Lib.hid (HK00.out.trans hk); clear hb hk HX00 HK00
  have hxy : x < y := by omega
  go_wp2_with fail
  go_loopg [7] len (fun k i wr => ∃ (j : Nat) (n b : Int), k = len - j ∧ j ≤ len ∧ i = .int .i64 j ∧ WOk m n b ∧ wr.heap[x]? = some (.cells (Wd m n b) 73 (0, 0)) ∧ wr.heap[y]? = some (.cells (Wd m n b) 31 (0, 0)) ∧ Kp (fun _ => False) W wr)
  case atStart => exact ⟨0, 1, 0, by omega, by omega, rfl, by unfold WOk; omega, HX0.out, HY0.out, HK0.out⟩
  case round =>
    obtain ⟨j, n, b, hk, hj, rfl, hok, hX, hY, hkp⟩ := hrel
    have HX := Lib.hid hX; have HY := Lib.hid hY; have HKP := Lib.hid hkp; have HKk := Lib.hid hk; have HOK := Lib.hid hok; clear hX hY hkp hk hok
    have hxW : W.heap.size ≤ x := hx
    by_cases hlt : j < len
    · by_cases h500 : j < 500
      · obtain ⟨a, off, rfl, ha, hrow0⟩ := HR1.out.get hlt
        obtain ⟨z, hz⟩ : ∃ z, z = f j := ⟨_, rfl⟩
        have HC0 := Lib.hid (show W.cell? ⟨a, off + j, none⟩ = some (.int .u8 z) by rw [hz]; exact hrow0 j hlt)
        obtain ⟨z0, z1⟩ := bounds_u8 (HW1.out j hlt)
        rw [← hz] at z0 z1
        clear hz hrow0
        have hc := (HKP.out.cell (off + j) ha (fun h => h)).trans HC0.out
        have lW := HKP.out.size
        have ly0 := lt_of_block HY.out
        by_cases hz3 : z % 3 = 0
        · have b1 : (z % 3 == 0) = true := by rw [beq_iff_eq]; exact hz3
          clear hz3
          go_wp2_with fail
          refine (wbegin_any x m n b _ HOK.out HX.out).mono ?_; rintro e w1 ⟨rfl, hX1, hk1⟩
          have HY9 := Lib.hid (hk1.keep HY.out (show ¬ y = x by omega))
          have HX9 := Lib.hid hX1; clear hX1
          go_wp2_with fail
          refine (rwbegin_any y m n b _ HOK.out HY9.out).mono ?_; rintro e w2 ⟨rfl, hY1, hk2⟩
          have hX1 := hk2.keep HX9.out (show ¬ x = y by omega)
          have HKP1 := Lib.hid ((HKP.out.trans_new hk1 (fun k h1 h2 => by have h3 : k = x := h2; omega)).trans_new hk2 (fun k h1 h2 => by have h3 : k = y := h2; omega))
          have HOK1 := Lib.hid HOK.out.begin
          obtain ⟨n', rfl⟩ : ∃ n' : Int, n' = n := ⟨_, rfl⟩
          obtain ⟨b', hb'⟩ : ∃ b', b' = Bb n' b := ⟨_, rfl⟩
          rw [← hb'] at hX1 hY1 HOK1
          clear hb' hc
          have HX1 := Lib.hid hX1; have HY1 := Lib.hid hY1; clear hX1 hY1
          obtain ⟨q1, q2, q3, q4, q5⟩ := HOK1.out
          have ly := lt_of_block HY1.out
          have cy1 := cell_of HY1.out 1
          have cy2 := cell_of HY1.out 2
          simp only [Wd, List.getElem?_toArray, List.getElem?_cons_zero, List.getElem?_cons_succ] at cy1 cy2
          go_wp2_with fail
          go_quiet (first | (go_at_call 20; exact Calls.quiet_of_same ((wnow_any x m n' b' _ (by exact HX1.out)).flip)) | (go_at_call 21; exact Calls.quiet_of_same ((wbusy_any x m n' b' _ (by exact HX1.out)).flip)))
          go_wp2_with fail
          go_roundg (len - (j + 1))
          case measure => rw [HKk.out]; omega
          case rel => exact ⟨j + 1, n', b', rfl, by omega, by go_num, HOK1.out, HX1.out, HY1.out, HKP1.out.drewN _⟩
        · have b1 : (z % 3 == 0) = false := by rw [beq_eq_false_iff_ne]; exact hz3
          clear hz3
          go_wp2_with fail
          go_region_held3 (fun w' => w'.cell? ⟨a, off + j, none⟩ = some (.int .u8 z)) (first | exact hc | exact (hk1.cell (off + j) (Nat.lt_of_lt_of_le ha lW) (show ¬ a = x by omega)).trans hc | exact (hk2.cell (off + j) (Nat.lt_of_lt_of_le (Nat.lt_of_lt_of_le ha lW) hk1.size) (show ¬ a = y by omega)).trans ((hk1.cell (off + j) (Nat.lt_of_lt_of_le ha lW) (show ¬ a = x by omega)).trans hc))
            (first | (go_at_call 18; refine (wend_any x _ m n b _ HOK.out (by exact HX.out)).mono ?_; rintro e w1 ⟨rfl, hX1, hk1⟩; have HY9 := Lib.hid (hk1.keep (by exact HY.out) (show ¬ y = x by omega)); have HX9 := Lib.hid hX1; clear hX1) | (go_at_call 19; refine (rwend_any y _ m n b _ HOK.out (by exact HY9.out)).mono ?_; rintro e w2 ⟨rfl, hY1, hk2⟩; have hX1 := hk2.keep (by exact HX9.out) (show ¬ x = y by omega)))
          have HKP1 := Lib.hid ((HKP.out.drew.trans_new hk1 (fun k h1 h2 => by have h3 : k = x := h2; omega)).trans_new hk2 (fun k h1 h2 => by have h3 : k = y := h2; omega))
          have HOK1 := Lib.hid (HOK.out.ends (z.tmod 3 == 1))
          obtain ⟨n', hn'⟩ : ∃ n', n' = En (z.tmod 3 == 1) m n b := ⟨_, rfl⟩
          obtain ⟨b', hb'⟩ : ∃ b', b' = Eb b := ⟨_, rfl⟩
          rw [← hn', ← hb'] at hX1 hY1 HOK1
          clear hn' hb' hc
          have HX1 := Lib.hid hX1; have HY1 := Lib.hid hY1; clear hX1 hY1
          obtain ⟨q1, q2, q3, q4, q5⟩ := HOK1.out
          have ly := lt_of_block HY1.out
          have cy1 := cell_of HY1.out 1
          have cy2 := cell_of HY1.out 2
          simp only [Wd, List.getElem?_toArray, List.getElem?_cons_zero, List.getElem?_cons_succ] at cy1 cy2
          go_wp2_with fail
          go_quiet (first | (go_at_call 20; exact Calls.quiet_of_same ((wnow_any x m n' b' _ (by exact HX1.out)).flip)) | (go_at_call 21; exact Calls.quiet_of_same ((wbusy_any x m n' b' _ (by exact HX1.out)).flip)))
          go_wp2_with fail
          go_roundg (len - (j + 1))
          case measure => rw [HKk.out]; omega
          case rel => exact ⟨j + 1, n', b', rfl, by omega, by go_num, HOK1.out, HX1.out, HY1.out, HKP1.out.drewN _⟩
      · go_wp2_with fail
        refine (wans_any _).mono ?_; rintro e w2 ⟨rfl, hk2⟩
        go_wp2_with fail
        go_ret
        exact ⟨rfl, (HKP.out.trans hk2).below (fun _ _ h => h)⟩
    · go_wp2_with fail
      refine (wans_any _).mono ?_; rintro e w2 ⟨rfl, hk2⟩
      go_wp2_with fail
      go_ret
      exact ⟨rfl, (HKP.out.trans hk2).below (fun _ _ h => h)⟩
end Go.Proofs.Ytihndplkkpglcaa
