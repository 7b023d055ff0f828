/- The laws of package back: each returns true for every input. No condition. -/
import Derived.Test.YtkhlcdmmhnmnoaaSatLaws
import Derived.Test.YtkhlcdmmhnmnoaaBackAid
namespace Go.Proofs.Ytkhlcdmmhnmnoaa
open Go.RowKit SatAid BackAid Go.ChangeShapes Go.WideShapes
attribute [local go_sem] Mm.max2_int Mm.min2_int Mm.max_two Mm.min_two

theorem pause_any (b m t : Int) (w : World) : Calls Try.prog 22 #[.int .i64 b, .int .i64 m, .int .i64 t] w fun e w' => e = .returned (.int .i64 (Z b m t)) ∧ w = w' := by
  have n0 : 0 ≤ min (max t 0) 62 := by omega
  have n1 : min (max t 0) 62 ≤ 62 := by omega
  have H := Lib.hid (Z_code b m t)
  go_enter Try.func22, Try.ntmps22
  go_wp2_with (first | (go_at_call 16; refine (add_any _ _ _).mono ?_; rintro e w' ⟨rfl, rfl⟩) | (go_at_call 17; refine (sub_any _ _ _).mono ?_; rintro e w' ⟨rfl, rfl⟩) | (go_at_call 18; refine (mul_any _ _ _).mono ?_; rintro e w' ⟨rfl, rfl⟩) | (go_at_call 15; refine (clamp_any _ _).mono ?_; rintro e w' ⟨rfl, rfl⟩))
  go_ret
  exact ⟨ret_int H.out, rfl⟩

theorem next_any (n b m t : Int) (w : World) : Calls Try.prog 23 #[.int .i64 n, .int .i64 b, .int .i64 m, .int .i64 t] w fun e w' => e = .returned (.int .i64 (A n (Z b m t))) ∧ w = w' := by
  go_enter Try.func23, Try.ntmps23
  go_wp2_with (first | (go_at_call 16; refine (add_any _ _ _).mono ?_; rintro e w' ⟨rfl, rfl⟩) | (go_at_call 17; refine (sub_any _ _ _).mono ?_; rintro e w' ⟨rfl, rfl⟩) | (go_at_call 18; refine (mul_any _ _ _).mono ?_; rintro e w' ⟨rfl, rfl⟩) | (go_at_call 15; refine (clamp_any _ _).mono ?_; rintro e w' ⟨rfl, rfl⟩) | (go_at_call 22; refine (pause_any _ _ _ _).mono ?_; rintro e w' ⟨rfl, rfl⟩) | (go_at_call 23; refine (next_any _ _ _ _ _).mono ?_; rintro e w' ⟨rfl, rfl⟩))
  go_ret
  exact ⟨rfl, rfl⟩

theorem bans_any (w : World) : Calls Try.prog 21 #[] w fun e w' => e = .returned (.bool true) ∧ w = w' := by
  have e1 : (Z 3 100 4 == 48) = true := by decide
  have e2 : (A 5 (Z 3 100 9) == 105) = true := by decide
  go_enter Try.func21, Try.ntmps21
  go_wp2_with (first | (go_at_call 22; refine (pause_any _ _ _ _).mono ?_; rintro e w' ⟨rfl, rfl⟩) | (go_at_call 23; refine (next_any _ _ _ _ _).mono ?_; rintro e w' ⟨rfl, rfl⟩))
  go_ret
  exact ⟨rfl, rfl⟩

theorem rpause_any (b m t : Int) (w : World) : Calls Try.prog 20 #[.int .i64 b, .int .i64 m, .int .i64 t] w fun e w' => e = .returned (.int .i64 (Z b m t)) ∧ w = w' := by
  have ha := C_lo b; have hb := C_lo m; have ha' := C_hi b; have hb' := C_hi m
  go_enter Try.func20, Try.ntmps20
  go_wp2_with (first | (go_at_call 13; refine (rclamp_any _ _).mono ?_; rintro e w' ⟨rfl, rfl⟩))
  go_loop [7, 9] (fun x i => ∃ (k : Nat) (p : Int), k ≤ 100 ∧ Hid (k ≤ (max t 0).toNat) ∧ 0 ≤ p ∧ p ≤ 1099511627776 ∧ x = .int .i64 p ∧ i = .int .i64 k ∧ Hid (p = Q b k)) (fun _ i => 100 - (intOf i).toNat)
  case atStart => exact ⟨0, C b, by omega, Lib.hid (Nat.zero_le _), ha, ha', rfl, rfl, Lib.hid (Q_zero b).symm⟩
  case round =>
    obtain ⟨k, p, hk, hkt, p0, p1, rfl, rfl, hp⟩ := hrel
    by_cases h1 : (k : Int) < t
    · by_cases h2 : k < 100
      · have b1 : decide ((k : Int) < t) = true := by simp [h1]
        have c0 := C_lo (p + p); have c1 := C_hi (p + p)
        have H := Lib.hid (show C (p + p) = Q b (k + 1) by rw [dbl, hp.out])
        have H2 := Lib.hid (show k + 1 ≤ (max t 0).toNat by omega)
        clear hp hkt
        go_wp2_with (first | (go_at_call 13; refine (rclamp_any _ _).mono ?_; rintro e w' ⟨rfl, rfl⟩))
        go_round
        case rel => exact ⟨k + 1, _, by omega, H2, c0, c1, rfl, by go_num, H⟩
        case measure => simp [intOf]; omega
      · have b1 : decide ((k : Int) < t) = true := by simp [h1]
        have H := Lib.hid (show min p (C m) = Z b m t by
          rw [← Z_far, hp.out, show (min (max t 0) 100).toNat = k by omega])
        clear hp hkt
        by_cases h3 : C m < p
        · have H2 := Lib.hid (show C m = Z b m t by rw [← H.out]; omega)
          go_wp2
          go_ret
          exact ⟨ret_int H2.out, rfl⟩
        · have H2 := Lib.hid (show p = Z b m t by rw [← H.out]; omega)
          go_wp2
          go_ret
          exact ⟨ret_int H2.out, rfl⟩
    · have b1 : decide ((k : Int) < t) = false := by simp; omega
      have H := Lib.hid (show min p (C m) = Z b m t by
        have := hkt.out
        rw [← Z_far, hp.out, show (min (max t 0) 100).toNat = k by omega])
      clear hp hkt
      by_cases h3 : C m < p
      · have H2 := Lib.hid (show C m = Z b m t by rw [← H.out]; omega)
        go_wp2
        go_ret
        exact ⟨ret_int H2.out, rfl⟩
      · have H2 := Lib.hid (show p = Z b m t by rw [← H.out]; omega)
        go_wp2
        go_ret
        exact ⟨ret_int H2.out, rfl⟩

theorem backPauses_law {H : Type} {enc : TypeId × Value → H} (W : World) {base : Nat} (v0 v1 v2 v3 : Value) (d0 d1 d2 d3 : DataW H) (p0 p1 p2 p3 : List MemPlace)
    (k0 : Value.okWide Try.prog W .any base 3 v0) (k1 : Value.okWide Try.prog W .any base 3 v1) (k2 : Value.okWide Try.prog W .any base 3 v2) (k3 : Value.okWide Try.prog W .any base 3 v3)
    (h0 : DataW.Trod enc Try.prog W 0 (fun _ => true) true 3 v0 d0 p0) (h1 : DataW.Trod enc Try.prog W 0 (fun _ => true) true 3 v1 d1 p1) (h2 : DataW.Trod enc Try.prog W 0 (fun _ => true) true 3 v2 d2 p2) (h3 : DataW.Trod enc Try.prog W 0 (fun _ => true) true 3 v3 d3 p3) :
    Calls Try.prog 7 #[v0, v1, v2, v3] W fun e W' => e = .returned (.bool true) ∧ Below W.heap.size W W' := by
  obtain ⟨n, rfl, rfl, rfl, _⟩ := open_int Try.underlying3 k0 h0
  obtain ⟨b, rfl, rfl, rfl, _⟩ := open_int Try.underlying3 k1 h1
  obtain ⟨m, rfl, rfl, rfl, _⟩ := open_int Try.underlying3 k2 h2
  obtain ⟨t, rfl, rfl, rfl, _⟩ := open_int Try.underlying3 k3 h3
  clear h0 h1 h2 h3 k0 k1 k2 k3
  have z0 := Z_lo b m t; have z1 := Z_hi b m t; have c0 := C_lo n; have c1 := C_hi n; have c2 := C_hi m
  have e1 : (A n (Z b m t) == C (C n + Z b m t)) = true := by rw [beq_iff_eq]; unfold A; rw [C_of z0 (by omega)]
  go_enter Try.func7, Try.ntmps7
  go_wp2_with (first | (go_at_call 22; refine (pause_any _ _ _ _).mono ?_; rintro e w' ⟨rfl, rfl⟩) | (go_at_call 23; refine (next_any _ _ _ _ _).mono ?_; rintro e w' ⟨rfl, rfl⟩) | (go_at_call 13; refine (rclamp_any _ _).mono ?_; rintro e w' ⟨rfl, rfl⟩) | (go_at_call 21; refine (bans_any _).mono ?_; rintro e w' ⟨rfl, rfl⟩) | (go_at_call 20; refine (rpause_any _ _ _ _).mono ?_; rintro e w' ⟨rfl, rfl⟩))
  go_ret
  exact ⟨rfl, by repeat (first | exact Below.refl _ _ | apply Below.drew | refine Below.alloc ?_ (by simp) _)⟩

theorem backGrows_law {H : Type} {enc : TypeId × Value → H} (W : World) {base : Nat} (v0 v1 v2 : Value) (d0 d1 d2 : DataW H) (p0 p1 p2 : List MemPlace)
    (k0 : Value.okWide Try.prog W .any base 3 v0) (k1 : Value.okWide Try.prog W .any base 3 v1) (k2 : Value.okWide Try.prog W .any base 5 v2)
    (h0 : DataW.Trod enc Try.prog W 0 (fun _ => true) true 3 v0 d0 p0) (h1 : DataW.Trod enc Try.prog W 0 (fun _ => true) true 3 v1 d1 p1) (h2 : DataW.Trod enc Try.prog W 0 (fun _ => true) true 5 v2 d2 p2) :
    Calls Try.prog 8 #[v0, v1, v2] W fun e W' => e = .returned (.bool true) ∧ Below W.heap.size W W' := by
  obtain ⟨b, rfl, rfl, rfl, _⟩ := open_int Try.underlying3 k0 h0
  obtain ⟨m, rfl, rfl, rfl, _⟩ := open_int Try.underlying3 k1 h1
  obtain ⟨t, rfl, rfl, rfl, w2⟩ := open_int Try.underlying5 k2 h2
  obtain ⟨t0, t1⟩ := bounds_u8 w2
  clear h0 h1 h2 k0 k1 k2 w2
  have z0 := Z_lo b m t; have z1 := Z_hi b m t; have z2 := Z_hi b m (t + 1); have c1 := C_hi m
  have e1 : (Z b m (t + 1) == min (Z b m t + Z b m t) (C m)) = true := by rw [beq_iff_eq]; exact Z_next b m t t0
  have e2 : Z b m t ≤ Z b m (t + 1) := by rw [Z_next b m t t0]; omega
  have wt : wrap64 t = t := w64 (by omega) (by omega)
  go_enter Try.func8, Try.ntmps8
  go_wp2_with (first | (go_at_call 22; refine (pause_any _ _ _ _).mono ?_; rintro e w' ⟨rfl, rfl⟩) | (go_at_call 23; refine (next_any _ _ _ _ _).mono ?_; rintro e w' ⟨rfl, rfl⟩) | (go_at_call 13; refine (rclamp_any _ _).mono ?_; rintro e w' ⟨rfl, rfl⟩) | (go_at_call 21; refine (bans_any _).mono ?_; rintro e w' ⟨rfl, rfl⟩))
  go_ret
  exact ⟨rfl, by repeat (first | exact Below.refl _ _ | apply Below.drew | refine Below.alloc ?_ (by simp) _)⟩
end Go.Proofs.Ytkhlcdmmhnmnoaa
