/- The four laws of package sat: each returns true for every input. No condition. -/
import Derived.Test.YtkhlcdmmhnmnoaaSat
import Derived.Test.YtkhlcdmmhnmnoaaAid
namespace Go.Proofs.Ytkhlcdmmhnmnoaa
open Go.RowKit SatAid Go.ChangeShapes Go.WideShapes
attribute [local go_sem] Mm.max2_int Mm.min2_int Mm.max_two Mm.min_two

theorem rclamp_any (n : Int) (w : World) : Calls Try.prog 13 #[.int .i64 n] w fun e w' => e = .returned (.int .i64 (C n)) ∧ w = w' := by
  by_cases h : n < 0
  · have H := Lib.hid (show 0 = C n by unfold C; rw [if_pos h])
    go_enter Try.func13, Try.ntmps13
    go_wp2
    go_ret
    exact ⟨ret_int H.out, rfl⟩
  · by_cases h2 : n > 1099511627776
    · have H := Lib.hid (show 1099511627776 = C n by unfold C; rw [if_neg h, if_pos h2])
      go_enter Try.func13, Try.ntmps13
      go_wp2
      go_ret
      exact ⟨ret_int H.out, rfl⟩
    · have H := Lib.hid (show n = C n by unfold C; rw [if_neg h, if_neg h2])
      go_enter Try.func13, Try.ntmps13
      go_wp2
      go_ret
      exact ⟨ret_int H.out, rfl⟩

theorem sans_any (w : World) : Calls Try.prog 14 #[] w fun e w' => e = .returned (.bool true) ∧ w = w' := by
  have e1 : (A 1099511627776 1 == 1099511627776) = true := by decide
  have e2 : (D 5 3 == 2) = true := by decide
  have e3 : (M 6 7 == 42) = true := by decide
  have e4 : (C (-1) == 0) = true := by decide
  go_enter Try.func14, Try.ntmps14
  go_wp2_with (first | (go_at_call 15; refine (clamp_any _ _).mono ?_; rintro e w' ⟨rfl, rfl⟩) | (go_at_call 16; refine (add_any _ _ _).mono ?_; rintro e w' ⟨rfl, rfl⟩) | (go_at_call 17; refine (sub_any _ _ _).mono ?_; rintro e w' ⟨rfl, rfl⟩) | (go_at_call 18; refine (mul_any _ _ _).mono ?_; rintro e w' ⟨rfl, rfl⟩))
  go_ret
  exact ⟨rfl, rfl⟩

theorem three_any (a b c : Int) (w : World) : Calls Try.prog 5 #[.int .i64 a, .int .i64 b, .int .i64 c] w fun e w' => e = .returned (.bool true) ∧ w = w' := by
  have ha := C_lo a; have hb := C_lo b; have hc := C_lo c
  have e1 : (A a b == A b a) = true := by rw [beq_iff_eq]; unfold A; rw [Int.add_comm]
  have e2 : (A (A a b) c == A a (A b c)) = true := by
    rw [beq_iff_eq]; unfold A
    rw [C_C (C a + C b), C_C (C b + C c), C_min (n := C a + C b) (by omega), C_min (n := C b + C c) (by omega), C_min (n := min (C a + C b) 1099511627776 + C c) (by omega), C_min (n := C a + min (C b + C c) 1099511627776) (by omega)]
    omega
  have e3 : (M a b == M b a) = true := by rw [beq_iff_eq, M_comm]
  have e4 : (D (D a b) c == D a (A b c)) = true := by
    rw [beq_iff_eq]; unfold D A
    have := C_hi a
    rw [C_C (C b + C c), C_min (n := C b + C c) (by omega), C_of (n := max (C a - C b) 0) (by omega) (by omega)]
    omega
  clear ha hb hc
  go_enter Try.func5, Try.ntmps5
  go_wp2_with (first | (go_at_call 14; refine (sans_any _).mono ?_; rintro e w' ⟨rfl, rfl⟩) | (go_at_call 16; refine (add_any _ _ _).mono ?_; rintro e w' ⟨rfl, rfl⟩) | (go_at_call 17; refine (sub_any _ _ _).mono ?_; rintro e w' ⟨rfl, rfl⟩) | (go_at_call 18; refine (mul_any _ _ _).mono ?_; rintro e w' ⟨rfl, rfl⟩))
  go_ret
  exact ⟨rfl, rfl⟩

theorem exact_any (x y : Int) (w : World) (x0 : 0 ≤ x) (x1 : x ≤ 4294967295) (y0 : 0 ≤ y) (y1 : y ≤ 4294967295) : Calls Try.prog 6 #[.int .u32 x, .int .u32 y] w fun e w' => e = .returned (.bool true) ∧ w = w' := by
  have hx0 : 0 ≤ x / 4 := by omega
  have hx1 : x / 4 ≤ 1073741823 := by omega
  have hy0 : 0 ≤ y / 4 := by omega
  have hy1 : y / 4 ≤ 1073741823 := by omega
  have cx : C (x / 4) = x / 4 := C_of (by omega) (by omega)
  have cy : C (y / 4) = y / 4 := C_of (by omega) (by omega)
  have e1 : (A (x / 4) (y / 4) == x / 4 + y / 4) = true := by rw [beq_iff_eq]; unfold A; rw [cx, cy]; exact C_of (by omega) (by omega)
  have e2 : (D (x / 4) (y / 4) == max (x / 4 - y / 4) 0) = true := by rw [beq_iff_eq]; unfold D; rw [cx, cy]
  have e3 : (C (x / 4) == x / 4) = true := by rw [beq_iff_eq, cx]
  have p0 : 0 ≤ (x / 4) * (y / 4) := Int.mul_nonneg hx0 hy0
  have p1 : (x / 4) * (y / 4) ≤ 1073741823 * 1073741823 := Int.mul_le_mul hx1 hy1 hy0 (by omega)
  have p2 : (x / 4) * (y / 4) ≤ 1152921504606846976 := by omega
  have e4 : (M (x / 4) (y / 4) == min ((x / 4) * (y / 4)) 1099511627776) = true := by rw [beq_iff_eq]; unfold M; rw [cx, cy]
  have e5 : (D (A (x / 4) (y / 4)) (y / 4) == x / 4) = true := by
    have : A (x / 4) (y / 4) = x / 4 + y / 4 := by unfold A; rw [cx, cy]; exact C_of (by omega) (by omega)
    rw [beq_iff_eq]; unfold D; rw [this, cy, C_of (by omega) (by omega)]; omega
  clear cx cy p1
  go_enter Try.func6, Try.ntmps6
  go_wp2_with (first | (go_at_call 16; refine (add_any _ _ _).mono ?_; rintro e w' ⟨rfl, rfl⟩) | (go_at_call 17; refine (sub_any _ _ _).mono ?_; rintro e w' ⟨rfl, rfl⟩) | (go_at_call 18; refine (mul_any _ _ _).mono ?_; rintro e w' ⟨rfl, rfl⟩) | (go_at_call 15; refine (clamp_any _ _).mono ?_; rintro e w' ⟨rfl, rfl⟩) | (go_at_call 14; refine (sans_any _).mono ?_; rintro e w' ⟨rfl, rfl⟩))
  go_ret
  exact ⟨rfl, rfl⟩

/-- a round of the reference's product -/
theorem mul_step {a b out : Int} (ha : 0 ≤ a) (ho : 0 ≤ out) (ho' : out ≤ 1099511627776) (hb : 0 < b) :
    (b % 2 = 1 → min (C (out + a) + C (a + a) * (b / 2)) 1099511627776 = min (out + a * b) 1099511627776) ∧
    (¬ b % 2 = 1 → min (out + C (a + a) * (b / 2)) 1099511627776 = min (out + a * b) 1099511627776) := by
  obtain ⟨q, hq⟩ : ∃ q, q = b / 2 := ⟨_, rfl⟩
  obtain ⟨r, hr⟩ : ∃ r, r = b % 2 := ⟨_, rfl⟩
  rw [← hq, ← hr]
  have hb2 : b = 2 * q + r := by omega
  have hq0 : 0 ≤ q := by omega
  have hr01 : r = 0 ∨ r = 1 := by omega
  have p0 : 0 ≤ a * q := Int.mul_nonneg ha hq0
  have p1 : q = 0 ∨ a ≤ a * q := by
    by_cases h : q = 0
    · exact Or.inl h
    · exact Or.inr (by have := Int.mul_le_mul_of_nonneg_left (show 1 ≤ q by omega) ha; rwa [Int.mul_one] at this)
  have eab : a * b = 2 * (a * q) + a * r := by rw [hb2, Int.mul_add, Int.mul_left_comm]
  have key : ∀ out' : Int, 0 ≤ out' → out' = min (out + a * r) 1099511627776 → min (out' + C (a + a) * q) 1099511627776 = min (out + a * b) 1099511627776 := by
    intro out' ho2 hout
    have hy0 : 0 ≤ a * r := by rcases hr01 with h | h <;> rw [h] <;> omega
    rw [C_min (by omega)]
    by_cases hc : a + a ≤ 1099511627776
    · have e : min (a + a) 1099511627776 * q = 2 * (a * q) := by rw [Int.min_eq_left hc, Int.add_mul]; omega
      rw [e, eab]; omega
    · have e : min (a + a) 1099511627776 * q = 1099511627776 * q := by rw [Int.min_eq_right (by omega)]
      rw [e, eab]
      rcases p1 with p1 | p1
      · rw [p1]; simp; omega
      · have : q = 0 ∨ 1 ≤ q := by omega
        rcases this with h | h
        · rw [h]; simp; omega
        · omega
  constructor
  · intro h
    refine key _ (C_lo _) ?_
    rw [C_min (by omega), h, Int.mul_one]
  · intro h
    refine key _ ho ?_
    have : r = 0 := by omega
    rw [this, Int.mul_zero]; omega

theorem rmul_any (a b : Int) (w : World) : Calls Try.prog 19 #[.int .i64 a, .int .i64 b] w fun e w' => e = .returned (.int .i64 (M a b)) ∧ w = w' := by
  have ha := C_lo a; have hb := C_lo b; have ha' := C_hi a; have hb' := C_hi b
  go_enter Try.func19, Try.ntmps19
  go_wp2_with (go_at_call 13; refine (rclamp_any _ _).mono ?_; rintro e w' ⟨rfl, rfl⟩)
  go_loop [0, 1, 5] (fun x y o => ∃ p q r : Int, 0 ≤ p ∧ p ≤ 1099511627776 ∧ 0 ≤ q ∧ q ≤ 1099511627776 ∧ 0 ≤ r ∧ r ≤ 1099511627776 ∧ x = .int .i64 p ∧ y = .int .i64 q ∧ o = .int .i64 r ∧ Hid (min (r + p * q) 1099511627776 = M a b)) (fun _ y _ => (intOf y).toNat)
  case atStart => exact ⟨_, _, 0, ha, ha', hb, hb', by omega, by omega, rfl, rfl, rfl, Lib.hid (by unfold M; rw [Int.zero_add])⟩
  case round =>
    obtain ⟨p, q, r, p0, p1, q0, q1, r0, r1, rfl, rfl, rfl, hrel⟩ := hrel
    by_cases h0 : 0 < q
    · have st := mul_step p0 r0 r1 h0
      by_cases h1 : q % 2 = 1
      · have H := Lib.hid ((st.1 h1).trans hrel.out); clear st hrel
        have c1 := C_lo (r + p); have c2 := C_hi (r + p); have c3 := C_lo (p + p); have c4 := C_hi (p + p)
        have b1 : (q % 2 == 1) = true := by rw [beq_iff_eq]; exact h1
        clear h1
        go_wp2_with (go_at_call 13; refine (rclamp_any _ _).mono ?_; rintro e w' ⟨rfl, rfl⟩)
        go_round
        case rel => exact ⟨_, _, _, c3, c4, by omega, by omega, c1, c2, rfl, rfl, rfl, H⟩
        case measure => simp [intOf]; omega
      · have H := Lib.hid ((st.2 h1).trans hrel.out); clear st hrel
        have c3 := C_lo (p + p); have c4 := C_hi (p + p)
        have b1 : (q % 2 == 1) = false := by rw [beq_eq_false_iff_ne]; exact h1
        clear h1
        go_wp2_with (go_at_call 13; refine (rclamp_any _ _).mono ?_; rintro e w' ⟨rfl, rfl⟩)
        go_round
        case rel => exact ⟨_, _, _, c3, c4, by omega, by omega, r0, r1, rfl, rfl, rfl, H⟩
        case measure => simp [intOf]; omega
    · obtain rfl : q = 0 := by omega
      have H := Lib.hid (show r = M a b by rw [← hrel.out, Int.mul_zero]; omega); clear hrel
      go_wp2
      go_ret
      exact ⟨ret_int H.out, rfl⟩

theorem counts_any (a b : Int) (w : World) : Calls Try.prog 3 #[.int .i64 a, .int .i64 b] w fun e w' => e = .returned (.bool true) ∧ w = w' := by
  have ha := C_lo a; have hb := C_lo b; have ha' := C_hi a; have hb' := C_hi b
  have e1 : (A a b == C (C a + C b)) = true := by rw [beq_iff_eq]; rfl
  have e2 : (D a b == C (C a - C b)) = true := by
    rw [beq_iff_eq]; unfold D
    by_cases h : C a - C b < 0
    · rw [show C (C a - C b) = 0 by unfold C at h ⊢; rw [if_pos h]]; omega
    · rw [C_of (n := C a - C b) (by omega) (by omega)]; omega
  go_enter Try.func3, Try.ntmps3
  go_wp2_with (first | (go_at_call 16; refine (add_any _ _ _).mono ?_; rintro e w' ⟨rfl, rfl⟩) | (go_at_call 17; refine (sub_any _ _ _).mono ?_; rintro e w' ⟨rfl, rfl⟩) | (go_at_call 18; refine (mul_any _ _ _).mono ?_; rintro e w' ⟨rfl, rfl⟩) | (go_at_call 15; refine (clamp_any _ _).mono ?_; rintro e w' ⟨rfl, rfl⟩) | (go_at_call 14; refine (sans_any _).mono ?_; rintro e w' ⟨rfl, rfl⟩) | (go_at_call 13; refine (rclamp_any _ _).mono ?_; rintro e w' ⟨rfl, rfl⟩) | (go_at_call 19; refine (rmul_any _ _ _).mono ?_; rintro e w' ⟨rfl, rfl⟩))
  go_ret
  exact ⟨rfl, rfl⟩

theorem orders_any (a b c : Int) (w : World) : Calls Try.prog 4 #[.int .i64 a, .int .i64 b, .int .i64 c] w fun e w' => e = .returned (.bool true) ∧ Below w.heap.size w w' := by
  by_cases h : b < a
  · go_enter Try.func4, Try.ntmps4
    go_wp2_with (go_at_call 14; refine (sans_any _).mono ?_; rintro e w' ⟨rfl, rfl⟩)
    go_ret
    exact ⟨rfl, by repeat (first | exact Below.refl _ _ | apply Below.drew | refine Below.alloc ?_ (by simp) _)⟩
  · have hab : a ≤ b := by omega
    have m := C_mono hab
    have e1 : A a c ≤ A b c := C_mono (by omega)
    have e2 : D a c ≤ D b c := by unfold D; omega
    have e3 : D c b ≤ D c a := by unfold D; omega
    have e4 : M a c ≤ M b c := M_mono c hab
    have l0 := A_lo a c; have h0 := A_hi a c; have l1 := D_lo a c; have h1 := D_hi a c; have l2 := M_lo a c; have h2 := M_hi a c; have l3 := C_lo a; have h3 := C_hi a
    clear m hab
    go_enter Try.func4, Try.ntmps4
    go_wp2_with (first | (go_at_call 16; refine (add_any _ _ _).mono ?_; rintro e w' ⟨rfl, rfl⟩) | (go_at_call 17; refine (sub_any _ _ _).mono ?_; rintro e w' ⟨rfl, rfl⟩) | (go_at_call 18; refine (mul_any _ _ _).mono ?_; rintro e w' ⟨rfl, rfl⟩) | (go_at_call 15; refine (clamp_any _ _).mono ?_; rintro e w' ⟨rfl, rfl⟩) | (go_at_call 14; refine (sans_any _).mono ?_; rintro e w' ⟨rfl, rfl⟩))
    go_loop [26] (fun i => ∃ k : Nat, k ≤ 4 ∧ i = .int .i64 k) (fun i => 4 - (intOf i).toNat)
    case atStart => exact ⟨0, by omega, rfl⟩
    case round =>
      obtain ⟨k, hk, rfl⟩ := hrel
      by_cases hlt : k < 4
      · obtain ⟨v, v0, v1, hv⟩ : ∃ v : Int, 0 ≤ v ∧ v ≤ 1099511627776 ∧ (w.alloc (.cells #[.int .i64 (A a c), .int .i64 (D a c), .int .i64 (M a c), .int .i64 (C a)] 3)).cell? ⟨w.heap.size, k, none⟩ = some (.int .i64 v) := by
          match k, hlt with
          | 0, _ => exact ⟨A a c, l0, h0, by simp⟩
          | 1, _ => exact ⟨D a c, l1, h1, by simp⟩
          | 2, _ => exact ⟨M a c, l2, h2, by simp⟩
          | 3, _ => exact ⟨C a, l3, h3, by simp⟩
        go_wp2
        go_round
        case rel => exact ⟨k + 1, by omega, by go_num⟩
        case measure => simp [intOf]; omega
      · obtain rfl : k = 4 := by omega
        go_wp2_with (first | (go_at_call 16; refine (add_any _ _ _).mono ?_; rintro e w' ⟨rfl, rfl⟩) | (go_at_call 17; refine (sub_any _ _ _).mono ?_; rintro e w' ⟨rfl, rfl⟩) | (go_at_call 18; refine (mul_any _ _ _).mono ?_; rintro e w' ⟨rfl, rfl⟩) | (go_at_call 15; refine (clamp_any _ _).mono ?_; rintro e w' ⟨rfl, rfl⟩) | (go_at_call 14; refine (sans_any _).mono ?_; rintro e w' ⟨rfl, rfl⟩))
        go_ret
        exact ⟨rfl, by repeat (first | exact Below.refl _ _ | apply Below.drew | refine Below.alloc ?_ (by simp) _)⟩

theorem satCounts_law {H : Type} {enc : TypeId × Value → H} (W : World) {base : Nat} (v0 v1 : Value) (d0 d1 : DataW H) (p0 p1 : List MemPlace)
    (k0 : Value.okWide Try.prog W .any base 3 v0) (k1 : Value.okWide Try.prog W .any base 3 v1)
    (h0 : DataW.Trod enc Try.prog W 0 (fun _ => true) true 3 v0 d0 p0) (h1 : DataW.Trod enc Try.prog W 0 (fun _ => true) true 3 v1 d1 p1) :
    Calls Try.prog 3 #[v0, v1] W fun e W' => e = .returned (.bool true) ∧ Below W.heap.size W W' := by
  obtain ⟨a0, rfl, rfl, rfl, w0⟩ := open_int Try.underlying3 k0 h0
  obtain ⟨a1, rfl, rfl, rfl, w1⟩ := open_int Try.underlying3 k1 h1
  refine (counts_any a0 a1 W).mono fun e W' ⟨he, hw⟩ => ⟨he, by subst hw; exact Below.refl _ _⟩

theorem satThree_law {H : Type} {enc : TypeId × Value → H} (W : World) {base : Nat} (v0 v1 v2 : Value) (d0 d1 d2 : DataW H) (p0 p1 p2 : List MemPlace)
    (k0 : Value.okWide Try.prog W .any base 3 v0) (k1 : Value.okWide Try.prog W .any base 3 v1) (k2 : Value.okWide Try.prog W .any base 3 v2)
    (h0 : DataW.Trod enc Try.prog W 0 (fun _ => true) true 3 v0 d0 p0) (h1 : DataW.Trod enc Try.prog W 0 (fun _ => true) true 3 v1 d1 p1) (h2 : DataW.Trod enc Try.prog W 0 (fun _ => true) true 3 v2 d2 p2) :
    Calls Try.prog 5 #[v0, v1, v2] W fun e W' => e = .returned (.bool true) ∧ Below W.heap.size W W' := by
  obtain ⟨a0, rfl, rfl, rfl, w0⟩ := open_int Try.underlying3 k0 h0
  obtain ⟨a1, rfl, rfl, rfl, w1⟩ := open_int Try.underlying3 k1 h1
  obtain ⟨a2, rfl, rfl, rfl, w2⟩ := open_int Try.underlying3 k2 h2
  refine (three_any a0 a1 a2 W).mono fun e W' ⟨he, hw⟩ => ⟨he, by subst hw; exact Below.refl _ _⟩

theorem satExact_law {H : Type} {enc : TypeId × Value → H} (W : World) {base : Nat} (v0 v1 : Value) (d0 d1 : DataW H) (p0 p1 : List MemPlace)
    (k0 : Value.okWide Try.prog W .any base 28 v0) (k1 : Value.okWide Try.prog W .any base 28 v1)
    (h0 : DataW.Trod enc Try.prog W 0 (fun _ => true) true 28 v0 d0 p0) (h1 : DataW.Trod enc Try.prog W 0 (fun _ => true) true 28 v1 d1 p1) :
    Calls Try.prog 6 #[v0, v1] W fun e W' => e = .returned (.bool true) ∧ Below W.heap.size W W' := by
  obtain ⟨a0, rfl, rfl, rfl, w0⟩ := open_int Try.underlying28 k0 h0
  obtain ⟨a1, rfl, rfl, rfl, w1⟩ := open_int Try.underlying28 k1 h1
  obtain ⟨l0, u0⟩ := bounds_u32 w0
  obtain ⟨l1, u1⟩ := bounds_u32 w1
  refine (exact_any a0 a1 W (by omega) (by omega) (by omega) (by omega)).mono fun e W' ⟨he, hw⟩ => ⟨he, by subst hw; exact Below.refl _ _⟩

theorem satOrders_law {H : Type} {enc : TypeId × Value → H} (W : World) {base : Nat} (v0 v1 v2 : Value) (d0 d1 d2 : DataW H) (p0 p1 p2 : List MemPlace)
    (k0 : Value.okWide Try.prog W .any base 3 v0) (k1 : Value.okWide Try.prog W .any base 3 v1) (k2 : Value.okWide Try.prog W .any base 3 v2)
    (h0 : DataW.Trod enc Try.prog W 0 (fun _ => true) true 3 v0 d0 p0) (h1 : DataW.Trod enc Try.prog W 0 (fun _ => true) true 3 v1 d1 p1) (h2 : DataW.Trod enc Try.prog W 0 (fun _ => true) true 3 v2 d2 p2) :
    Calls Try.prog 4 #[v0, v1, v2] W fun e W' => e = .returned (.bool true) ∧ Below W.heap.size W W' := by
  obtain ⟨a0, rfl, rfl, rfl, w0⟩ := open_int Try.underlying3 k0 h0
  obtain ⟨a1, rfl, rfl, rfl, w1⟩ := open_int Try.underlying3 k1 h1
  obtain ⟨a2, rfl, rfl, rfl, w2⟩ := open_int Try.underlying3 k2 h2
  refine (orders_any a0 a1 a2 W).mono fun e W' ⟨he, hw⟩ => ⟨he, hw⟩
end Go.Proofs.Ytkhlcdmmhnmnoaa
