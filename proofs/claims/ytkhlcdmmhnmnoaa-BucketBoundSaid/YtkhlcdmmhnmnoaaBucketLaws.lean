/- The laws of package bucket: each returns true for every input. No condition. -/
import Derived.Test.YtkhlcdmmhnmnoaaBucketRef
namespace Go.Proofs.Ytkhlcdmmhnmnoaa
open Go.RowKit SatAid Go.ChangeShapes Go.WideShapes
attribute [local go_sem] Mm.max2_int Mm.min2_int Mm.max_two Mm.min_two

theorem kans_any (w : World) : Calls Try.prog 26 #[] w fun e w' => e = .returned (.bool true) ∧ Kp (fun _ => False) w w' := by
  have t1 : Tk 1 2 2 0 0 = true := by decide
  have t2 : Tk 1 2 1 0 0 = true := by decide
  have t3 : Tk 1 2 0 0 0 = false := by decide
  have t4 : (Lf 1 2 0 0 1 == 1) = true := by decide
  have t5 : Tk 1 2 1 1 1 = true := by decide
  go_enter Try.func26, Try.ntmps26
  go_wp2_with fail
  refine (bnew_any _ _ _ _).mono ?_; rintro e w0 ⟨b, rfl, hlt, hb, hk⟩
  replace hb : w0.heap[b]? = some (.cells (Bk 1 2 2 0) 50 (0, 0)) := hb
  have HB := Lib.hid hb; clear hb
  go_wp2_with fail
  refine (btake_any b 1 2 2 0 0 _ (by omega) (by omega) HB.out).mono ?_; rintro e w1 ⟨rfl, hb, hk1⟩
  replace hb : w1.heap[b]? = some (.cells (Bk 1 2 1 0) 50 (0, 0)) := hb
  have HB := Lib.hid hb; clear hb
  go_wp2_with fail
  refine (btake_any b 1 2 1 0 0 _ (by omega) (by omega) HB.out).mono ?_; rintro e w2 ⟨rfl, hb, hk2⟩
  replace hb : w2.heap[b]? = some (.cells (Bk 1 2 0 0) 50 (0, 0)) := hb
  have HB := Lib.hid hb; clear hb
  go_wp2_with fail
  refine (btake_any b 1 2 0 0 0 _ (by omega) (by omega) HB.out).mono ?_; rintro e w3 ⟨rfl, hb, hk3⟩
  replace hb : w3.heap[b]? = some (.cells (Bk 1 2 0 0) 50 (0, 0)) := hb
  have HB := Lib.hid hb; clear hb
  go_wp2_with fail
  refine (bleft_any b 1 2 0 0 1 _ HB.out).mono ?_; rintro e w4 ⟨rfl, hb, hk4⟩
  replace hb : w4.heap[b]? = some (.cells (Bk 1 2 1 1) 50 (0, 0)) := hb
  have HB := Lib.hid hb; clear hb
  go_wp2_with fail
  refine (btake_any b 1 2 1 1 1 _ (by omega) (by omega) HB.out).mono ?_; rintro e w5 ⟨rfl, hb, hk5⟩
  have HB := Lib.hid hb; clear hb
  go_wp2_with fail
  go_ret
  exact ⟨rfl, hk.trans_new ((((hk1.trans hk2).trans hk3).trans hk4).trans hk5) (fun k h1 h2 => by omega)⟩

theorem bucketNone_law {H : Type} {enc : TypeId × Value → H} (W : World) {base : Nat} (v0 : Value) (d0 : DataW H) (p0 : List MemPlace)
    (k0 : Value.okWide Try.prog W .any base 3 v0) (h0 : DataW.Trod enc Try.prog W 0 (fun _ => true) true 3 v0 d0 p0) :
    Calls Try.prog 11 #[v0] W fun e W' => e = .returned (.bool true) ∧ Below W.heap.size W W' := by
  obtain ⟨n, rfl, rfl, rfl, _⟩ := open_int Try.underlying3 k0 h0
  clear h0 k0
  go_enter Try.func11, Try.ntmps11
  go_wp2_with (first | (go_at_call 26; refine (kans_any _).mono ?_; rintro e w' ⟨rfl, hk⟩) | (go_at_call 29; refine (bleft_none _ _).mono ?_; rintro e w' ⟨rfl, rfl⟩) | (go_at_call 28; refine (btake_none _ _).mono ?_; rintro e w' ⟨rfl, rfl⟩))
  go_ret
  exact ⟨rfl, hk.below (fun _ _ h => h)⟩

theorem Tl_eq {r u l n : Int} (hu : 1 ≤ u) (hu2 : u ≤ 100) : 0 ≤ Tl r u l n n ∧ Tl r u l n n ≤ u := by
  have h0 := Lf_lo (r := r) (l := l) (t := n) (n := n) (show 0 ≤ u by omega)
  have h1 := Lf_hi (r := r) (u := u) (l := l) (t := n) (n := n)
  unfold Tl; omega

theorem Lf_two {r u l a b : Int} (hr : 1 ≤ r) (hr2 : r ≤ 100) (hu : 1 ≤ u) (hu2 : u ≤ 100) (hl : 0 ≤ l) (hl2 : l ≤ u) (ha : 0 ≤ a) (ha2 : a ≤ 65535) (hb : 0 ≤ b) (hb2 : b ≤ 65535) :
    Lf r u (Lf r u l 0 a) a (a + b) = Lf r u l 0 (a + b) := by
  have h0 := Lf_lo (r := r) (l := l) (t := 0) (n := a) (show 0 ≤ u by omega)
  have h1 := Lf_hi (r := r) (u := u) (l := l) (t := 0) (n := a)
  rw [Lf_eq (t := a) hr hr2 hu hu2 h0 h1 ha (by omega), Lf_eq hr hr2 hu hu2 hl hl2 (by omega) (by omega), Lf_eq hr hr2 hu hu2 hl hl2 (by omega) (by omega)]
  rw [C_of (n := a + b) (by omega) (by omega), C_of (n := a) (by omega) (by omega)]
  have e1 : max (a + b - a) 0 = b := by omega
  have e2 : max (a - 0) 0 = a := by omega
  have e3 : max (a + b - 0) 0 = a + b := by omega
  rw [e1, e2, e3, Int.mul_add]
  have p0 : 0 ≤ r * a := Int.mul_nonneg (by omega) ha
  have p1 : 0 ≤ r * b := Int.mul_nonneg (by omega) hb
  omega

theorem Lf_same {r u l t : Int} (hr : 1 ≤ r) (hr2 : r ≤ 100) (hu : 1 ≤ u) (hu2 : u ≤ 100) (hl : 0 ≤ l) (hl2 : l ≤ u) (ht : 0 ≤ t) (ht2 : t ≤ 1099511627776) : Lf r u l t t = l :=
  (Lf_end hr hr2 hu hu2 hl hl2 ht ht2 (Or.inl (by rw [C_of ht ht2]; omega))).symm

set_option maxHeartbeats 800000 in
theorem bucketSame_law {H : Type} {enc : TypeId × Value → H} (W : World) {base : Nat} (v0 v1 v2 v3 v4 : Value) (d0 d1 d2 d3 d4 : DataW H) (p0 p1 p2 p3 p4 : List MemPlace)
    (k0 : Value.okWide Try.prog W .any base 3 v0) (k1 : Value.okWide Try.prog W .any base 3 v1) (k2 : Value.okWide Try.prog W .any base 5 v2) (k3 : Value.okWide Try.prog W .any base 47 v3) (k4 : Value.okWide Try.prog W .any base 47 v4)
    (h0 : DataW.Trod enc Try.prog W 0 (fun _ => true) true 3 v0 d0 p0) (h1 : DataW.Trod enc Try.prog W 0 (fun _ => true) true 3 v1 d1 p1) (h2 : DataW.Trod enc Try.prog W 0 (fun _ => true) true 5 v2 d2 p2)
    (h3 : DataW.Trod enc Try.prog W 0 (fun _ => true) true 47 v3 d3 p3) (h4 : DataW.Trod enc Try.prog W 0 (fun _ => true) true 47 v4 d4 p4) :
    Calls Try.prog 12 #[v0, v1, v2, v3, v4] W fun e W' => e = .returned (.bool true) ∧ Below W.heap.size W W' := by
  obtain ⟨rr, rfl, rfl, rfl, _⟩ := open_int Try.underlying3 k0 h0
  obtain ⟨uu, rfl, rfl, rfl, _⟩ := open_int Try.underlying3 k1 h1
  obtain ⟨m, rfl, rfl, rfl, wm⟩ := open_int Try.underlying5 k2 h2
  obtain ⟨a, rfl, rfl, rfl, wa⟩ := open_int Try.underlying47 k3 h3
  obtain ⟨b, rfl, rfl, rfl, wb⟩ := open_int Try.underlying47 k4 h4
  obtain ⟨m0, m1⟩ := bounds_u8 wm
  obtain ⟨a0, a1⟩ := bounds_u16 wa
  obtain ⟨b0, b1⟩ := bounds_u16 wb
  clear h0 h1 h2 h3 h4 k0 k1 k2 k3 k4 wm wa wb
  obtain ⟨r, hr⟩ : ∃ r, r = V rr := ⟨_, rfl⟩
  obtain ⟨u, hu⟩ : ∃ u, u = V uu := ⟨_, rfl⟩
  have r0 := V_lo rr; have r1 := V_hi rr; have u0 := V_lo uu; have u1 := V_hi uu
  rw [← hr] at r0 r1; rw [← hu] at u0 u1
  have HR := Lib.hid hr; have HU := Lib.hid hu; clear hr hu
  have ca : C a = a := C_of a0 (by omega)
  have cab : C (a + b) = a + b := C_of (by omega) (by omega)
  have mm : max a (a + b) = a + b := by omega
  have CA := Lib.hid ca; have CAB := Lib.hid cab; have MM := Lib.hid mm; clear ca cab mm
  go_enter Try.func12, Try.ntmps12
  go_wp2_with fail
  refine (bnew_any _ _ _ _).mono ?_; rintro e w0 ⟨x, rfl, hx, hbx, hk0⟩
  rw [← HR.out, ← HU.out] at hbx
  have HX := Lib.hid hbx; clear hbx
  go_wp2_with fail
  refine (bnew_any _ _ _ _).mono ?_; rintro e w1 ⟨y, rfl, hy, hby, hk1⟩
  rw [← HR.out, ← HU.out] at hby
  have hlx := lt_of_block HX.out
  have HX' := Lib.hid ((hk1.block x hlx (fun h => h)).trans HX.out); clear HX
  have hxy : x < y := by omega
  have HY := Lib.hid hby; clear hby
  have HK := Lib.hid (hk0.trans hk1); clear hk0 hk1
  go_wp2_with fail
  go_loopg [13] (m.toNat) (fun k i wr => ∃ (j : Nat) (l : Int), k = m.toNat - j ∧ j ≤ m.toNat ∧ i = .int .i64 j ∧ 0 ≤ l ∧ l ≤ u ∧ wr.heap[x]? = some (.cells (Bk r u l 0) 50 (0, 0)) ∧ wr.heap[y]? = some (.cells (Bk r u l 0) 50 (0, 0)) ∧ Kp (fun _ => False) W wr)
  case atStart => exact ⟨0, u, by omega, by omega, rfl, by omega, by omega, HX'.out, HY.out, HK.out⟩
  case round =>
    obtain ⟨j, l, hk, hj, rfl, l0, l1, hX, hY, hkp⟩ := hrel
    have HX := Lib.hid hX; have HY := Lib.hid hY; have HK2 := Lib.hid hk; have HKP := Lib.hid hkp; clear hX hY hk hkp
    by_cases hlt : (j : Int) < m
    · obtain ⟨q0, q1⟩ := Tl_eq (r := r) (l := l) (n := 0) u0 u1
      go_wp2_with fail
      refine (btake_any x r u l 0 0 _ (by omega) (by omega) HX.out).mono ?_; rintro e w2 ⟨rfl, hX, hk2⟩
      have HY2 := Lib.hid ((hk2.block y (lt_of_block HY.out) (by omega)).trans HY.out)
      have HX2 := Lib.hid hX; clear hX
      go_wp2_with fail
      refine (btake_any y r u l 0 0 _ (by omega) (by omega) HY2.out).mono ?_; rintro e w3 ⟨rfl, hY, hk3⟩
      have HX3 := Lib.hid ((hk3.block x (lt_of_block HX2.out) (by omega)).trans HX2.out)
      have HY3 := Lib.hid hY; clear hY
      go_wp2_with fail
      go_roundg (m.toNat - (j + 1))
      case measure => rw [HK2.out]; omega
      case rel =>
        refine ⟨j + 1, Tl r u l 0 0, rfl, by omega, by go_num, q0, q1, HX3.out, HY3.out, ?_⟩
        have hs := lt_of_block HX2.out
        exact (HKP.out.trans_new hk2 (fun k h1 h2 => by omega)).trans_new hk3 (fun k h1 h2 => by omega)
    · have e1 := Lib.hid (Lf_two r0 r1 u0 u1 l0 l1 a0 a1 b0 b1)
      have l2 := Lf_lo (r := r) (l := l) (t := 0) (n := a + b) (show 0 ≤ u by omega)
      have l3 := Lf_hi (r := r) (u := u) (l := l) (t := 0) (n := a + b)
      have l4 := Lf_same (t := a + b) r0 r1 u0 u1 l2 l3 (by omega) (by omega)
      obtain ⟨n, hn⟩ : ∃ n, n = Lf r u l 0 (a + b) := ⟨_, rfl⟩
      rw [← hn] at l2 l3 l4
      rw [← hn] at e1
      have l5 : n ≤ 100 := by omega
      have E2 := Lib.hid l4; have HN := Lib.hid hn; clear l4 hn
      go_wp2_with fail
      refine (bleft_any x r u l 0 a _ HX.out).mono ?_; rintro e w2 ⟨rfl, hX, hk2⟩
      rw [CA.out, show max 0 a = a by omega] at hX
      have HY2 := Lib.hid ((hk2.block y (lt_of_block HY.out) (by omega)).trans HY.out)
      have HX2 := Lib.hid hX; clear hX
      go_wp2_with fail
      refine (bleft_any x r u _ a (a + b) _ HX2.out).mono ?_; rintro e w3 ⟨rfl, hX, hk3⟩
      rw [CAB.out, MM.out, e1.out] at hX
      rw [e1.out]
      have HX3 := Lib.hid hX; clear hX
      have HY3 := Lib.hid ((hk3.block y (lt_of_block HY2.out) (by omega)).trans HY2.out)
      go_wp2_with fail
      refine (kans_any _).mono ?_; rintro e w4 ⟨rfl, hk4⟩
      have HX4 := Lib.hid ((hk4.block x (lt_of_block HX3.out) (fun h => h)).trans HX3.out)
      have HY4 := Lib.hid ((hk4.block y (lt_of_block HY3.out) (fun h => h)).trans HY3.out)
      go_wp2_with fail
      refine (bleft_any x r u n (a + b) (a + b) _ HX4.out).mono ?_; rintro e w5 ⟨rfl, hX, hk5⟩
      rw [E2.out]
      have HY5 := Lib.hid ((hk5.block y (lt_of_block HY4.out) (by omega)).trans HY4.out)
      clear hX
      go_wp2_with fail
      refine (bleft_any y r u l 0 (a + b) _ HY5.out).mono ?_; rintro e w6 ⟨rfl, hY, hk6⟩
      rw [← HN.out]
      clear hY
      go_wp2_with fail
      go_ret
      refine ⟨rfl, Kp.below (S := fun _ => False) ?_ (fun _ _ h => h)⟩
      exact ((((HKP.out.trans_new hk2 (fun k h1 h2 => by omega)).trans_new hk3 (fun k h1 h2 => by omega)).trans hk4).trans_new hk5 (fun k h1 h2 => by omega)).trans_new hk6 (fun k h1 h2 => by omega)
end Go.Proofs.Ytkhlcdmmhnmnoaa
