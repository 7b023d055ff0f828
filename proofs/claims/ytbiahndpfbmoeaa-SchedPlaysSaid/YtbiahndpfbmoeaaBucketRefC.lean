/- What the reference's bucket does: it comes to the same numbers as the program's. Conditions: the bucket's numbers are within their bounds. -/
import Derived.Test.YtbiahndpfbmoeaaBucket
import Derived.Test.YtbiahndpfbmoeaaWithin
import Derived.Deep.LoopGhost
import Derived.Deep.QuietTactic
import Derived.BigQuiet
namespace Go.Proofs.Ytbiahndpfbmoeaa
open Go.RowKit SatAid
attribute [local go_sem] Mm.max2_int Mm.min2_int Mm.max_two Mm.min_two
theorem rclamp_any (n : Int) (w : World) : Calls Try.prog 29 #[.int .i64 n] w fun e w' => e = .returned (.int .i64 (C n)) ∧ w = w' := by
  by_cases h : n < 0
  · have H := Lib.hid (show 0 = C n by unfold C; rw [if_pos h])
    go_enter Try.func29, Try.ntmps29
    go_wp2
    go_ret
    exact ⟨ret_int H.out, rfl⟩
  · by_cases h2 : n > 1099511627776
    · have H := Lib.hid (show 1099511627776 = C n by unfold C; rw [if_neg h, if_pos h2])
      go_enter Try.func29, Try.ntmps29
      go_wp2
      go_ret
      exact ⟨ret_int H.out, rfl⟩
    · have H := Lib.hid (show n = C n by unfold C; rw [if_neg h, if_neg h2])
      go_enter Try.func29, Try.ntmps29
      go_wp2
      go_ret
      exact ⟨ret_int H.out, rfl⟩

theorem Lf_eq {r u l t n : Int} (hr : 1 ≤ r) (hr2 : r ≤ 100) (hu : 1 ≤ u) (hu2 : u ≤ 100) (hl : 0 ≤ l) (hl2 : l ≤ u) (ht : 0 ≤ t) (ht2 : t ≤ 1099511627776) : Lf r u l t n = min u (l + r * max (C n - t) 0) := by
  unfold Lf A M D
  have h0 := C_lo n; have h1 := C_hi n
  rw [C_of (n := r) (by omega) (by omega), C_of (n := l) (by omega) (by omega), C_of (n := t) ht ht2]
  obtain ⟨d, hd⟩ : ∃ d, d = max (C n - t) 0 := ⟨_, rfl⟩
  rw [← hd]
  rw [C_of (n := d) (by omega) (by omega)]
  have p0 : 0 ≤ r * d := Int.mul_nonneg (by omega) (by omega)
  rw [C_of (n := min (r * d) 1099511627776) (by omega) (by omega), C_min (by omega)]
  omega

theorem Lf_step {r u l t n : Int} (hr : 1 ≤ r) (hr2 : r ≤ 100) (hu : 1 ≤ u) (hu2 : u ≤ 100) (hl : 0 ≤ l) (hl2 : l ≤ u) (ht : 0 ≤ t) (htn : t < C n) : Lf r u (min (l + r) u) (t + 1) n = Lf r u l t n := by
  have h1 := C_hi n
  rw [Lf_eq hr hr2 hu hu2 (by omega) (by omega) (by omega) (by omega), Lf_eq hr hr2 hu hu2 hl hl2 ht (by omega)]
  obtain ⟨d, hd⟩ : ∃ d, d = C n - t - 1 := ⟨_, rfl⟩
  have e1 : max (C n - (t + 1)) 0 = d := by omega
  have e2 : max (C n - t) 0 = d + 1 := by omega
  rw [e1, e2, Int.mul_add, Int.mul_one]
  have p0 : 0 ≤ r * d := Int.mul_nonneg (by omega) (by omega)
  omega

theorem Lf_end {r u l t n : Int} (hr : 1 ≤ r) (hr2 : r ≤ 100) (hu : 1 ≤ u) (hu2 : u ≤ 100) (hl : 0 ≤ l) (hl2 : l ≤ u) (ht : 0 ≤ t) (ht2 : t ≤ 1099511627776) (h : ¬ t < C n ∨ ¬ l < u) : l = Lf r u l t n := by
  rw [Lf_eq hr hr2 hu hu2 hl hl2 ht ht2]
  have p0 : 0 ≤ r * max (C n - t) 0 := Int.mul_nonneg (by omega) (by omega)
  rcases h with h | h
  · rw [show max (C n - t) 0 = 0 by omega, Int.mul_zero]; omega
  · omega

theorem rnew_any (r u n : Int) (w : World) : Calls Try.prog 76 #[.int .i64 r, .int .i64 u, .int .i64 n] w (Made 122 (Bk (V r) (V u) (V u) (C n)) w) := by
  go_enter Try.func76, Try.ntmps76
  go_wp2_with (first | (go_at_call 29; refine (rclamp_any _ _).mono ?_; rintro e w' ⟨rfl, rfl⟩) | (go_at_call 77; refine (rwithin_any _ _ _ _ (by omega)).mono ?_; rintro e w' ⟨rfl, rfl⟩))
  go_ret
  exact ⟨_, rfl, Nat.le_refl _, heap_new _, (by repeat (first | exact Kp.refl _ _ | apply Kp.drew | apply Kp.drewN | refine Kp.setCell ?_ _ _ (Or.inl rfl) | apply Kp.alloc))⟩

set_option maxRecDepth 100000 in
set_option maxHeartbeats 800000 in
theorem rgo_any (b : Nat) (r u l t n : Int) (w : World) (hr : 1 ≤ r) (hr2 : r ≤ 100) (hu : 1 ≤ u) (hu2 : u ≤ 100) (hl : 0 ≤ l) (hl2 : l ≤ u) (ht : 0 ≤ t) (ht2 : t ≤ 1099511627776)
    (hb : w.heap[b]? = some (.cells (Bk r u l t) 122 (0, 0))) :
    Calls Try.prog 64 #[.pointer (some ⟨b, 0, none⟩), .int .i64 n] w fun e w' =>
      e = .returned (.tuple #[]) ∧ w'.heap[b]? = some (.cells (Bk r u (Lf r u l t n) (max t (C n))) 122 (0, 0)) ∧ Kp (· = b) w w' := by
  have h0 := C_lo n; have h1 := C_hi n
  have HB := Lib.hid hb; clear hb
  go_enter Try.func64, Try.ntmps64
  go_wp2_with (first | (go_at_call 29; refine (rclamp_any _ _).mono ?_; rintro e w' ⟨rfl, rfl⟩))
  go_loopg [] ((C n - t).toNat) (fun k wr => ∃ l' t' : Int, k = (C n - t').toNat ∧ 0 ≤ l' ∧ l' ≤ u ∧ t ≤ t' ∧ t' ≤ max t (C n) ∧ Lf r u l' t' n = Lf r u l t n ∧ wr.heap[b]? = some (.cells (Bk r u l' t') 122 (0, 0)) ∧ Kp (· = b) w wr)
  case atStart => exact ⟨l, t, rfl, hl, hl2, Int.le_refl _, by omega, rfl, HB.out, Kp.refl _ _⟩
  case round =>
    obtain ⟨l', t', hk, hl', hl2', htt, htm, he, hb, hkp⟩ := hrel
    have c0 := cell_of hb 0; have c1 := cell_of hb 1; have c2 := cell_of hb 2; have c3 := cell_of hb 3
    simp only [Bk, List.getElem?_toArray, List.getElem?_cons_zero, List.getElem?_cons_succ] at c0 c1 c2 c3
    have f2 := frozen_of hb 2; have f3 := frozen_of hb 3
    have HB := Lib.hid hb; have HE := Lib.hid he; have HK := Lib.hid hk; clear hb he hk
    by_cases hlt : t' < C n
    · have b1 : decide (t' < C n) = true := by simp [hlt]
      by_cases hlu : l' < u
      · have b2 : decide (l' < u) = true := by simp [hlu]
        have HS := Lib.hid (Lf_step hr hr2 hu hu2 hl' hl2' (by omega : 0 ≤ t') hlt)
        have hw : 0 ≤ l' + r ∧ l' + r ≤ 200 := by omega
        obtain ⟨hw1, hw2⟩ := hw
        go_wp2
        go_quiet (fail)
        go_wp2
        refine still_tail 17 (by kernel_rfl) (by kernel_rfl) ?_
        simp only [List.take_succ_cons, List.take_zero, List.drop_succ_cons, List.drop_zero]
        repeat (first | still_step | still_call ((rwithin_any _ _ _ _ (by omega)).flip))
        refine wpStill_nil ?_
        go_wp2
        go_roundg ((C n - (t' + 1)).toNat)
        case measure => rw [HK.out]; omega
        case rel =>
          have e : min (max (l' + r) 0) u = min (l' + r) u := by omega
          refine ⟨min (l' + r) u, t' + 1, rfl, by omega, by omega, by omega, by omega, HS.out.trans HE.out, ?_, ?_⟩
          · rw [← e]; exact heap_set (heap_set HB.out _) _
          · exact hkp.trans ((by repeat (first | exact Kp.refl _ _ | apply Kp.drew | apply Kp.drewN | refine Kp.setCell ?_ _ _ (Or.inl rfl) | apply Kp.alloc)))
      · have b2 : decide (l' < u) = false := by simp; omega
        have H := Lib.hid ((Lf_end hr hr2 hu hu2 hl' hl2' (by omega : 0 ≤ t') (by omega) (Or.inr hlu) (n := n)).trans HE.out)
        have H2 := Lib.hid (show C n = max t (C n) by omega)
        have b3 : t' < C n := hlt
        go_wp2
        go_quiet (fail)
        go_wp2
        go_end0
        exact ⟨rfl, by rw [← H.out, ← H2.out]; exact heap_set HB.out _, hkp.trans ((by repeat (first | exact Kp.refl _ _ | apply Kp.drew | apply Kp.drewN | refine Kp.setCell ?_ _ _ (Or.inl rfl) | apply Kp.alloc)))⟩
    · have b1 : decide (t' < C n) = false := by simp; omega
      have H := Lib.hid ((Lf_end hr hr2 hu hu2 hl' hl2' (by omega : 0 ≤ t') (by omega) (Or.inl hlt) (n := n)).trans HE.out)
      have H2 := Lib.hid (show t' = max t (C n) by omega)
      go_wp2
      go_quiet (fail)
      go_wp2
      go_end0
      exact ⟨rfl, by rw [← H.out, ← H2.out]; exact HB.out, hkp.trans ((by repeat (first | exact Kp.refl _ _ | apply Kp.drew | apply Kp.drewN | refine Kp.setCell ?_ _ _ (Or.inl rfl) | apply Kp.alloc)))⟩
end Go.Proofs.Ytbiahndpfbmoeaa
