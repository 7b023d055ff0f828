/- Plain numbers: a pause that doubles up to a bound. No program, no memory. -/
import Derived.Test.YtkhlcdmmhnmnoaaSatAid
namespace Go.Proofs.Ytkhlcdmmhnmnoaa.BackAid
open Go.RowKit SatAid
/-- doubled n times, within the bounds -/
def Q (b : Int) (n : Nat) : Int := min (C b * 2 ^ n) 1099511627776
/-- the pause -/
def Z (b m t : Int) : Int := min (Q b (min (max t 0) 62).toNat) (C m)
theorem pow_pos (n : Nat) : (1 : Int) ≤ 2 ^ n := by have := Int.pow_pos (n := 2) (m := n) (by decide); omega
theorem pow_le {a b : Nat} (h : a ≤ b) : (2 : Int) ^ a ≤ 2 ^ b := by
  obtain ⟨d, rfl⟩ := Nat.exists_eq_add_of_le h
  have h1 := pow_pos a
  have h2 := pow_pos d
  have := Int.mul_le_mul_of_nonneg_left h2 (show (0 : Int) ≤ 2 ^ a by omega)
  rw [Int.pow_add]; omega
theorem Q_lo (b : Int) (n : Nat) : 0 ≤ Q b n := by
  have : 0 ≤ C b * 2 ^ n := Int.mul_nonneg (C_lo b) (by have := pow_pos n; omega)
  unfold Q; omega
theorem Q_hi (b : Int) (n : Nat) : Q b n ≤ 1099511627776 := by unfold Q; omega
theorem Q_zero (b : Int) : Q b 0 = C b := by have := C_hi b; unfold Q; simp; omega
theorem Z_lo (b m t : Int) : 0 ≤ Z b m t := by have := Q_lo b (min (max t 0) 62).toNat; have := C_lo m; unfold Z; omega
theorem Z_hi (b m t : Int) : Z b m t ≤ C m := by unfold Z; omega
theorem pow62 : (2 : Int) ^ 62 = 4611686018427387904 := by decide
theorem Z_code (b m t : Int) : min (M b (wrap64 (2 ^ (min (max t 0) 62).toNat))) (C m) = Z b m t := by
  unfold Z
  have hn : (min (max t 0) 62).toNat ≤ 62 := by omega
  obtain ⟨n, hn'⟩ : ∃ n, n = (min (max t 0) 62).toNat := ⟨_, rfl⟩
  rw [← hn'] at hn ⊢
  have h1 := pow_pos n
  have h2 : (2 : Int) ^ n ≤ 4611686018427387904 := by
    have : (2 : Int) ^ n ≤ 2 ^ 62 := pow_le hn
    rw [pow62] at this; exact this
  rw [w64 (by omega) (by omega)]
  have hb := C_lo b
  congr 1
  unfold M Q
  rw [C_min (n := 2 ^ n) (by omega)]
  by_cases h : (2 : Int) ^ n ≤ 1099511627776
  · rw [Int.min_eq_left (a := 2 ^ n) h]
  · rw [Int.min_eq_right (a := 2 ^ n) (by omega)]
    by_cases hz : C b = 0
    · rw [hz]; simp
    · have : (1099511627776 : Int) ≤ C b * 1099511627776 := by omega
      have h4 : C b * 1099511627776 ≤ C b * 2 ^ n := Int.mul_le_mul_of_nonneg_left (by omega) hb
      omega
/-- doubling once more -/
theorem dbl (b : Int) (n : Nat) : Q b (n + 1) = C (Q b n + Q b n) := by
  have e : C b * 2 ^ (n + 1) = 2 * (C b * 2 ^ n) := by rw [Int.pow_succ, ← Int.mul_assoc, Int.mul_comm]
  have := Q_lo b n
  rw [C_min (by omega)]
  unfold Q at this ⊢
  rw [e]
  omega
/-- from 62 on nothing turns -/
theorem far (b : Int) (n : Nat) (h : 62 ≤ n) : Q b n = Q b 62 := by
  have hb := C_lo b
  unfold Q
  by_cases hz : C b = 0
  · rw [hz]; simp
  · have h2 : (2 : Int) ^ 62 ≤ 2 ^ n := pow_le h
    have h3 : C b * 2 ^ 62 ≤ C b * 2 ^ n := Int.mul_le_mul_of_nonneg_left h2 hb
    rw [pow62] at h3 ⊢
    have h4 : (4611686018427387904 : Int) ≤ C b * 4611686018427387904 := by omega
    omega
theorem Z_far (b m t : Int) : min (Q b (min (max t 0) 100).toNat) (C m) = Z b m t := by
  unfold Z
  by_cases h : t ≤ 62
  · have e1 : (min (max t 0) 62).toNat = (min (max t 0) 100).toNat := by omega
    rw [e1]
  · have e1 : (min (max t 0) 62).toNat = 62 := by omega
    rw [e1, far b _ (by omega)]
theorem Z_next (b m t : Int) (h : 0 ≤ t) : Z b m (t + 1) = min (Z b m t + Z b m t) (C m) := by
  have hq : Q b (min (max (t + 1) 0) 62).toNat = C (Q b (min (max t 0) 62).toNat + Q b (min (max t 0) 62).toNat) := by
    by_cases h : t < 62
    · have e1 : (min (max (t + 1) 0) 62).toNat = (min (max t 0) 62).toNat + 1 := by omega
      rw [e1, dbl]
    · have e1 : (min (max (t + 1) 0) 62).toNat = 62 := by omega
      have e2 : (min (max t 0) 62).toNat = 62 := by omega
      rw [e1, e2, ← dbl, far b (62 + 1) (by omega)]
  have h0 := Q_lo b (min (max t 0) 62).toNat
  have h1 := C_lo m; have h2 := C_hi m
  unfold Z
  rw [hq, C_min (by omega)]
  omega
end Go.Proofs.Ytkhlcdmmhnmnoaa.BackAid
