/- Plain numbers within bounds: clamped, added, taken away, multiplied. No program, no memory. -/
import Derived.RowKit
namespace Go.Proofs.Ytbiahndpfbmoeaa.SatAid
open Go.RowKit
/-- a number within the bounds -/
def C (n : Int) : Int := if n < 0 then 0 else if n > 1099511627776 then 1099511627776 else n
/-- a difference -/
def D (a b : Int) : Int := max (C a - C b) 0
/-- a product within the bounds -/
def M (a b : Int) : Int := min (C a * C b) 1099511627776
/-- a sum -/
def A (a b : Int) : Int := C (C a + C b)
theorem C_lo (n : Int) : 0 ≤ C n := by unfold C; split <;> (try split) <;> omega
theorem C_hi (n : Int) : C n ≤ 1099511627776 := by unfold C; split <;> (try split) <;> omega
theorem C_of {n : Int} (h : 0 ≤ n) (h' : n ≤ 1099511627776) : C n = n := by unfold C; rw [if_neg (by omega), if_neg (by omega)]
theorem C_C (n : Int) : C (C n) = C n := C_of (C_lo n) (C_hi n)
theorem C_min {n : Int} (h : 0 ≤ n) : C n = min n 1099511627776 := by unfold C; rw [if_neg (by omega)]; split <;> omega
theorem C_mono {a b : Int} (h : a ≤ b) : C a ≤ C b := by
  unfold C; repeat' split
  all_goals omega
/-- max(n, 0), then min(.., most), as the walk shows them -/
theorem C_walk (n : Int) : min (max n 0) 1099511627776 = C n := by
  unfold C; repeat' split
  all_goals omega
theorem w64 {n : Int} (h : -9223372036854775808 ≤ n) (h' : n ≤ 9223372036854775807) : wrap64 n = n := by unfold wrap64; omega
theorem A_lo (a b : Int) : 0 ≤ A a b := C_lo _
theorem A_hi (a b : Int) : A a b ≤ 1099511627776 := C_hi _
theorem D_lo (a b : Int) : 0 ≤ D a b := by unfold D; omega
theorem D_hi (a b : Int) : D a b ≤ 1099511627776 := by have := C_hi a; have := C_lo b; unfold D; omega
theorem M_comm (a b : Int) : M a b = M b a := by unfold M; rw [Int.mul_comm]
theorem M_lo (a b : Int) : 0 ≤ M a b := by
  have := Int.mul_nonneg (C_lo a) (C_lo b); unfold M; omega
theorem M_hi (a b : Int) : M a b ≤ 1099511627776 := by unfold M; omega
theorem M_mono {a b : Int} (c : Int) (h : a ≤ b) : M a c ≤ M b c := by
  have := Int.mul_le_mul_of_nonneg_right (C_mono h) (C_lo c); unfold M; omega
theorem M_far {a b : Int} (h : 0 < C a) (h2 : 1099511627776 / C a < C b) : M a b = 1099511627776 := by
  have : 1099511627776 < C b * C a := (Int.ediv_lt_iff_lt_mul h).1 h2
  rw [Int.mul_comm] at this
  unfold M; omega
theorem M_near {a b : Int} (h : 0 < C a) (h2 : ¬ 1099511627776 / C a < C b) : M a b = C a * C b ∧ 0 ≤ C a * C b ∧ C a * C b ≤ 1099511627776 := by
  have h3 : C b ≤ 1099511627776 / C a := by omega
  have : C b * C a ≤ 1099511627776 := (Int.le_ediv_iff_mul_le h).1 h3
  rw [Int.mul_comm] at this
  have h4 : 0 ≤ C a * C b := Int.mul_nonneg (C_lo a) (C_lo b)
  unfold M; omega
theorem M_zero {a b : Int} (h : ¬ 0 < C a) : M a b = 0 ∧ C a * C b = 0 := by
  have : C a = 0 := by have := C_lo a; omega
  unfold M; rw [this, Int.zero_mul]; decide
theorem div_lo (a : Int) : 0 ≤ (1099511627776 : Int) / C a := Int.ediv_nonneg (by omega) (C_lo a)
theorem div_hi (a : Int) : (1099511627776 : Int) / C a ≤ 1099511627776 := Int.ediv_le_self _ (by omega)
end Go.Proofs.Ytbiahndpfbmoeaa.SatAid
