/- What the functions of package sat hand back: the numbers of SatAid. No condition. -/
import Derived.Test.YtbiahndpfbmoeaaChecked
import Derived.WalkKit
import Derived.WalkLawsBesides
import Derived.Lib.Hide
import Derived.Test.YtbiahndpfbmoeaaSatAid
import Derived.Test.YtbiahndpfbmoeaaMm
namespace Go.Proofs.Ytbiahndpfbmoeaa
open Go.RowKit SatAid

attribute [local go_sem] Mm.max2_int Mm.min2_int Mm.max_two Mm.min_two

theorem clamp_any (n : Int) (w : World) : Calls Try.prog 47 #[.int .i64 n] w fun e w' => e = .returned (.int .i64 (C n)) ∧ w = w' := by
  have H := Lib.hid (C_walk n)
  go_enter Try.func47, Try.ntmps47
  go_wp2
  go_ret
  exact ⟨ret_int H.out, rfl⟩

theorem add_any (a b : Int) (w : World) : Calls Try.prog 78 #[.int .i64 a, .int .i64 b] w fun e w' => e = .returned (.int .i64 (A a b)) ∧ w = w' := by
  have ha := C_lo a; have hb := C_lo b; have ha' := C_hi a; have hb' := C_hi b
  go_enter Try.func78, Try.ntmps78
  go_wp2_with (go_at_call 47; refine (clamp_any _ _).mono ?_; rintro e w' ⟨rfl, rfl⟩)
  go_ret
  exact ⟨rfl, rfl⟩

theorem sub_any (a b : Int) (w : World) : Calls Try.prog 80 #[.int .i64 a, .int .i64 b] w fun e w' => e = .returned (.int .i64 (D a b)) ∧ w = w' := by
  have ha := C_lo a; have hb := C_lo b; have ha' := C_hi a; have hb' := C_hi b
  have H := Lib.hid (show max (C a - C b) 0 = D a b from rfl)
  go_enter Try.func80, Try.ntmps80
  go_wp2_with (go_at_call 47; refine (clamp_any _ _).mono ?_; rintro e w' ⟨rfl, rfl⟩)
  go_ret
  exact ⟨ret_int H.out, rfl⟩

theorem mul_any (a b : Int) (w : World) : Calls Try.prog 79 #[.int .i64 a, .int .i64 b] w fun e w' => e = .returned (.int .i64 (M a b)) ∧ w = w' := by
  have ha := C_lo a; have hb := C_lo b; have ha' := C_hi a; have hb' := C_hi b
  by_cases h : 0 < C a
  · have d0 := div_lo a; have d1 := div_hi a
    by_cases h2 : 1099511627776 / C a < C b
    · have H := Lib.hid (M_far h h2)
      go_enter Try.func79, Try.ntmps79
      go_wp2_with (go_at_call 47; refine (clamp_any _ _).mono ?_; rintro e w' ⟨rfl, rfl⟩)
      go_ret
      exact ⟨ret_int H.out.symm, rfl⟩
    · obtain ⟨h3, h4, h5⟩ := M_near h h2
      have H := Lib.hid h3; clear h3
      go_enter Try.func79, Try.ntmps79
      go_wp2_with (go_at_call 47; refine (clamp_any _ _).mono ?_; rintro e w' ⟨rfl, rfl⟩)
      go_ret
      exact ⟨ret_int H.out.symm, rfl⟩
  · obtain ⟨h3, h4⟩ := M_zero (b := b) h
    have H := Lib.hid (show wrap64 (C a * C b) = M a b by rw [h3, h4]; exact w64 (by omega) (by omega)); clear h3 h4
    go_enter Try.func79, Try.ntmps79
    go_wp2_with (go_at_call 47; refine (clamp_any _ _).mono ?_; rintro e w' ⟨rfl, rfl⟩)
    go_ret
    exact ⟨ret_int H.out, rfl⟩
end Go.Proofs.Ytbiahndpfbmoeaa
