/- What the functions of package sat hand back: the numbers of SatAid. No condition. -/
import Derived.Test.YtkhlcdmmhnmnoaaChecked
import Derived.WalkKit
import Derived.WalkLawsBesides
import Derived.Lib.Hide
import Derived.Test.YtkhlcdmmhnmnoaaSatAid
namespace Go.Proofs.Ytkhlcdmmhnmnoaa
open Go.RowKit SatAid

theorem Mm.max2_int (k k' : IntKind) (x y : Int) : Builtin.max2 (.int k x) (.int k' y) = pure (.int k (max x y)) := by
  have e : (if x < y then y else x) = max x y := by split <;> omega
  simp only [Builtin.max2, gt_iff_lt, e]
theorem Mm.min2_int (k k' : IntKind) (x y : Int) : Builtin.min2 (.int k x) (.int k' y) = pure (.int k (min x y)) := by
  have e : (if y < x then y else x) = min x y := by split <;> omega
  simp only [Builtin.min2, e]
theorem Mm.max_two (ats : Array TypeId) (ty : TypeId) (a b : Value) : Builtin.max_ ats ty #[a, b] = (Builtin.max2 a b >>= fun s => pure s) := by simp only [Builtin.max_, List.foldlM_cons, List.foldlM_nil]
theorem Mm.min_two (ats : Array TypeId) (ty : TypeId) (a b : Value) : Builtin.min_ ats ty #[a, b] = (Builtin.min2 a b >>= fun s => pure s) := by simp only [Builtin.min_, List.foldlM_cons, List.foldlM_nil]
attribute [local go_sem] Mm.max2_int Mm.min2_int Mm.max_two Mm.min_two

theorem ret_int {k : IntKind} {a b : Int} (h : a = b) : Ending.returned (.int k a) = .returned (.int k b) := by rw [h]

theorem clamp_any (n : Int) (w : World) : Calls Try.prog 15 #[.int .i64 n] w fun e w' => e = .returned (.int .i64 (C n)) ∧ w = w' := by
  have H := Lib.hid (C_walk n)
  go_enter Try.func15, Try.ntmps15
  go_wp2
  go_ret
  exact ⟨ret_int H.out, rfl⟩

theorem add_any (a b : Int) (w : World) : Calls Try.prog 16 #[.int .i64 a, .int .i64 b] w fun e w' => e = .returned (.int .i64 (A a b)) ∧ w = w' := by
  have ha := C_lo a; have hb := C_lo b; have ha' := C_hi a; have hb' := C_hi b
  go_enter Try.func16, Try.ntmps16
  go_wp2_with (go_at_call 15; refine (clamp_any _ _).mono ?_; rintro e w' ⟨rfl, rfl⟩)
  go_ret
  exact ⟨rfl, rfl⟩

theorem sub_any (a b : Int) (w : World) : Calls Try.prog 17 #[.int .i64 a, .int .i64 b] w fun e w' => e = .returned (.int .i64 (D a b)) ∧ w = w' := by
  have ha := C_lo a; have hb := C_lo b; have ha' := C_hi a; have hb' := C_hi b
  have H := Lib.hid (show max (C a - C b) 0 = D a b from rfl)
  go_enter Try.func17, Try.ntmps17
  go_wp2_with (go_at_call 15; refine (clamp_any _ _).mono ?_; rintro e w' ⟨rfl, rfl⟩)
  go_ret
  exact ⟨ret_int H.out, rfl⟩

theorem mul_any (a b : Int) (w : World) : Calls Try.prog 18 #[.int .i64 a, .int .i64 b] w fun e w' => e = .returned (.int .i64 (M a b)) ∧ w = w' := by
  have ha := C_lo a; have hb := C_lo b; have ha' := C_hi a; have hb' := C_hi b
  by_cases h : 0 < C a
  · have d0 := div_lo a; have d1 := div_hi a
    by_cases h2 : 1099511627776 / C a < C b
    · have H := Lib.hid (M_far h h2)
      go_enter Try.func18, Try.ntmps18
      go_wp2_with (go_at_call 15; refine (clamp_any _ _).mono ?_; rintro e w' ⟨rfl, rfl⟩)
      go_ret
      exact ⟨ret_int H.out.symm, rfl⟩
    · obtain ⟨h3, h4, h5⟩ := M_near h h2
      have H := Lib.hid h3; clear h3
      go_enter Try.func18, Try.ntmps18
      go_wp2_with (go_at_call 15; refine (clamp_any _ _).mono ?_; rintro e w' ⟨rfl, rfl⟩)
      go_ret
      exact ⟨ret_int H.out.symm, rfl⟩
  · obtain ⟨h3, h4⟩ := M_zero (b := b) h
    have H := Lib.hid (show wrap64 (C a * C b) = M a b by rw [h3, h4]; exact w64 (by omega) (by omega)); clear h3 h4
    go_enter Try.func18, Try.ntmps18
    go_wp2_with (go_at_call 15; refine (clamp_any _ _).mono ?_; rintro e w' ⟨rfl, rfl⟩)
    go_ret
    exact ⟨ret_int H.out, rfl⟩
end Go.Proofs.Ytkhlcdmmhnmnoaa
