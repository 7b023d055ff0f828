/- What sat.Clamp and the reference's Clamp hand back. No condition. -/
import Derived.Test.YtjipppejcpokkaaChecked
import Derived.WalkKit
import Derived.WalkLawsBesides
import Derived.Lib.Hide
import Derived.Test.YtjipppejcpokkaaSatAid
import Derived.Test.YtjipppejcpokkaaMm
namespace Go.Proofs.Ytjipppejcpokkaa
open Go.RowKit SatAid

attribute [local go_sem] Mm.max2_int Mm.min2_int Mm.max_two Mm.min_two

theorem clamp_any (n : Int) (w : World) : Calls Try.prog 16 #[.int .i64 n] w fun e w' => e = .returned (.int .i64 (C n)) ∧ w = w' := by
  have H := Lib.hid (C_walk n)
  go_enter Try.func16, Try.ntmps16
  go_wp2
  go_ret
  exact ⟨ret_int H.out, rfl⟩
theorem rclamp_any (n : Int) (w : World) : Calls Try.prog 12 #[.int .i64 n] w fun e w' => e = .returned (.int .i64 (C n)) ∧ w = w' := by
  by_cases h : n < 0
  · have H := Lib.hid (show 0 = C n by unfold C; rw [if_pos h])
    go_enter Try.func12, Try.ntmps12
    go_wp2
    go_ret
    exact ⟨ret_int H.out, rfl⟩
  · by_cases h2 : n > 1099511627776
    · have H := Lib.hid (show 1099511627776 = C n by unfold C; rw [if_neg h, if_pos h2])
      go_enter Try.func12, Try.ntmps12
      go_wp2
      go_ret
      exact ⟨ret_int H.out, rfl⟩
    · have H := Lib.hid (show n = C n by unfold C; rw [if_neg h, if_neg h2])
      go_enter Try.func12, Try.ntmps12
      go_wp2
      go_ret
      exact ⟨ret_int H.out, rfl⟩

end Go.Proofs.Ytjipppejcpokkaa
