/- The reference's 'within': a number within two bounds. Condition: the bounds are in order. -/
import Derived.Test.YtbiahndpfbmoeaaChecked
import Derived.Test.YtbiahndpfbmoeaaMm
namespace Go.Proofs.Ytbiahndpfbmoeaa
open Go.RowKit
/-- a number within two bounds -/
theorem rwithin_any (n a b : Int) (w : World) (h : a ≤ b) : Calls Try.prog 77 #[.int .i64 n, .int .i64 a, .int .i64 b] w fun e w' => e = .returned (.int .i64 (min (max n a) b)) ∧ w = w' := by
  by_cases h1 : n < a
  · have H := Lib.hid (show a = min (max n a) b by omega)
    go_enter Try.func77, Try.ntmps77
    go_wp2
    go_ret
    exact ⟨ret_int H.out, rfl⟩
  · by_cases h2 : b < n
    · have H := Lib.hid (show b = min (max n a) b by omega)
      go_enter Try.func77, Try.ntmps77
      go_wp2
      go_ret
      exact ⟨ret_int H.out, rfl⟩
    · have H := Lib.hid (show n = min (max n a) b by omega)
      go_enter Try.func77, Try.ntmps77
      go_wp2
      go_ret
      exact ⟨ret_int H.out, rfl⟩

end Go.Proofs.Ytbiahndpfbmoeaa
