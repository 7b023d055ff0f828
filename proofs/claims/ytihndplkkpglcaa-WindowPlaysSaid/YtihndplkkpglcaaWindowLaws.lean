/- The laws of package window: each returns true for every input. No condition. -/
import Derived.Test.YtihndplkkpglcaaWindow
import Derived.Test.YtihndplkkpglcaaOpen
import Derived.Test.YtihndplkkpglcaaAid
import Derived.Deep.LoopGhost
import Derived.Deep.RegionHeld3
namespace Go.Proofs.Ytihndplkkpglcaa
open Go.RowKit Go.ChangeShapes Go.WideShapes
attribute [local go_sem] Mm.max2_int Mm.min2_int Mm.max_two Mm.min_two Mm.max_three

theorem cells_u8 : Try.prog.cellsOf 5 = 1 := by kernel_rfl

theorem wbegin_none (w : World) : Calls Try.prog 16 #[.pointer none] w fun e w' => e = .returned (.bool false) ∧ Kp (fun _ => False) w w' := by
  go_enter Try.func16, Try.ntmps16
  go_wp2
  go_quiet (fail)
  go_wp2
  go_ret
  exact ⟨rfl, (by repeat (first | exact Kp.refl _ _ | apply Kp.drew | apply Kp.drewN | refine Kp.setCell ?_ _ _ (Or.inl rfl) | apply Kp.alloc))⟩
theorem wend_none (g : Bool) (w : World) : Calls Try.prog 18 #[.pointer none, .bool g] w fun e w' => e = .returned (.bool false) ∧ w = w' := by
  go_enter Try.func18, Try.ntmps18
  go_wp2
  go_ret
  exact ⟨rfl, rfl⟩
theorem wnow_none (w : World) : Calls Try.prog 20 #[.pointer none] w fun e w' => e = .returned (.int .i64 0) ∧ w = w' := by
  go_enter Try.func20, Try.ntmps20
  go_wp2
  go_ret
  exact ⟨rfl, rfl⟩
theorem wbusy_none (w : World) : Calls Try.prog 21 #[.pointer none] w fun e w' => e = .returned (.int .i64 0) ∧ w = w' := by
  go_enter Try.func21, Try.ntmps21
  go_wp2
  go_ret
  exact ⟨rfl, rfl⟩

theorem wans_any (w : World) : Calls Try.prog 22 #[] w fun e w' => e = .returned (.bool true) ∧ Kp (fun _ => False) w w' := by
  have k0 : WOk 8 1 0 := by unfold WOk; omega
  have k1 : WOk 8 1 1 := by unfold WOk; omega
  have k2 : WOk 8 2 0 := by unfold WOk; omega
  go_enter Try.func22, Try.ntmps22
  go_wp2_with fail
  refine (wnew_any _ _).mono ?_; rintro e w0 ⟨p, rfl, hp, hb, hk⟩
  replace hb : w0.heap[p]? = some (.cells (Wd 8 1 0) 73 (0, 0)) := hb
  have HB0 := Lib.hid hb; clear hb
  go_wp2_with fail
  refine (wbegin_any p 8 1 0 _ k0 HB0.out).mono ?_; rintro e w1 ⟨rfl, hb, hk1⟩
  rw [show Bg 1 0 = true by decide]
  replace hb : w1.heap[p]? = some (.cells (Wd 8 1 1) 73 (0, 0)) := hb
  have HB1 := Lib.hid hb; clear hb
  go_wp2_with fail
  refine (wbegin_any p 8 1 1 _ k1 HB1.out).mono ?_; rintro e w2 ⟨rfl, hb, hk2⟩
  rw [show Bg 1 1 = false by decide]
  replace hb : w2.heap[p]? = some (.cells (Wd 8 1 1) 73 (0, 0)) := hb
  have HB2 := Lib.hid hb; clear hb
  go_wp2_with fail
  refine (wend_any p true 8 1 1 _ k1 HB2.out).mono ?_; rintro e w3 ⟨rfl, hb, hk3⟩
  rw [show Ed 1 = true by decide]
  replace hb : w3.heap[p]? = some (.cells (Wd 8 2 0) 73 (0, 0)) := hb
  have HB3 := Lib.hid hb; clear hb
  go_wp2_with fail
  refine (wnow_any p 8 2 0 _ HB3.out).mono ?_; rintro e w' ⟨rfl, rfl⟩
  go_wp2_with fail
  refine (wbusy_any p 8 2 0 _ HB3.out).mono ?_; rintro e w' ⟨rfl, rfl⟩
  go_wp2_with fail
  refine (wend_any p true 8 2 0 _ k2 HB3.out).mono ?_; rintro e w4 ⟨rfl, hb, hk4⟩
  rw [show Ed 0 = false by decide]
  clear hb
  go_wp2_with fail
  go_ret
  exact ⟨rfl, hk.trans_new (((hk1.trans hk2).trans hk3).trans hk4) (fun k h1 h2 => by have h3 : k = p := h2; omega)⟩

theorem windowNone_law {H : Type} {enc : TypeId × Value → H} (W : World) {base : Nat} (v0 : Value) (d0 : DataW H) (p0 : List MemPlace)
    (k0 : Value.okWide Try.prog W .any base 4 v0) (h0 : DataW.Trod enc Try.prog W 0 (fun _ => true) true 4 v0 d0 p0) :
    Calls Try.prog 5 #[v0] W fun e W' => e = .returned (.bool true) ∧ Below W.heap.size W W' := by
  obtain ⟨g, rfl, rfl, rfl⟩ := open_bool Try.underlying4 k0 h0
  clear h0 k0
  go_enter Try.func5, Try.ntmps5
  go_wp2_with fail
  refine (wans_any _).mono ?_; rintro e w1 ⟨rfl, hk1⟩
  go_wp2_with fail
  refine (wbegin_none _).mono ?_; rintro e w2 ⟨rfl, hk2⟩
  go_wp2_with (first | (go_at_call 18; refine (wend_none _ _).mono ?_; rintro e w' ⟨rfl, rfl⟩) | (go_at_call 20; refine (wnow_none _).mono ?_; rintro e w' ⟨rfl, rfl⟩) | (go_at_call 21; refine (wbusy_none _).mono ?_; rintro e w' ⟨rfl, rfl⟩))
  go_ret
  exact ⟨rfl, (hk1.trans hk2).below (fun _ _ h => h)⟩
end Go.Proofs.Ytihndplkkpglcaa
