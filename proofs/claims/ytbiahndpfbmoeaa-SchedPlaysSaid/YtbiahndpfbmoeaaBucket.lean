/- What the functions of package bucket do to a bucket. No condition. -/
import Derived.Test.YtbiahndpfbmoeaaSat
import Derived.Test.YtbiahndpfbmoeaaMem
import Derived.StillTailTactics
namespace Go.Proofs.Ytbiahndpfbmoeaa
open Go.RowKit SatAid
attribute [local go_sem] Mm.max2_int Mm.min2_int Mm.max_two Mm.min_two

/-- the cells of a bucket -/
def Bk (r u l t : Int) : Array Value := #[.int .i64 r, .int .i64 u, .int .i64 l, .int .i64 t]
/-- a number within 1 and 100 -/
def V (n : Int) : Int := min (max n 1) 100
/-- what is left at a time -/
def Lf (r u l t n : Int) : Int := min u (A l (M r (D n t)))
theorem V_lo (n : Int) : 1 ≤ V n := by unfold V; omega
theorem V_hi (n : Int) : V n ≤ 100 := by unfold V; omega
theorem Lf_lo {r u l t n : Int} (h : 0 ≤ u) : 0 ≤ Lf r u l t n := by have := A_lo l (M r (D n t)); unfold Lf; omega
theorem Lf_hi {r u l t n : Int} : Lf r u l t n ≤ u := by unfold Lf; omega

theorem bwithin_any (n : Int) (w : World) : Calls Try.prog 81 #[.int .i64 n] w fun e w' => e = .returned (.int .i64 (V n)) ∧ w = w' := by
  have H := Lib.hid (show min (max n 1) 100 = V n from rfl)
  go_enter Try.func81, Try.ntmps81
  go_wp2
  go_ret
  exact ⟨ret_int H.out, rfl⟩

theorem bnew_any (r u n : Int) (w : World) : Calls Try.prog 68 #[.int .i64 r, .int .i64 u, .int .i64 n] w (Made 141 (Bk (V r) (V u) (V u) (C n)) w) := by
  go_enter Try.func68, Try.ntmps68
  go_wp2_with (first | (go_at_call 78; refine (add_any _ _ _).mono ?_; rintro e w' ⟨rfl, rfl⟩) | (go_at_call 80; refine (sub_any _ _ _).mono ?_; rintro e w' ⟨rfl, rfl⟩) | (go_at_call 79; refine (mul_any _ _ _).mono ?_; rintro e w' ⟨rfl, rfl⟩) | (go_at_call 47; refine (clamp_any _ _).mono ?_; rintro e w' ⟨rfl, rfl⟩) | (go_at_call 81; refine (bwithin_any _ _).mono ?_; rintro e w' ⟨rfl, rfl⟩))
  go_ret
  exact ⟨_, rfl, Nat.le_refl _, heap_new _, (by repeat (first | exact Kp.refl _ _ | apply Kp.drew | apply Kp.drewN | refine Kp.setCell ?_ _ _ (Or.inl rfl) | apply Kp.alloc))⟩

set_option maxRecDepth 100000 in
theorem bleft_any (b : Nat) (r u l t n : Int) (w : World) (hb : w.heap[b]? = some (.cells (Bk r u l t) 141 (0, 0))) :
    Calls Try.prog 67 #[.pointer (some ⟨b, 0, none⟩), .int .i64 n] w fun e w' =>
      e = .returned (.int .i64 (Lf r u l t n)) ∧ w'.heap[b]? = some (.cells (Bk r u (Lf r u l t n) (max t (C n))) 141 (0, 0)) ∧ Kp (· = b) w w' := by
  have c0 := cell_of hb 0; have c1 := cell_of hb 1; have c2 := cell_of hb 2; have c3 := cell_of hb 3
  simp only [Bk, List.getElem?_toArray, List.getElem?_cons_zero, List.getElem?_cons_succ] at c0 c1 c2 c3
  have f2 := frozen_of hb 2; have f3 := frozen_of hb 3
  have HB := Lib.hid hb; clear hb
  go_enter Try.func67, Try.ntmps67
  go_wp2
  refine still_tail 24 (by kernel_rfl) (by kernel_rfl) ?_
  simp only [List.take_succ_cons, List.take_zero, List.drop_succ_cons, List.drop_zero]
  repeat (first | still_step | still_call ((sub_any _ _ _).flip) | still_call ((mul_any _ _ _).flip) | still_call ((add_any _ _ _).flip))
  refine wpStill_nil ?_
  go_wp2
  refine still_tail 10 (by kernel_rfl) (by kernel_rfl) ?_
  simp only [List.take_succ_cons, List.take_zero, List.drop_succ_cons, List.drop_zero]
  repeat (first | still_step | still_call ((clamp_any _ _).flip))
  refine wpStill_nil ?_
  go_wp2
  go_ret
  exact ⟨ret_int rfl, heap_set (heap_set HB.out _) _, (by repeat (first | exact Kp.refl _ _ | apply Kp.drew | apply Kp.drewN | refine Kp.setCell ?_ _ _ (Or.inl rfl) | apply Kp.alloc))⟩

theorem bleft_none (n : Int) (w : World) : Calls Try.prog 67 #[.pointer none, .int .i64 n] w fun e w' => e = .returned (.int .i64 0) ∧ w = w' := by
  go_enter Try.func67, Try.ntmps67
  go_wp2
  go_ret
  exact ⟨rfl, rfl⟩

theorem btake_none (n : Int) (w : World) : Calls Try.prog 55 #[.pointer none, .int .i64 n] w fun e w' => e = .returned (.bool false) ∧ w = w' := by
  go_enter Try.func55, Try.ntmps55
  go_wp2_with (go_at_call 67; refine (bleft_none _ _).mono ?_; rintro e w' ⟨rfl, rfl⟩)
  go_ret
  exact ⟨rfl, rfl⟩

/-- is there one to take? -/
def Tk (r u l t n : Int) : Bool := decide (0 < Lf r u l t n)
/-- what is left when one was taken -/
def Tl (r u l t n : Int) : Int := max (Lf r u l t n - 1) 0

set_option maxRecDepth 100000 in
theorem btake_any (b : Nat) (r u l t n : Int) (w : World) (hu : 0 ≤ u) (hu2 : u ≤ 100) (hb : w.heap[b]? = some (.cells (Bk r u l t) 141 (0, 0))) :
    Calls Try.prog 55 #[.pointer (some ⟨b, 0, none⟩), .int .i64 n] w fun e w' =>
      e = .returned (.bool (Tk r u l t n)) ∧ w'.heap[b]? = some (.cells (Bk r u (Tl r u l t n) (max t (C n))) 141 (0, 0)) ∧ Kp (· = b) w w' := by
  have h0 := Lf_lo (r := r) (l := l) (t := t) (n := n) hu
  have h1 := Lf_hi (r := r) (u := u) (l := l) (t := t) (n := n)
  by_cases h : Lf r u l t n = 0
  · have H1 := Lib.hid (show false = Tk r u l t n by unfold Tk; rw [h]; rfl)
    have H2 := Lib.hid (show Lf r u l t n = Tl r u l t n by unfold Tl; omega)
    have H3 : (Lf r u l t n == 0) = true := by rw [beq_iff_eq]; exact h
    clear h
    go_enter Try.func55, Try.ntmps55
    go_wp2_with (go_at_call 67; refine (bleft_any b r u l t n _ hb).mono ?_; rintro e w' ⟨rfl, hb', hk⟩; have HB := Lib.hid hb'; clear hb' hb)
    go_ret
    exact ⟨by rw [← H1.out]; rfl, by rw [← H2.out]; exact HB.out, hk⟩
  · have H1 := Lib.hid (show true = Tk r u l t n by unfold Tk; rw [eq_comm, decide_eq_true_eq]; omega)
    have H2 := Lib.hid (show Lf r u l t n - 1 = Tl r u l t n by unfold Tl; omega)
    have H3 : (Lf r u l t n == 0) = false := by rw [beq_eq_false_iff_ne]; exact h
    have h4 : 1 ≤ Lf r u l t n := by omega
    clear h
    go_enter Try.func55, Try.ntmps55
    go_wp2_with (go_at_call 67; refine (bleft_any b r u l t n _ hb).mono ?_; rintro e w' ⟨rfl, hb', hk⟩; have c2 := cell_of hb' 2; have f2 := frozen_of hb' 2; simp only [Bk, List.getElem?_toArray, List.getElem?_cons_zero, List.getElem?_cons_succ] at c2; have HB := Lib.hid hb'; clear hb' hb)
    go_ret
    exact ⟨by rw [← H1.out]; rfl, by rw [← H2.out]; exact heap_set HB.out _, hk.setCell _ _ (Or.inl rfl)⟩
end Go.Proofs.Ytbiahndpfbmoeaa
