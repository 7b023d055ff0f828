/- What the functions of package window, and the reference's, do to a window. Conditions: the window's numbers are within their bounds. -/
import Derived.Test.YtbiahndpfbmoeaaMem
import Derived.Test.YtbiahndpfbmoeaaWithin
import Derived.Deep.QuietTactic
import Derived.BigQuiet
namespace Go.Proofs.Ytbiahndpfbmoeaa
open Go.RowKit
attribute [local go_sem] Mm.max2_int Mm.min2_int Mm.max_two Mm.min_two Mm.max_three

/-- the cells of a window -/
def Wd (m n b : Int) : Array Value := #[.int .i64 m, .int .i64 n, .int .i64 b]
/-- a number within 1 and 8 -/
def V8 (n : Int) : Int := min (max n 1) 8
theorem V8_lo (n : Int) : 1 ≤ V8 n := by unfold V8; omega
theorem V8_hi (n : Int) : V8 n ≤ 8 := by unfold V8; omega
/-- may one begin? -/
def Bg (n b : Int) : Bool := decide (b < n)
/-- how many go on then -/
def Bb (n b : Int) : Int := if b < n then b + 1 else b
/-- may one end? -/
def Ed (b : Int) : Bool := decide (0 < b)
/-- the window then -/
def En (g : Bool) (m n b : Int) : Int := if 0 < b then (match g with | true => min (n + 1) m | false => max (max (n / 2) (b - 1)) 1) else n
/-- how many go on then -/
def Eb (b : Int) : Int := if 0 < b then b - 1 else b
/-- a window's bounds -/
def WOk (m n b : Int) : Prop := m ≤ 8 ∧ 1 ≤ n ∧ n ≤ m ∧ 0 ≤ b ∧ b ≤ n
theorem WOk.begin {m n b : Int} (h : WOk m n b) : WOk m n (Bb n b) := by unfold WOk Bb at *; split <;> omega
theorem WOk.ends {m n b : Int} (g : Bool) (h : WOk m n b) : WOk m (En g m n b) (Eb b) := by
  unfold WOk En Eb at *
  split
  · cases g <;> simp only <;> omega
  · omega

theorem wnew_any (t : Int) (w : World) : Calls Try.prog 74 #[.int .i64 t] w (Made 139 (Wd (V8 t) 1 0) w) := by
  have H := Lib.hid (show min (max t 1) 8 = V8 t from rfl)
  go_enter Try.func74, Try.ntmps74
  go_wp2
  go_ret
  exact ⟨_, rfl, Nat.le_refl _, (heap_new _).trans (by rw [H.out]; rfl), (by repeat (first | exact Kp.refl _ _ | apply Kp.drew | apply Kp.drewN | refine Kp.setCell ?_ _ _ (Or.inl rfl) | apply Kp.alloc))⟩

theorem rwnew_any (t : Int) (w : World) : Calls Try.prog 75 #[.int .i64 t] w (Made 128 (Wd (V8 t) 1 0) w) := by
  have H := Lib.hid (show min (max t 1) 8 = V8 t from rfl)
  go_enter Try.func75, Try.ntmps75
  go_wp2_with (go_at_call 77; refine (rwithin_any _ _ _ _ (by omega)).mono ?_; rintro e w' ⟨rfl, rfl⟩)
  go_ret
  exact ⟨_, rfl, Nat.le_refl _, (heap_new _).trans (by rw [H.out]; rfl), (by repeat (first | exact Kp.refl _ _ | apply Kp.drew | apply Kp.drewN | refine Kp.setCell ?_ _ _ (Or.inl rfl) | apply Kp.alloc))⟩

set_option maxRecDepth 100000 in
theorem wbegin_any (p : Nat) (m n b : Int) (w : World) (hk : WOk m n b) (hb : w.heap[p]? = some (.cells (Wd m n b) 139 (0, 0))) :
    Calls Try.prog 54 #[.pointer (some ⟨p, 0, none⟩)] w fun e w' =>
      e = .returned (.bool (Bg n b)) ∧ w'.heap[p]? = some (.cells (Wd m n (Bb n b)) 139 (0, 0)) ∧ Kp (· = p) w w' := by
  obtain ⟨k1, k2, k3, k4, k5⟩ := hk
  have c0 := cell_of hb 0; have c1 := cell_of hb 1; have c2 := cell_of hb 2
  simp only [Wd, List.getElem?_toArray, List.getElem?_cons_zero, List.getElem?_cons_succ] at c0 c1 c2
  have f2 := frozen_of hb 2
  have HB := Lib.hid hb; clear hb
  by_cases h : b < n
  · have H1 := Lib.hid (show true = Bg n b by unfold Bg; rw [decide_eq_true h])
    have H2 := Lib.hid (show b + 1 = Bb n b by unfold Bb; rw [if_pos h])
    have b1 : decide (n ≤ b) = false := by simp; omega
    go_enter Try.func54, Try.ntmps54
    go_wp2
    go_quiet (fail)
    go_wp2
    go_ret
    exact ⟨by rw [← H1.out]; rfl, by rw [← H2.out]; exact heap_set HB.out _, (by repeat (first | exact Kp.refl _ _ | apply Kp.drew | apply Kp.drewN | refine Kp.setCell ?_ _ _ (Or.inl rfl) | apply Kp.alloc))⟩
  · have H1 := Lib.hid (show false = Bg n b by unfold Bg; rw [decide_eq_false h])
    have H2 := Lib.hid (show b = Bb n b by unfold Bb; rw [if_neg h])
    have b1 : decide (n ≤ b) = true := by simp; omega
    go_enter Try.func54, Try.ntmps54
    go_wp2
    go_quiet (fail)
    go_wp2
    go_ret
    exact ⟨by rw [← H1.out]; rfl, by rw [← H2.out]; exact HB.out, (by repeat (first | exact Kp.refl _ _ | apply Kp.drew | apply Kp.drewN | refine Kp.setCell ?_ _ _ (Or.inl rfl) | apply Kp.alloc))⟩

set_option maxRecDepth 100000 in
theorem rwbegin_any (p : Nat) (m n b : Int) (w : World) (hk : WOk m n b) (hb : w.heap[p]? = some (.cells (Wd m n b) 128 (0, 0))) :
    Calls Try.prog 59 #[.pointer (some ⟨p, 0, none⟩)] w fun e w' =>
      e = .returned (.bool (Bg n b)) ∧ w'.heap[p]? = some (.cells (Wd m n (Bb n b)) 128 (0, 0)) ∧ Kp (· = p) w w' := by
  obtain ⟨k1, k2, k3, k4, k5⟩ := hk
  have c0 := cell_of hb 0; have c1 := cell_of hb 1; have c2 := cell_of hb 2
  simp only [Wd, List.getElem?_toArray, List.getElem?_cons_zero, List.getElem?_cons_succ] at c0 c1 c2
  have f2 := frozen_of hb 2
  have HB := Lib.hid hb; clear hb
  by_cases h : b < n
  · have H1 := Lib.hid (show true = Bg n b by unfold Bg; rw [decide_eq_true h])
    have H2 := Lib.hid (show b + 1 = Bb n b by unfold Bb; rw [if_pos h])
    have b1 : decide (n ≤ b) = false := by simp; omega
    go_enter Try.func59, Try.ntmps59
    go_wp2
    go_quiet (fail)
    go_wp2
    go_ret
    exact ⟨by rw [← H1.out]; rfl, by rw [← H2.out]; exact heap_set HB.out _, (by repeat (first | exact Kp.refl _ _ | apply Kp.drew | apply Kp.drewN | refine Kp.setCell ?_ _ _ (Or.inl rfl) | apply Kp.alloc))⟩
  · have H1 := Lib.hid (show false = Bg n b by unfold Bg; rw [decide_eq_false h])
    have H2 := Lib.hid (show b = Bb n b by unfold Bb; rw [if_neg h])
    have b1 : decide (n ≤ b) = true := by simp; omega
    go_enter Try.func59, Try.ntmps59
    go_wp2
    go_quiet (fail)
    go_wp2
    go_ret
    exact ⟨by rw [← H1.out]; rfl, by rw [← H2.out]; exact HB.out, (by repeat (first | exact Kp.refl _ _ | apply Kp.drew | apply Kp.drewN | refine Kp.setCell ?_ _ _ (Or.inl rfl) | apply Kp.alloc))⟩

set_option maxRecDepth 100000 in
theorem wend_any (p : Nat) (g : Bool) (m n b : Int) (w : World) (hk : WOk m n b) (hb : w.heap[p]? = some (.cells (Wd m n b) 139 (0, 0))) :
    Calls Try.prog 61 #[.pointer (some ⟨p, 0, none⟩), .bool g] w fun e w' =>
      e = .returned (.bool (Ed b)) ∧ w'.heap[p]? = some (.cells (Wd m (En g m n b) (Eb b)) 139 (0, 0)) ∧ Kp (· = p) w w' := by
  obtain ⟨k1, k2, k3, k4, k5⟩ := hk
  have c0 := cell_of hb 0; have c1 := cell_of hb 1; have c2 := cell_of hb 2
  simp only [Wd, List.getElem?_toArray, List.getElem?_cons_zero, List.getElem?_cons_succ] at c0 c1 c2
  have f1 := frozen_of hb 1; have f2 := frozen_of hb 2
  have HB := Lib.hid hb; clear hb
  by_cases h : 0 < b
  · have H1 := Lib.hid (show true = Ed b by unfold Ed; rw [decide_eq_true h])
    have H2 := Lib.hid (show b - 1 = Eb b by unfold Eb; rw [if_pos h])
    have b1 : (b == 0) = false := by rw [beq_eq_false_iff_ne]; omega
    cases g with
    | true =>
      have H3 := Lib.hid (show min (n + 1) m = En true m n b by unfold En; rw [if_pos h])
      go_enter Try.func61, Try.ntmps61
      go_wp2
      refine still_tail 13 (by kernel_rfl) (by kernel_rfl) ?_
      simp only [List.take_succ_cons, List.take_zero, List.drop_succ_cons, List.drop_zero]
      repeat still_step
      refine wpStill_nil ?_
      go_wp2
      go_ret
      exact ⟨by rw [← H1.out]; rfl, by rw [← H2.out, ← H3.out]; exact heap_set (heap_set HB.out _) _, (by repeat (first | exact Kp.refl _ _ | apply Kp.drew | apply Kp.drewN | refine Kp.setCell ?_ _ _ (Or.inl rfl) | apply Kp.alloc))⟩
    | false =>
      have H3 := Lib.hid (show max (n / 2) (max (b - 1) 1) = En false m n b by unfold En; rw [if_pos h]; simp only; omega)
      go_enter Try.func61, Try.ntmps61
      go_wp2
      refine still_tail 13 (by kernel_rfl) (by kernel_rfl) ?_
      simp only [List.take_succ_cons, List.take_zero, List.drop_succ_cons, List.drop_zero]
      repeat still_step
      refine wpStill_nil ?_
      go_wp2
      go_ret
      exact ⟨by rw [← H1.out]; rfl, by rw [← H2.out, ← H3.out]; exact heap_set (heap_set HB.out _) _, (by repeat (first | exact Kp.refl _ _ | apply Kp.drew | apply Kp.drewN | refine Kp.setCell ?_ _ _ (Or.inl rfl) | apply Kp.alloc))⟩
  · have H1 := Lib.hid (show false = Ed b by unfold Ed; rw [decide_eq_false h])
    have H2 := Lib.hid (show b = Eb b by unfold Eb; rw [if_neg h])
    have H3 := Lib.hid (show n = En g m n b by unfold En; rw [if_neg h])
    have b1 : (b == 0) = true := by rw [beq_iff_eq]; omega
    go_enter Try.func61, Try.ntmps61
    go_wp2
    go_ret
    exact ⟨by rw [← H1.out]; rfl, by rw [← H2.out, ← H3.out]; exact HB.out, (by repeat (first | exact Kp.refl _ _ | apply Kp.drew | apply Kp.drewN | refine Kp.setCell ?_ _ _ (Or.inl rfl) | apply Kp.alloc))⟩

set_option maxRecDepth 100000 in
theorem rwend_any (p : Nat) (g : Bool) (m n b : Int) (w : World) (hk : WOk m n b) (hb : w.heap[p]? = some (.cells (Wd m n b) 128 (0, 0))) :
    Calls Try.prog 62 #[.pointer (some ⟨p, 0, none⟩), .bool g] w fun e w' =>
      e = .returned (.bool (Ed b)) ∧ w'.heap[p]? = some (.cells (Wd m (En g m n b) (Eb b)) 128 (0, 0)) ∧ Kp (· = p) w w' := by
  obtain ⟨k1, k2, k3, k4, k5⟩ := hk
  have c0 := cell_of hb 0; have c1 := cell_of hb 1; have c2 := cell_of hb 2
  simp only [Wd, List.getElem?_toArray, List.getElem?_cons_zero, List.getElem?_cons_succ] at c0 c1 c2
  have f1 := frozen_of hb 1; have f2 := frozen_of hb 2
  have HB := Lib.hid hb; clear hb
  by_cases h : 0 < b
  · have H1 := Lib.hid (show true = Ed b by unfold Ed; rw [decide_eq_true h])
    have H2 := Lib.hid (show b - 1 = Eb b by unfold Eb; rw [if_pos h])
    have b1 : (b == 0) = false := by rw [beq_eq_false_iff_ne]; omega
    cases g with
    | true =>
      have H3 := Lib.hid (show min (max (n + 1) 1) m = En true m n b by unfold En; rw [if_pos h]; simp only; omega)
      go_enter Try.func62, Try.ntmps62
      go_wp2_with fail
      refine still_tail 13 (by kernel_rfl) (by kernel_rfl) ?_
      simp only [List.take_succ_cons, List.take_zero, List.drop_succ_cons, List.drop_zero]
      repeat (first | still_step | still_call ((rwithin_any _ _ _ _ (by omega)).flip))
      refine wpStill_nil ?_
      go_wp2_with fail
      go_ret
      exact ⟨by rw [← H1.out]; rfl, by rw [← H2.out, ← H3.out]; exact heap_set (heap_set HB.out _) _, (by repeat (first | exact Kp.refl _ _ | apply Kp.drew | apply Kp.drewN | refine Kp.setCell ?_ _ _ (Or.inl rfl) | apply Kp.alloc))⟩
    | false =>
      by_cases hq : n / 2 < b - 1
      · have H3 := Lib.hid (show min (max (b - 1) 1) m = En false m n b by unfold En; rw [if_pos h]; simp only; omega)
        go_enter Try.func62, Try.ntmps62
        go_wp2_with (go_at_call 77; refine (rwithin_any _ _ _ _ (by omega)).mono ?_; rintro e w' ⟨rfl, rfl⟩)
        go_ret
        exact ⟨by rw [← H1.out]; rfl, by rw [← H2.out, ← H3.out]; exact heap_set (heap_set HB.out _) _, (by repeat (first | exact Kp.refl _ _ | apply Kp.drew | apply Kp.drewN | refine Kp.setCell ?_ _ _ (Or.inl rfl) | apply Kp.alloc))⟩
      · have H3 := Lib.hid (show min (max (n / 2) 1) m = En false m n b by unfold En; rw [if_pos h]; simp only; omega)
        go_enter Try.func62, Try.ntmps62
        go_wp2_with (go_at_call 77; refine (rwithin_any _ _ _ _ (by omega)).mono ?_; rintro e w' ⟨rfl, rfl⟩)
        go_ret
        exact ⟨by rw [← H1.out]; rfl, by rw [← H2.out, ← H3.out]; exact heap_set (heap_set HB.out _) _, (by repeat (first | exact Kp.refl _ _ | apply Kp.drew | apply Kp.drewN | refine Kp.setCell ?_ _ _ (Or.inl rfl) | apply Kp.alloc))⟩
  · have H1 := Lib.hid (show false = Ed b by unfold Ed; rw [decide_eq_false h])
    have H2 := Lib.hid (show b = Eb b by unfold Eb; rw [if_neg h])
    have H3 := Lib.hid (show n = En g m n b by unfold En; rw [if_neg h])
    have b1 : (b == 0) = true := by rw [beq_iff_eq]; omega
    go_enter Try.func62, Try.ntmps62
    go_wp2_with fail
    go_ret
    exact ⟨by rw [← H1.out]; rfl, by rw [← H2.out, ← H3.out]; exact HB.out, (by repeat (first | exact Kp.refl _ _ | apply Kp.drew | apply Kp.drewN | refine Kp.setCell ?_ _ _ (Or.inl rfl) | apply Kp.alloc))⟩

theorem wnow_any (p : Nat) (m n b : Int) (w : World) (hb : w.heap[p]? = some (.cells (Wd m n b) 139 (0, 0))) :
    Calls Try.prog 65 #[.pointer (some ⟨p, 0, none⟩)] w fun e w' => e = .returned (.int .i64 n) ∧ w = w' := by
  have c1 := cell_of hb 1
  simp only [Wd, List.getElem?_toArray, List.getElem?_cons_zero, List.getElem?_cons_succ] at c1
  clear hb
  go_enter Try.func65, Try.ntmps65
  go_wp2
  go_ret
  exact ⟨rfl, rfl⟩
theorem wbusy_any (p : Nat) (m n b : Int) (w : World) (hb : w.heap[p]? = some (.cells (Wd m n b) 139 (0, 0))) :
    Calls Try.prog 66 #[.pointer (some ⟨p, 0, none⟩)] w fun e w' => e = .returned (.int .i64 b) ∧ w = w' := by
  have c2 := cell_of hb 2
  simp only [Wd, List.getElem?_toArray, List.getElem?_cons_zero, List.getElem?_cons_succ] at c2
  clear hb
  go_enter Try.func66, Try.ntmps66
  go_wp2
  go_ret
  exact ⟨rfl, rfl⟩
end Go.Proofs.Ytbiahndpfbmoeaa
