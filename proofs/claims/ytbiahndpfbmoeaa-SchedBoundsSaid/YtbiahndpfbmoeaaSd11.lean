/- What cmp.Compare, cmp.Or (of two), least, slices.MinFunc, slices.DeleteFunc do for package sched. Conditions: there are no more recipients than fit into memory. -/
import Derived.Test.YtbiahndpfbmoeaaSd10
import Derived.Lib.SliceRun
namespace Go.Proofs.Ytbiahndpfbmoeaa
open Go.RowKit Go.Maps SatAid Go.MapKept Go.ChangeMaps Go.WideShapes

def Cmp (a b : Int) : Int := if a < b then -1 else if b < a then 1 else 0
theorem cnan_any (a : Int) (w : World) : Calls Try.prog 85 #[.int .i64 a] w fun e w' => e = .returned (.bool false) ∧ w = w' := by
  go_enter Try.func85, Try.ntmps85
  go_wp2
  go_ret
  exact ⟨by simp, rfl⟩
theorem ccmp_any (a b : Int) (w : World) : Calls Try.prog 84 #[.int .i64 a, .int .i64 b] w fun e w' => e = .returned (.int .i64 (Cmp a b)) ∧ w = w' := by
  by_cases h1 : a < b
  · rw [show Cmp a b = -1 by unfold Cmp; rw [if_pos h1]]
    go_enter Try.func84, Try.ntmps84
    go_wp2_with (go_at_call 85; refine (cnan_any _ _).mono ?_; rintro e w' ⟨rfl, rfl⟩)
    go_ret
    exact ⟨rfl, rfl⟩
  · by_cases h2 : b < a
    · rw [show Cmp a b = 1 by unfold Cmp; rw [if_neg h1, if_pos h2]]
      go_enter Try.func84, Try.ntmps84
      go_wp2_with (go_at_call 85; refine (cnan_any _ _).mono ?_; rintro e w' ⟨rfl, rfl⟩)
      go_ret
      exact ⟨rfl, rfl⟩
    · rw [show Cmp a b = 0 by unfold Cmp; rw [if_neg h1, if_neg h2]]
      go_enter Try.func84, Try.ntmps84
      go_wp2_with (go_at_call 85; refine (cnan_any _ _).mono ?_; rintro e w' ⟨rfl, rfl⟩)
      go_ret
      exact ⟨rfl, rfl⟩
def Or2 (a b : Int) : Int := if a ≠ 0 then a else b
theorem cor_any (g : Nat) (a b : Int) (w : World) (h0 : w.cell? ⟨g, 0, none⟩ = some (.int .i64 a)) (h1 : w.cell? ⟨g, 1, none⟩ = some (.int .i64 b)) :
    Calls Try.prog 83 #[.slice (some ⟨g, 0, none⟩) 2 2] w fun e w' => e = .returned (.int .i64 (Or2 a b)) ∧ w = w' := by
  unfold Or2
  by_cases ha : a = 0
  · subst ha
    by_cases hb : b = 0
    · subst hb
      go_enter Try.func83, Try.ntmps83
      go_wp2_with fail
      go_loopg [5, 8] 2 (fun k _ i wr => ∃ j : Nat, k = 2 - j ∧ j ≤ 2 ∧ i = .int .i64 j ∧ wr = w)
      case atStart => exact ⟨0, rfl, by omega, rfl, rfl⟩
      case round =>
        obtain ⟨j, rfl, hj, rfl, rfl⟩ := hrel
        match j, hj with
        | 0, _ =>
          go_wp2_with fail
          go_roundg 1
          case measure => omega
          case rel => exact ⟨1, rfl, by omega, rfl, rfl⟩
        | 1, _ =>
          go_wp2_with fail
          go_roundg 0
          case measure => omega
          case rel => exact ⟨2, rfl, by omega, rfl, rfl⟩
        | 2, _ =>
          go_wp2_with fail
          go_ret
          exact ⟨rfl, rfl⟩
    · go_enter Try.func83, Try.ntmps83
      go_wp2_with fail
      go_loopg [5, 8] 2 (fun k _ i wr => ∃ j : Nat, k = 2 - j ∧ j ≤ 1 ∧ i = .int .i64 j ∧ wr = w)
      case atStart => exact ⟨0, rfl, by omega, rfl, rfl⟩
      case round =>
        obtain ⟨j, rfl, hj, rfl, rfl⟩ := hrel
        match j, hj with
        | 0, _ =>
          go_wp2_with fail
          go_roundg 1
          case measure => omega
          case rel => exact ⟨1, rfl, by omega, rfl, rfl⟩
        | 1, _ =>
          go_wp2_with fail
          go_ret
          exact ⟨by simp, rfl⟩
  · rw [if_pos ha]
    go_enter Try.func83, Try.ntmps83
    go_wp2_with fail
    go_loopg [5, 8] 1 (fun k _ i wr => k = 1 ∧ i = .int .i64 0 ∧ wr = w)
    case atStart => exact ⟨rfl, rfl, rfl⟩
    case round =>
      obtain ⟨rfl, rfl, rfl⟩ := hrel
      go_wp2_with fail
      go_ret
      exact ⟨rfl, rfl⟩
def Le2 (x z : Wt) : Int := Or2 (Cmp x.id z.id) (Cmp x.rc z.rc)
theorem Le2_neg (x z : Wt) : Le2 x z < 0 ↔ (x.id < z.id ∨ x.id = z.id ∧ x.rc < z.rc) := by
  unfold Le2 Or2 Cmp
  repeat' split
  all_goals first | omega | (constructor <;> intro h <;> omega)
theorem sleast_any (x z : Wt) (w : World) (hx : w.heap[x.blk]? = some (.cells (Wc x) 99 (0, 0))) (hz : w.heap[z.blk]? = some (.cells (Wc z) 99 (0, 0))) :
    Calls Try.prog 73 #[.pointer (some ⟨x.blk, 0, none⟩), .pointer (some ⟨z.blk, 0, none⟩)] w fun e w' => e = .returned (.int .i64 (Le2 x z)) ∧ Kp (fun _ => False) w w' := by
  have x0 : w.cell? ⟨x.blk, 0, none⟩ = some (.int .i64 x.id) := (cell_of hx 0).trans rfl
  have x1 : w.cell? ⟨x.blk, 1, none⟩ = some (.int .i64 x.rc) := (cell_of hx 1).trans rfl
  have z0 : w.cell? ⟨z.blk, 0, none⟩ = some (.int .i64 z.id) := (cell_of hz 0).trans rfl
  have z1 : w.cell? ⟨z.blk, 1, none⟩ = some (.int .i64 z.rc) := (cell_of hz 1).trans rfl
  have lx := lt_of_block hx
  have lz := lt_of_block hz
  clear hx hz
  go_enter Try.func73, Try.ntmps73
  go_wp2_with fail
  go_region_held3 (fun w' => w'.cell? ⟨x.blk, 0, none⟩ = some (.int .i64 x.id) ∧ w'.cell? ⟨x.blk, 1, none⟩ = some (.int .i64 x.rc) ∧ w'.cell? ⟨z.blk, 0, none⟩ = some (.int .i64 z.id) ∧ w'.cell? ⟨z.blk, 1, none⟩ = some (.int .i64 z.rc)) (first | exact ⟨(Kp.cell (S := fun _ => False) (w := w) (by repeat (first | exact Kp.refl _ _ | apply Kp.drew | apply Kp.drewN | refine Kp.setCell ?_ _ _ (Or.inr (by simp)) | apply Kp.alloc)) 0 lx (fun h => h)).trans x0, (Kp.cell (S := fun _ => False) (w := w) (by repeat (first | exact Kp.refl _ _ | apply Kp.drew | apply Kp.drewN | refine Kp.setCell ?_ _ _ (Or.inr (by simp)) | apply Kp.alloc)) 1 lx (fun h => h)).trans x1, (Kp.cell (S := fun _ => False) (w := w) (by repeat (first | exact Kp.refl _ _ | apply Kp.drew | apply Kp.drewN | refine Kp.setCell ?_ _ _ (Or.inr (by simp)) | apply Kp.alloc)) 0 lz (fun h => h)).trans z0, (Kp.cell (S := fun _ => False) (w := w) (by repeat (first | exact Kp.refl _ _ | apply Kp.drew | apply Kp.drewN | refine Kp.setCell ?_ _ _ (Or.inr (by simp)) | apply Kp.alloc)) 1 lz (fun h => h)).trans z1⟩)
    (first | (go_at_call 84; refine (ccmp_any _ _ _).mono ?_; rintro e w' ⟨rfl, rfl⟩) | (go_at_call 83; refine (cor_any w.heap.size (Cmp x.id z.id) (Cmp x.rc z.rc) _ (by exact (cell_of (heap_new (w := w) _) 0).trans rfl) (by exact (cell_of (heap_new (w := w) _) 1).trans rfl)).mono ?_; rintro e w' ⟨rfl, rfl⟩))
  go_wp2_with fail
  go_ret
  exact ⟨rfl, (by repeat (first | exact Kp.refl _ _ | apply Kp.drew | apply Kp.drewN | refine Kp.setCell ?_ _ _ (Or.inl rfl) | apply Kp.alloc))⟩
end Go.Proofs.Ytbiahndpfbmoeaa
