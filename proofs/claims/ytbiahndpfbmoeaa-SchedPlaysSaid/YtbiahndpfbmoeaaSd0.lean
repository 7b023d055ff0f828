/- The keys of package sched's maps: what they read as. No condition. -/
import Derived.Test.YtbiahndpfbmoeaaMap
import Derived.Test.YtbiahndpfbmoeaaAid
import Derived.DeepKeys4
namespace Go.Proofs.Ytbiahndpfbmoeaa
open Go.RowKit Go.Maps Go.WideMaps Go.ChangeShapes Go.WideShapes

theorem key_wide : (match Try.prog.underlying 95 with | some (.array _ _) | some (.struct _) => true | _ => false) = true := by kernel_rfl
theorem key_row : (95 : TypeId) < Try.prog.types.size := by
  have h : decide (95 < Try.prog.types.size) = true := by kernel_rfl
  exact of_decide_eq_true h
set_option maxRecDepth 100000 in
theorem key_keyed : Keyed Try.prog 95 := Keyed.of_law (deep_law_laid laidOut (m := 2) (by omega) key_row (by kernel_rfl) key_wide)
def Kv (id rc : Int) : Value := .agg #[.int .i64 id, .int .i64 rc]
def Kx (id rc : Int) : Lit := .string (keyBytes [.int .i64 id, .int .i64 rc])
theorem key_lit {id rc : Int} (h1 : (Lit.int .i64 id).wf = true) (h2 : (Lit.int .i64 rc).wf = true) : keyOf Try.prog 95 (Kv id rc) = some (Kx id rc) := by
  have hu := Try.underlying95
  have hk : Try.prog.keyType 95 = true := by kernel_rfl
  have hc : Try.prog.cellsOf 95 = 2 := by kernel_rfl
  have hci : Try.prog.cellsOf 3 = 1 := by kernel_rfl
  have hi := Try.underlying3
  have hf : (Kv id rc).formed Try.prog 95 = true := by simp [Value.formed, hu, hc, Kv]
  have hsz : ∃ m, Try.prog.types.size = m + 1 := ⟨Try.prog.types.size - 1, by have h0 : (95 : Nat) < Try.prog.types.size := key_row; omega⟩
  obtain ⟨m, hm⟩ := hsz
  unfold keyOf
  rw [hu, hk, hf, hm]
  simp [Program.keyLits, hu, hc, hci, hi, Kv, Kx, Value.cells, h1, h2]
theorem key_inj {id rc id' rc' : Int} (h1 : (Lit.int .i64 id).wf = true) (h2 : (Lit.int .i64 rc).wf = true) (h3 : (Lit.int .i64 id').wf = true) (h4 : (Lit.int .i64 rc').wf = true) (h : Kx id rc = Kx id' rc') : id = id' ∧ rc = rc' := by
  have e1 := key_lit h1 h2
  have e2 := key_lit h3 h4
  rw [h] at e1
  have := key_keyed.inj e1 e2
  simp only [Kv, Value.agg.injEq, Array.mk.injEq, List.cons.injEq, Value.int.injEq, true_and, and_true] at this
  exact this
end Go.Proofs.Ytbiahndpfbmoeaa
