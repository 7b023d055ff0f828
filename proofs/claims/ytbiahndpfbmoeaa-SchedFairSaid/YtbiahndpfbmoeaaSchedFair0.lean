/- What SchedFair's walk stands on. No condition. -/
import Derived.Test.YtbiahndpfbmoeaaSd25
import Derived.ProofKit
namespace Go.Proofs.Ytbiahndpfbmoeaa
open Go.RowKit Go.ChangeShapes Go.WideShapes SatAid Go.Deep

def fF : ByteArray := ⟨#[102, 105, 114, 115, 116]⟩
def fS : ByteArray := ⟨#[115, 101, 99, 111, 110, 100]⟩
def fA : ByteArray := ⟨#[97]⟩
def fB : ByteArray := ⟨#[98]⟩
def fX : ByteArray := ⟨#[120]⟩
def fC (lv : Value) (L : List ByteArray) : Cf := ⟨⟨#[]⟩, lv, L, 0, 8, 100, 100, 0, 0, 0, 0, 0, 0⟩
theorem ne_lit {x : ByteArray} {l : List UInt8} (h : ¬ x = ⟨l.toArray⟩) : ¬ x.toList = l := fun e => toList_ne h (e.trans (by rw [ByteArray.toList_eq]))
theorem fFS : fF ≠ fS := by decide
def CF (s : Sd) (loc : Bool) : Prop := s.c.rate = 100 ∧ s.c.burst = 100 ∧ Has fA s.c.L = loc ∧ Has fB s.c.L = loc ∧ Has fX s.c.L = loc
set_option maxRecDepth 100000 in
theorem open_sops {H : Type} {enc : TypeId × Value → H} {W : World} {base : Nat} {v : Value} {d : DataW H} {ps : List MemPlace} (k : Value.okWide Try.prog W .any base 46 v) (h : DataW.Trod enc Try.prog W 0 (fun _ => true) true 46 v d ps) :
    ∃ (ao : Option Addr) (n cap : Nat) (f : Nat → SOp), v = .slice ao n cap ∧ n ≤ cap ∧ cap ≤ 9223372036854775807 ∧ SRow W ao n 8 (fun i => So (f i)) ∧ ∀ i, i < n → SOk (f i) := by
  obtain ⟨ao, len, cap, V, rfl, h1, h2, h3, h4⟩ := open_srow Try.underlying46 cells_sop (by omega) k h
  obtain ⟨f, hf⟩ := choose_lt (α := SOp) (p := fun i r => V i = So r ∧ SOk r) (fun i hi => by
    obtain ⟨n, y, hy⟩ := h4 i hi
    obtain ⟨hV, _⟩ := h3 i hi
    exact sop_of_trod hV hy)
  exact ⟨ao, len, cap, f, rfl, h2, h1, h3.congr (fun i hi => (hf i hi).1.symm), fun i hi => (hf i hi).2⟩
/-- one of the others is put, or stands there already -/
def PutX (W : World) (p N : Nat) (s : Sd) (loc : Bool) (a b n m : Nat) (e : Ending) (w' : World) : Prop :=
  ∃ r N' s', e = .returned (.bool r) ∧ N' ≤ N + 1 ∧ SI W w' p s' N' ∧ FP (ab s') loc fF fS fA fB a b ∧ Fr fF fS (rgB (ab s') loc) n m ∧ s'.Ps = s.Ps ∧ s'.c = s.c
theorem putX {W w : World} {p N : Nat} {s : Sd} {loc : Bool} {a b n m : Nat} (id rc nx : Int) (x : ByteArray) (h : SI W w p s N) (hfp : FP (ab s) loc fF fS fA fB a b) (hfr : Fr fF fS (rgB (ab s) loc) n m) (hcf : CF s loc) (hx : x ≠ fF) (hx2 : x ≠ fS)
    (h1 : (Lit.int .i64 id).wf = true) (h2 : (Lit.int .i64 rc).wf = true) (hN : N ≤ 1000000) :
    Calls Try.prog 25 #[.pointer (some ⟨p, 0, none⟩), .int .i64 id, .int .i64 rc, .string x, .string fX, .int .i64 nx] w (PutX W p N s loc a b n m) := by
  refine (putA id rc nx x fX h h1 h2 (by decide) hN).mono ?_
  rintro e w' ⟨g1, g2⟩
  by_cases hin : ∃ z ∈ (ab s).W, (z.id, z.rc) = (id, rc)
  · obtain ⟨rfl, r2, _⟩ := g1 hin
    exact ⟨false, N, s, rfl, Nat.le_succ _, r2, hfp, hfr, rfl, rfl⟩
  · obtain ⟨rfl, s', r2, _, hA, hP⟩ := g2 hin
    refine ⟨true, N + 1, s', rfl, Nat.le_refl _, r2, ?_, ?_, hP, congrArg Ab.c hA⟩
    · rw [hA]
      have := hfp.put hin (x := ⟨id, rc, x, fX, Has fX s.c.L, false, C nx⟩) hcf.2.2.2.2 rfl ⟨fun e => absurd e hx, fun e => absurd (show fX = fA from e) (by decide)⟩ ⟨fun e => absurd e hx2, fun e => absurd (show fX = fB from e) (by decide)⟩ (fun e => e.elim (fun e => absurd e hx) (fun e => absurd e hx2))
      rw [if_neg hx, if_neg hx2] at this
      exact this
    · rw [hA]
      have e1 : rgB (aPut (ab s) ⟨id, rc, x, fX, Has fX s.c.L, false, C nx⟩) loc = Plus x (rgB (ab s) loc) := by
        rw [hcf.2.2.2.2]
        cases loc <;> rfl
      rw [e1]
      exact hfr.plus
theorem srd_three (w : World) (o : Obj) : SRd ((w.alloc o).alloc (.cells #[.string fA, .string fB, .string fX] 9)) (some ⟨w.heap.size + 1, 0, none⟩) [fA, fB, fX] := by
  intro i hi
  refine ⟨w.heap.size + 1, 0, rfl, by simp, ?_⟩
  rw [cell_of (heap_new2 _ _)]
  match i, hi with
  | 0, _ => rfl
  | 1, _ => rfl
  | 2, _ => rfl
end Go.Proofs.Ytbiahndpfbmoeaa
