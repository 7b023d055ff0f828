/- The operations that law 22's statements are given. No condition. -/
import Derived.Test.YtbiahndpfbmoeaaSd23
namespace Go.Proofs.Ytbiahndpfbmoeaa
open Go.RowKit Go.ChangeShapes Go.WideShapes Go.Deep

set_option maxRecDepth 100000 in
theorem cells_sop : Try.prog.cellsOf 58 = 8 := by kernel_rfl
set_option maxRecDepth 100000 in
theorem cells_sint : Try.prog.cellsOf 3 = 1 := by kernel_rfl
set_option maxRecDepth 100000 in
theorem cells_sbool : Try.prog.cellsOf 4 = 1 := by kernel_rfl
set_option maxRecDepth 100000 in
theorem cells_sstr : Try.prog.cellsOf 9 = 1 := by kernel_rfl
structure SOp where
  (k id rc nx : Int) (snd dom : ByteArray) (good stays : Bool)
  deriving Inhabited
def So (r : SOp) : List Value := [.int .i64 r.k, .int .i64 r.id, .int .i64 r.rc, .int .i64 r.nx, .string r.snd, .string r.dom, .bool r.good, .bool r.stays]
/-- what is known of an operation -/
def SOk (r : SOp) : Prop := (Lit.int .i64 r.id).wf = true ∧ (Lit.int .i64 r.rc).wf = true ∧ (Lit.int .i64 r.nx).wf = true ∧ r.snd.size ≤ maxLen ∧ r.dom.size ≤ maxLen
set_option maxRecDepth 100000 in
theorem sop_of_trod {H : Type} {enc : TypeId × Value → H} {W : World} {fuel : Nat} {cs : List Value} {y : DataW H × List MemPlace} (hV : cs.length = 8)
    (hy : DataW.trod enc Try.prog W 0 (fun _ => true) true fuel 58 cs = some y) : ∃ r, cs = So r ∧ SOk r := by
  obtain ⟨xs, n', rfl, _, hl, hxl, hx⟩ := DataW.trod_struct Try.underlying58 hy
  have e0 : DataW.trod enc Try.prog W 0 (fun _ => true) true n' 3 ((cs.drop 0).take (Try.prog.cellsOf 3)) = xs[0]? := hx 0 _ rfl
  have e1 : DataW.trod enc Try.prog W 0 (fun _ => true) true n' 3 ((cs.drop 1).take (Try.prog.cellsOf 3)) = xs[1]? := hx 1 _ rfl
  have e2 : DataW.trod enc Try.prog W 0 (fun _ => true) true n' 3 ((cs.drop 2).take (Try.prog.cellsOf 3)) = xs[2]? := hx 2 _ rfl
  have e3 : DataW.trod enc Try.prog W 0 (fun _ => true) true n' 3 ((cs.drop 3).take (Try.prog.cellsOf 3)) = xs[3]? := hx 3 _ rfl
  have e4 : DataW.trod enc Try.prog W 0 (fun _ => true) true n' 9 ((cs.drop 4).take (Try.prog.cellsOf 9)) = xs[4]? := hx 4 _ rfl
  have e5 : DataW.trod enc Try.prog W 0 (fun _ => true) true n' 9 ((cs.drop 5).take (Try.prog.cellsOf 9)) = xs[5]? := hx 5 _ rfl
  have e6 : DataW.trod enc Try.prog W 0 (fun _ => true) true n' 4 ((cs.drop 6).take (Try.prog.cellsOf 4)) = xs[6]? := hx 6 _ rfl
  have e7 : DataW.trod enc Try.prog W 0 (fun _ => true) true n' 4 ((cs.drop 7).take (Try.prog.cellsOf 4)) = xs[7]? := hx 7 _ rfl
  rw [cells_sint] at e0 e1 e2 e3
  rw [cells_sstr] at e4 e5
  rw [cells_sbool] at e6 e7
  match cs, hV with
  | [a, b, c, d, e, f, g, h], _ =>
    have l3 : xs.length = 8 := hxl
    rw [List.getElem?_eq_getElem (by omega)] at e0 e1 e2 e3 e4 e5 e6 e7
    obtain ⟨z0, h0, _⟩ := DataW.trod_int Try.underlying3 e0
    obtain ⟨z1, h1, _, w1⟩ := DataW.trod_int Try.underlying3 e1
    obtain ⟨z2, h2, _, w2⟩ := DataW.trod_int Try.underlying3 e2
    obtain ⟨z3, h3, _, w3⟩ := DataW.trod_int Try.underlying3 e3
    obtain ⟨z4, h4, _, w4⟩ := DataW.trod_string Try.underlying9 e4
    obtain ⟨z5, h5, _, w5⟩ := DataW.trod_string Try.underlying9 e5
    obtain ⟨z6, h6, _⟩ := DataW.trod_bool Try.underlying4 e6
    obtain ⟨z7, h7, _⟩ := DataW.trod_bool Try.underlying4 e7
    simp at h0 h1 h2 h3 h4 h5 h6 h7
    exact ⟨⟨z0, z1, z2, z3, z4, z5, z6, z7⟩, by rw [h0, h1, h2, h3, h4, h5, h6, h7]; rfl, w1, w2, w3, w4, w5⟩

set_option maxRecDepth 100000 in
theorem open_sop {H : Type} {enc : TypeId × Value → H} {W : World} {base : Nat} {v : Value} {d : DataW H} {ps : List MemPlace} (k : Value.okWide Try.prog W .any base 58 v) (h : DataW.Trod enc Try.prog W 0 (fun _ => true) true 58 v d ps) :
    ∃ r, v = .agg (So r).toArray ∧ SOk r := by
  obtain ⟨cs, rfl, hs⟩ := okWide_struct Try.underlying58 k
  obtain ⟨fuel, hf⟩ := h
  rw [cells_sop] at hs
  obtain ⟨r, h1, h2⟩ := sop_of_trod (cs := cs.toList) (by simpa using hs) (by simpa [Value.cells] using hf)
  exact ⟨r, by rw [← h1], h2⟩
end Go.Proofs.Ytbiahndpfbmoeaa
