/- The arguments of the laws of package word. No condition. -/
import Derived.Test.YtihndplkkpglcaaEye2
namespace Go.Proofs.Ytihndplkkpglcaa
open Go.RowKit Go.ChangeShapes Go.WideShapes Go.Deep

theorem cells_op : Try.prog.cellsOf 51 = 3 := by kernel_rfl
theorem cells_wint : Try.prog.cellsOf 3 = 1 := by kernel_rfl
theorem cells_bytes : Try.prog.cellsOf 22 = 1 := by kernel_rfl
theorem cells_u8 : Try.prog.cellsOf 5 = 1 := by kernel_rfl

/-- bytes that are handed in -/
theorem bytes_of_trod {H : Type} {enc : TypeId × Value → H} {W : World} {fuel : Nat} {cs : List Value} {x : DataW H × List MemPlace}
    (h : DataW.trod enc Try.prog W 0 (fun _ => true) true fuel 22 cs = some x) :
    ∃ (bo : Option Addr) (N : List Int) (c : Nat), cs = [.slice bo N.length c] ∧ N.length ≤ c ∧ c ≤ 9223372036854775807 ∧ Src W bo c N ∧ Byt N := by
  obtain ⟨ao, len, cap, f, rfl, hcap, hlen, hr, hw⟩ := introw_of_trod Try.underlying22 cells_u8 Try.underlying5 h
  have hl : ((List.range len).map f).length = len := by simp
  have hg : ∀ i, i < len → ((List.range len).map f).getD i 0 = f i := fun i hi => by simp [List.getD, hi]
  refine ⟨ao, (List.range len).map f, cap, by rw [hl], by rw [hl]; exact hlen, hcap, ?_, ?_⟩
  · cases ao with
    | none =>
      have h0 : len = 0 := by
        rcases Nat.eq_zero_or_pos len with h0 | h0
        · exact h0
        · obtain ⟨_, _, e, _⟩ := hr 0 h0; cases e
      have hc0 : cap = 0 := by
        rcases DataW.trod_slice Try.underlying22 h with ⟨e, _⟩ | ⟨a, len', cap', _, _, _, _, e, _⟩
        · simp at e; exact e.2
        · simp at e
      subst h0
      exact ⟨fun _ => ⟨rfl, hc0⟩, fun ad e => by cases e⟩
    | some ad =>
      by_cases h0 : len = 0
      · subst h0
        exact ⟨(fun e => by cases e), fun ad _ j u hu => by simp [Bc] at hu⟩
      · obtain ⟨b, off, e, _, hc⟩ := hr.get (i := 0) (by omega)
        cases e
        exact Src.of_row (fun j hj => by rw [hl] at hj; rw [hg j hj]; exact hc j hj)
  · intro z hz
    obtain ⟨i, hi, rfl⟩ := List.mem_map.1 hz
    have := hw i (List.mem_range.1 hi)
    have h0 : IntKind.u8.min = 0 := by decide
    have h1 : IntKind.u8.max = 255 := by decide
    simp [Lit.wf, h0, h1] at this
    exact this

structure OpR where
  (k n : Int) (bo : Option Addr) (c : Nat) (N : List Int)
  deriving Inhabited
def Oc (r : OpR) : List Value := [.int .i64 r.k, .int .i64 r.n, .slice r.bo r.N.length r.c]
def op0 : OpR := ⟨0, 0, none, 0, []⟩
/-- what is known of an operation -/
def OpOk (W : World) (r : OpR) : Prop := Src W r.bo r.c r.N ∧ Byt r.N ∧ r.N.length ≤ r.c ∧ r.c ≤ 9223372036854775807
theorem open_ops {H : Type} {enc : TypeId × Value → H} {W : World} {base : Nat} {v : Value} {d : DataW H} {ps : List MemPlace} (k : Value.okWide Try.prog W .any base 46 v) (h : DataW.Trod enc Try.prog W 0 (fun _ => true) true 46 v d ps) :
    ∃ (ao : Option Addr) (M : List OpR) (cap : Nat), v = .slice ao M.length cap ∧ M.length ≤ cap ∧ cap ≤ 9223372036854775807 ∧ SRow W ao M.length 3 (fun i => Oc (M.getD i op0)) ∧ ∀ i, i < M.length → OpOk W (M.getD i op0) := by
  obtain ⟨ao, len, cap, V, rfl, h1, h2, h3, h4⟩ := open_srow Try.underlying46 cells_op (by omega) k h
  obtain ⟨f, hf⟩ := choose_lt (α := OpR) (p := fun i r => V i = Oc r ∧ OpOk W r) (fun i hi => by
    obtain ⟨n, y, hy⟩ := h4 i hi
    obtain ⟨xs, n', rfl, _, hl, hxl, hx⟩ := DataW.trod_struct Try.underlying51 hy
    obtain ⟨hV, _⟩ := h3 i hi
    have e0 : DataW.trod enc Try.prog W 0 (fun _ => true) true n' 3 (((V i).drop 0).take (Try.prog.cellsOf 3)) = xs[0]? := hx 0 _ rfl
    have e1 : DataW.trod enc Try.prog W 0 (fun _ => true) true n' 3 (((V i).drop 1).take (Try.prog.cellsOf 3)) = xs[1]? := hx 1 _ rfl
    have e2 : DataW.trod enc Try.prog W 0 (fun _ => true) true n' 22 (((V i).drop 2).take (Try.prog.cellsOf 22)) = xs[2]? := hx 2 _ rfl
    rw [cells_wint] at e0 e1
    rw [cells_bytes] at e2
    match hVi : V i, hV with
    | [a, b, c], _ =>
      rw [hVi] at e0 e1 e2
      have l3 : xs.length = 3 := hxl
      rw [List.getElem?_eq_getElem (by omega)] at e0 e1 e2
      obtain ⟨x, hx0, _⟩ := DataW.trod_int Try.underlying3 e0
      obtain ⟨s, hx1, _, _⟩ := DataW.trod_int Try.underlying3 e1
      obtain ⟨bo, N, c', hx2, hle, hcc, hs, hb⟩ := bytes_of_trod e2
      simp at hx0 hx1 hx2
      exact ⟨⟨x, s, bo, c', N⟩, by rw [hx0, hx1, hx2]; rfl, hs, hb, hle, hcc⟩)
  have hlm : ((List.range len).map f).length = len := by simp
  have hg : ∀ i, i < len → ((List.range len).map f).getD i op0 = f i := fun i hi => by simp [List.getD, hi]
  refine ⟨ao, (List.range len).map f, cap, by rw [hlm], by rw [hlm]; exact h2, h1, ?_, fun i hi => ?_⟩
  · rw [hlm]
    exact h3.congr fun i hi => by rw [hg i hi, (hf i hi).1]
  · rw [hlm] at hi
    rw [hg i hi]
    exact (hf i hi).2

/-- the writer, and what it is to hold -/
structure WI (W w : World) (v : Value) (bad : Bool) (X : List Int) (vw : Value) (E : List Int) : Prop where
  wr : WrAt w W.heap.size v bad X
  want : Own w 5 1 vw E.length (Bc E)
  v1 : ∀ k, v.ownBlock = some k → W.heap.size ≤ k
  v2 : ∀ k, vw.ownBlock = some k → W.heap.size < k ∧ v.ownBlock ≠ some k
  kp : Kp (fun _ => False) W w
theorem WI.calm {W w w1 : World} {v : Value} {b : Bool} {X : List Int} {vw : Value} {E : List Int} (h : WI W w v b X vw E) (hk : Kp (fun _ => False) w w1) : WI W w1 v b X vw E :=
  ⟨h.wr.keep hk (fun h => h) (fun _ _ h => h), h.want.keepF hk, h.v1, h.v2, h.kp.trans hk⟩
theorem WI.put {W w w1 : World} {v v' : Value} {b b' : Bool} {X X' : List Int} {vw : Value} {E : List Int} (h : WI W w v b X vw E) (hw : WrAt w1 W.heap.size v' b' X') (hs : SameOrNew w v v')
    (hk : Kp (fun k => k = W.heap.size ∨ In v k) w w1) : WI W w1 v' b' X' vw E := by
  refine ⟨hw, h.want.keep hk (fun k hk' hh => ?_), fun k hk' => ?_, fun k hk' => ⟨(h.v2 k hk').1, fun e => ?_⟩, h.kp.trans_new hk (fun k h1 h2 => ?_)⟩
  · have := h.v2 k hk'
    rcases hh with hh | hh
    · omega
    · exact this.2 hh
  · rcases hs with hs | hs
    · exact h.v1 k (hs ▸ hk')
    · exact Nat.le_trans h.kp.size (hs k hk')
  · rcases hs with hs | hs
    · exact (h.v2 k hk').2 (hs ▸ e)
    · have := h.want.lt hk'
      have := hs k e
      omega
  · rcases h2 with h2 | h2
    · omega
    · have := h.v1 k h2; omega
theorem WI.add {W w w1 : World} {v : Value} {b : Bool} {X : List Int} {vw vw' : Value} {E E' : List Int} (h : WI W w v b X vw E) (ho : Own w1 5 1 vw' E'.length (Bc E')) (hs : SameOrNew w vw vw')
    (hk : Kp (In vw) w w1) : WI W w1 v b X vw' E' := by
  have hlt := lt_of_block h.wr.head
  refine ⟨h.wr.keep hk (fun hh => ?_) (fun k hk' hh => (h.v2 k hh).2 hk'), ho, h.v1, fun k hk' => ?_, h.kp.trans_new hk (fun k h1 h2 => ?_)⟩
  · have := h.v2 _ hh; omega
  · rcases hs with hs | hs
    · exact h.v2 k (hs ▸ hk')
    · have h1 := hs k hk'
      refine ⟨by omega, fun e => ?_⟩
      have := h.wr.row.lt e
      omega
  · have := h.v2 k h2; omega
end Go.Proofs.Ytihndplkkpglcaa
