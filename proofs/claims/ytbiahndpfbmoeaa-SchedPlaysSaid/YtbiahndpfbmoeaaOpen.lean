/- Arguments that are slices: what their cells hold. No condition. -/
import Derived.Test.YtbiahndpfbmoeaaMem
import Derived.ProofKit
import Derived.Deep.Slices
namespace Go.Proofs.Ytbiahndpfbmoeaa
open Go.RowKit Go.ChangeShapes Go.WideShapes Go.Deep

/-- the cells of a slice whose elements are sz cells each -/
def SRow (W : World) (ao : Option Addr) (len sz : Nat) (V : Nat → List Value) : Prop :=
  ∀ i, i < len → (V i).length = sz ∧ ∃ b off, ao = some ⟨b, off, none⟩ ∧ b < W.heap.size ∧ ∀ j u, (V i)[j]? = some u → W.cell? ⟨b, off + i * sz + j, none⟩ = some u
/-- the cells of a slice whose elements are one cell each -/
def Row1 (W : World) (ao : Option Addr) (len : Nat) (V : Nat → Value) : Prop :=
  ∀ i, i < len → ∃ b off, ao = some ⟨b, off, none⟩ ∧ b < W.heap.size ∧ W.cell? ⟨b, off + i, none⟩ = some (V i)

theorem spot_of_cell {w : World} {a : Addr} {u : Value} (h : w.cell? a = some u) : a.spot = none ∧ a.block < w.heap.size := by
  unfold World.cell? at h
  split at h
  · rename_i c T fr hc
    split at h
    · cases h
    · rename_i hs
      exact ⟨by cases hsp : a.spot with | none => rfl | some x => simp [hsp] at hs, (Array.getElem?_eq_some_iff.1 hc).1⟩
  · cases h

theorem Row1.get {W : World} {ao : Option Addr} {len : Nat} {V : Nat → Value} (h : Row1 W ao len V) {i : Nat} (hi : i < len) :
    ∃ b off, ao = some ⟨b, off, none⟩ ∧ b < W.heap.size ∧ ∀ j, j < len → W.cell? ⟨b, off + j, none⟩ = some (V j) := by
  obtain ⟨b, off, rfl, hb, _⟩ := h i hi
  refine ⟨b, off, rfl, hb, fun j hj => ?_⟩
  obtain ⟨b', off', he, _, hc⟩ := h j hj
  cases he
  exact hc
theorem SRow.get {W : World} {ao : Option Addr} {len sz : Nat} {V : Nat → List Value} (h : SRow W ao len sz V) {i : Nat} (hi : i < len) :
    ∃ b off, ao = some ⟨b, off, none⟩ ∧ b < W.heap.size ∧ ∀ k, k < len → ∀ j u, (V k)[j]? = some u → W.cell? ⟨b, off + k * sz + j, none⟩ = some u := by
  obtain ⟨_, b, off, rfl, hb, _⟩ := h i hi
  refine ⟨b, off, rfl, hb, fun k hk => ?_⟩
  obtain ⟨_, b', off', he, _, hc⟩ := h k hk
  cases he
  exact hc
theorem SRow.congr {W : World} {ao : Option Addr} {len sz : Nat} {V V' : Nat → List Value} (h : SRow W ao len sz V) (hv : ∀ i, i < len → V' i = V i) : SRow W ao len sz V' := by
  intro i hi
  rw [hv i hi]
  exact h i hi
theorem Row1.keep {S : Nat → Prop} {W w : World} {ao : Option Addr} {len : Nat} {V : Nat → Value} (h : Row1 W ao len V) (hk : Kp S W w) (hs : ∀ b, b < W.heap.size → ¬ S b) : Row1 w ao len V := by
  intro i hi
  obtain ⟨b, off, e, hb, hc⟩ := h i hi
  exact ⟨b, off, e, Nat.lt_of_lt_of_le hb hk.size, (hk.cell _ hb (hs b hb)).trans hc⟩
theorem SRow.keep {S : Nat → Prop} {W w : World} {ao : Option Addr} {len sz : Nat} {V : Nat → List Value} (h : SRow W ao len sz V) (hk : Kp S W w) (hs : ∀ b, b < W.heap.size → ¬ S b) : SRow w ao len sz V := by
  intro i hi
  obtain ⟨hl, b, off, e, hb, hc⟩ := h i hi
  exact ⟨hl, b, off, e, Nat.lt_of_lt_of_le hb hk.size, fun j u hu => (hk.cell _ hb (hs b hb)).trans (hc j u hu)⟩

section
variable {H : Type} {enc : TypeId × Value → H} {P : Program} {W : World} {base : Nat} {t e : TypeId} {v : Value} {d : DataW H} {ps : List MemPlace}

theorem srow_of_trod {fuel sz : Nat} {cs : List Value} {x : DataW H × List MemPlace} (ht : P.underlying t = some (.slice e)) (hc : P.cellsOf e = sz) (hsz : 0 < sz)
    (h : DataW.trod enc P W 0 (fun _ => true) true fuel t cs = some x) :
    ∃ ao len cap V, cs = [.slice ao len cap] ∧ cap ≤ 9223372036854775807 ∧ len ≤ cap ∧ SRow W ao len sz V ∧ ∀ i, i < len → ∃ n y, DataW.trod enc P W 0 (fun _ => true) true n e (V i) = some y := by
  rcases open_slice ht h with ⟨rfl, _⟩ | ⟨a, len, cap, m, n, D, Pl, rfl, hb, hl, hm, hmm, rfl, hx⟩
  · exact ⟨none, 0, 0, fun _ => [], rfl, by omega, Nat.le_refl _, fun i hi => by omega, fun i hi => by omega⟩
  · simp only [if_true] at hmm
    subst hmm
    obtain ⟨V, hV⟩ := choose_lt (α := List Value) (p := fun i cs' => W.cells? 0 (a.add (i * P.cellsOf e)) (P.cellsOf e) = some cs' ∧ DataW.trod enc P W 0 (fun _ => true) true n e cs' = some (D i, Pl i)) hx
    refine ⟨some a, len, m, V, rfl, hm, hl, fun i hi => ?_, fun i hi => ⟨n, _, (hV i (by omega)).2⟩⟩
    obtain ⟨h1, _⟩ := hV i (by omega)
    obtain ⟨_, hlen, hcell⟩ := World.cells?_some h1
    rw [hc] at hlen hcell
    obtain ⟨h0, _⟩ := hV 0 (by omega)
    obtain ⟨_, hlen0, hcell0⟩ := World.cells?_some h0
    rw [hc] at hlen0 hcell0
    have hz := hcell0 0 hsz
    rw [List.getElem?_eq_getElem (by omega)] at hz
    rw [Nat.zero_mul] at hz
    obtain ⟨hs, hbl⟩ := spot_of_cell hz
    have hs' : a.spot = none := hs
    have hbl' : a.block < W.heap.size := hbl
    obtain ⟨b, off, sp⟩ := a
    simp only at hs' hbl'
    subst hs'
    refine ⟨hlen, b, off, rfl, hbl', fun j u hu => ?_⟩
    have hj : j < sz := by have := (List.getElem?_eq_some_iff.1 hu).1; omega
    have hcj := hcell j hj
    rw [hu, add_add] at hcj
    rw [← hcj]
    congr 1
    unfold Addr.add
    split
    · rename_i h00
      have h1 : i * sz = 0 := by omega
      have h2 : j = 0 := by omega
      rw [h1, h2]; rfl
    · show (⟨b, off + i * sz + j, none⟩ : Addr) = ⟨b, off + (i * sz + j), none⟩
      rw [Nat.add_assoc]

theorem open_srow {sz : Nat} (ht : P.underlying t = some (.slice e)) (hc : P.cellsOf e = sz) (hsz : 0 < sz) (k : Value.okWide P W .any base t v) (h : DataW.Trod enc P W 0 (fun _ => true) true t v d ps) :
    ∃ ao len cap V, v = .slice ao len cap ∧ cap ≤ 9223372036854775807 ∧ len ≤ cap ∧ SRow W ao len sz V ∧ ∀ i, i < len → ∃ n y, DataW.trod enc P W 0 (fun _ => true) true n e (V i) = some y := by
  obtain ⟨a, len, cap, rfl⟩ := okWide_slice ht k
  obtain ⟨fuel, hf⟩ := h
  have hf' : DataW.trod enc P W 0 (fun _ => true) true fuel t [.slice a len cap] = some (d, ps) := by simpa [Value.cells] using hf
  obtain ⟨ao, l, c, V, he, h1, h2, h3, h4⟩ := srow_of_trod ht hc hsz hf'
  simp only [List.cons.injEq, Value.slice.injEq, and_true] at he
  obtain ⟨rfl, rfl, rfl⟩ := he
  exact ⟨a, len, cap, V, rfl, h1, h2, h3, h4⟩

theorem SRow.one {ao : Option Addr} {len : Nat} {V : Nat → List Value} (h : SRow W ao len 1 V) {V' : Nat → Value} (hv : ∀ i, i < len → V i = [V' i]) : Row1 W ao len V' := by
  intro i hi
  obtain ⟨_, b, off, rfl, hb, hc⟩ := h i hi
  refine ⟨b, off, rfl, hb, ?_⟩
  have := hc 0 (V' i) (by rw [hv i hi]; rfl)
  rwa [Nat.mul_one, Nat.add_zero] at this

/-- a slice of whole numbers -/
theorem introw_of_trod {fuel : Nat} {cs : List Value} {x : DataW H × List MemPlace} {k : IntKind} (ht : P.underlying t = some (.slice e)) (hc : P.cellsOf e = 1) (he : P.underlying e = some (.int k))
    (h : DataW.trod enc P W 0 (fun _ => true) true fuel t cs = some x) :
    ∃ (ao : Option Addr) (len cap : Nat) (f : Nat → Int), cs = [.slice ao len cap] ∧ cap ≤ 9223372036854775807 ∧ len ≤ cap ∧ Row1 W ao len (fun i => .int k (f i)) ∧ ∀ i, i < len → (Lit.int k (f i)).wf = true := by
  obtain ⟨ao, len, cap, V, rfl, h1, h2, h3, h4⟩ := srow_of_trod ht hc (by omega) h
  obtain ⟨f, hf⟩ := choose_lt (α := Int) (p := fun i z => V i = [.int k z] ∧ (Lit.int k z).wf = true) (fun i hi => by
    obtain ⟨n, y, hy⟩ := h4 i hi
    obtain ⟨z, hz, _, hw⟩ := DataW.trod_int he hy
    exact ⟨z, hz, hw⟩)
  exact ⟨ao, len, cap, f, rfl, h1, h2, h3.one (fun i hi => (hf i hi).1), fun i hi => (hf i hi).2⟩
theorem boolrow_of_trod {fuel : Nat} {cs : List Value} {x : DataW H × List MemPlace} (ht : P.underlying t = some (.slice e)) (hc : P.cellsOf e = 1) (he : P.underlying e = some .bool)
    (h : DataW.trod enc P W 0 (fun _ => true) true fuel t cs = some x) :
    ∃ (ao : Option Addr) (len cap : Nat) (f : Nat → Bool), cs = [.slice ao len cap] ∧ cap ≤ 9223372036854775807 ∧ len ≤ cap ∧ Row1 W ao len (fun i => .bool (f i)) := by
  obtain ⟨ao, len, cap, V, rfl, h1, h2, h3, h4⟩ := srow_of_trod ht hc (by omega) h
  obtain ⟨f, hf⟩ := choose_lt (α := Bool) (p := fun i z => V i = [.bool z]) (fun i hi => by
    obtain ⟨n, y, hy⟩ := h4 i hi
    obtain ⟨z, hz, _⟩ := DataW.trod_bool he hy
    exact ⟨z, hz⟩)
  exact ⟨ao, len, cap, f, rfl, h1, h2, h3.one (fun i hi => hf i hi)⟩
theorem strrow_of_trod {fuel : Nat} {cs : List Value} {x : DataW H × List MemPlace} (ht : P.underlying t = some (.slice e)) (hc : P.cellsOf e = 1) (he : P.underlying e = some .string)
    (h : DataW.trod enc P W 0 (fun _ => true) true fuel t cs = some x) :
    ∃ (ao : Option Addr) (len cap : Nat) (f : Nat → ByteArray), cs = [.slice ao len cap] ∧ cap ≤ 9223372036854775807 ∧ len ≤ cap ∧ Row1 W ao len (fun i => .string (f i)) ∧ ∀ i, i < len → (f i).size ≤ 9223372036854775807 := by
  obtain ⟨ao, len, cap, V, rfl, h1, h2, h3, h4⟩ := srow_of_trod ht hc (by omega) h
  obtain ⟨f, hf⟩ := choose_lt (α := ByteArray) (p := fun i z => V i = [.string z] ∧ z.size ≤ 9223372036854775807) (fun i hi => by
    obtain ⟨n, y, hy⟩ := h4 i hi
    obtain ⟨z, hz, _, hw⟩ := DataW.trod_string he hy
    exact ⟨z, hz, hw⟩)
  exact ⟨ao, len, cap, f, rfl, h1, h2, h3.one (fun i hi => (hf i hi).1), fun i hi => (hf i hi).2⟩
theorem slice_trod (ht : P.underlying t = some (.slice e)) (k : Value.okWide P W .any base t v) (h : DataW.Trod enc P W 0 (fun _ => true) true t v d ps) :
    ∃ fuel, (∀ cs, [v] = cs → DataW.trod enc P W 0 (fun _ => true) true fuel t cs = some (d, ps)) := by
  obtain ⟨a, len, cap, rfl⟩ := okWide_slice ht k
  obtain ⟨fuel, hf⟩ := h
  exact ⟨fuel, fun cs h => by subst h; simpa [Value.cells] using hf⟩
theorem open_introw {k : IntKind} (ht : P.underlying t = some (.slice e)) (hc : P.cellsOf e = 1) (he : P.underlying e = some (.int k)) (kv : Value.okWide P W .any base t v) (h : DataW.Trod enc P W 0 (fun _ => true) true t v d ps) :
    ∃ (ao : Option Addr) (len cap : Nat) (f : Nat → Int), v = .slice ao len cap ∧ cap ≤ 9223372036854775807 ∧ len ≤ cap ∧ Row1 W ao len (fun i => .int k (f i)) ∧ ∀ i, i < len → (Lit.int k (f i)).wf = true := by
  obtain ⟨fuel, hf⟩ := slice_trod ht kv h
  obtain ⟨ao, len, cap, f, hcs, r⟩ := introw_of_trod ht hc he (hf _ rfl)
  exact ⟨ao, len, cap, f, by simpa using hcs, r⟩
theorem open_boolrow (ht : P.underlying t = some (.slice e)) (hc : P.cellsOf e = 1) (he : P.underlying e = some .bool) (kv : Value.okWide P W .any base t v) (h : DataW.Trod enc P W 0 (fun _ => true) true t v d ps) :
    ∃ (ao : Option Addr) (len cap : Nat) (f : Nat → Bool), v = .slice ao len cap ∧ cap ≤ 9223372036854775807 ∧ len ≤ cap ∧ Row1 W ao len (fun i => .bool (f i)) := by
  obtain ⟨fuel, hf⟩ := slice_trod ht kv h
  obtain ⟨ao, len, cap, f, hcs, r⟩ := boolrow_of_trod ht hc he (hf _ rfl)
  exact ⟨ao, len, cap, f, by simpa using hcs, r⟩
theorem open_strrow (ht : P.underlying t = some (.slice e)) (hc : P.cellsOf e = 1) (he : P.underlying e = some .string) (kv : Value.okWide P W .any base t v) (h : DataW.Trod enc P W 0 (fun _ => true) true t v d ps) :
    ∃ (ao : Option Addr) (len cap : Nat) (f : Nat → ByteArray), v = .slice ao len cap ∧ cap ≤ 9223372036854775807 ∧ len ≤ cap ∧ Row1 W ao len (fun i => .string (f i)) ∧ ∀ i, i < len → (f i).size ≤ 9223372036854775807 := by
  obtain ⟨fuel, hf⟩ := slice_trod ht kv h
  obtain ⟨ao, len, cap, f, hcs, r⟩ := strrow_of_trod ht hc he (hf _ rfl)
  exact ⟨ao, len, cap, f, by simpa using hcs, r⟩
end
end Go.Proofs.Ytbiahndpfbmoeaa
