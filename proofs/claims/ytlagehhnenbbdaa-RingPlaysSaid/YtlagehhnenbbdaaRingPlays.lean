/- RingPlays: the two rings side by side, and a block that is kept. No condition. -/
import Derived.Test.YtlagehhnenbbdaaRefRing3
namespace Go.Proofs.Ytlagehhnenbbdaa
open Go.RowKit

/-- a ring in block p, the reference's in block q, and block b, which holds O -/
structure PJ (W w : World) (p q : Nat) (v : Value) (L1 : List ByteArray) (u : Value) (L2 : List ByteArray) (b : Nat) (O : Obj) : Prop where
  ri : RI W w p v L1
  rf : RfAt w q u L2
  q0 : W.heap.size ≤ q
  pq : p ≠ q
  u0 : ∀ k, u.ownBlock = some k → W.heap.size ≤ k ∧ k ≠ p ∧ v.ownBlock ≠ some k ∧ k ≠ b
  v0 : ∀ k, v.ownBlock = some k → k ≠ q ∧ k ≠ b
  kb : w.heap[b]? = some O
  bp : b ≠ p ∧ b ≠ q
theorem PJ.calm {W w w1 : World} {p q : Nat} {v : Value} {L1 : List ByteArray} {u : Value} {L2 : List ByteArray} {b : Nat} {O : Obj} (h : PJ W w p q v L1 u L2 b O) (hk : Kp (fun _ => False) w w1) : PJ W w1 p q v L1 u L2 b O :=
  ⟨h.ri.calm hk, h.rf.keep hk (fun h => h) (fun _ _ h => h), h.q0, h.pq, h.u0, h.v0, hk.keep h.kb (fun h => h), h.bp⟩
/-- another block is kept from here on -/
theorem PJ.hold {W w : World} {p q : Nat} {v : Value} {L1 : List ByteArray} {u : Value} {L2 : List ByteArray} {b : Nat} {O : Obj} (h : PJ W w p q v L1 u L2 b O) (O' : Obj) : PJ W (w.alloc O') p q v L1 u L2 w.heap.size O' := by
  have hk := (Kp.refl (fun _ => False) w).alloc O'
  have hp := lt_of_block h.ri.rg.head
  have hq := lt_of_block h.rf.head
  refine ⟨h.ri.calm hk, h.rf.keep hk (fun h => h) (fun _ _ h => h), h.q0, h.pq, fun k hk' => ?_, fun k hk' => ?_, heap_new _, by omega⟩
  · have h1 := h.u0 k hk'
    have h2 := h.rf.row.lt hk'
    exact ⟨h1.1, h1.2.1, h1.2.2.1, by omega⟩
  · have h1 := h.v0 k hk'
    have h2 := h.ri.rg.row.lt hk'
    exact ⟨h1.1, by omega⟩
theorem PJ.real {W w w1 : World} {p q : Nat} {v v' : Value} {L1 L1' : List ByteArray} {u : Value} {L2 : List ByteArray} {b : Nat} {O : Obj} (h : PJ W w p q v L1 u L2 b O) (hr : RgAt w1 p v' L1') (hs : SameOrNew w v v')
    (hk : Kp (fun k => k = p ∨ In v k) w w1) : PJ W w1 p q v' L1' u L2 b O := by
  have hq := lt_of_block h.rf.head
  have hb := lt_of_block h.kb
  refine ⟨h.ri.next hr hs hk, h.rf.keep hk (fun hh => ?_) (fun k hk' hh => ?_), h.q0, h.pq, fun k hk' => ?_, fun k hk' => ?_, hk.keep h.kb (fun hh => ?_), h.bp⟩
  · rcases hh with hh | hh
    · exact h.pq hh.symm
    · exact (h.v0 q hh).1 rfl
  · have h1 := h.u0 k hk'
    rcases hh with hh | hh
    · exact h1.2.1 hh
    · exact h1.2.2.1 hh
  · have h1 := h.u0 k hk'
    refine ⟨h1.1, h1.2.1, fun e => ?_, h1.2.2.2⟩
    rcases hs with hs | hs
    · exact h1.2.2.1 (hs ▸ e)
    · have := h.rf.row.lt hk'
      have := hs k e
      omega
  · rcases hs with hs | hs
    · exact h.v0 k (hs ▸ hk')
    · have := hs k hk'
      exact ⟨by omega, by omega⟩
  · rcases hh with hh | hh
    · exact h.bp.1 hh
    · exact (h.v0 b hh).2 rfl
theorem PJ.ref {W w w1 : World} {p q : Nat} {v : Value} {L1 : List ByteArray} {u u' : Value} {L2 L2' : List ByteArray} {b : Nat} {O : Obj} (h : PJ W w p q v L1 u L2 b O) (hr : RfAt w1 q u' L2') (hs : ∀ k, u'.ownBlock = some k → w.heap.size ≤ k)
    (hk : Kp (· = q) w w1) : PJ W w1 p q v L1 u' L2' b O := by
  have hp := lt_of_block h.ri.rg.head
  have hb := lt_of_block h.kb
  have hW := h.ri.kp.size
  refine ⟨⟨h.ri.rg.keep hk h.pq (fun k hk' e => (h.v0 k hk').1 e), h.ri.p0, h.ri.v0, h.ri.kp.trans_new hk (fun k h1 h2 => by have := h.q0; have h3 : k = q := h2; omega)⟩, hr, h.q0, h.pq, fun k hk' => ?_, h.v0, hk.keep h.kb h.bp.2, h.bp⟩
  have h1 := hs k hk'
  exact ⟨by omega, by omega, fun e => by have := h.ri.rg.row.lt e; omega, by omega⟩

def Padd (W : World) (p q : Nat) (x : ByteArray) (L1 : List ByteArray) (u : Value) (L2 : List ByteArray) (b : Nat) (O : Obj) (e : Ending) (w1 : World) : Prop := e = .returned (.bool (!Has x L1)) ∧ ∃ v', PJ W w1 p q v' (Plus x L1) u L2 b O
theorem padd_r {W w : World} {p q : Nat} {v : Value} {L1 : List ByteArray} {u : Value} {L2 : List ByteArray} {b : Nat} {O : Obj} (x : ByteArray) (h : PJ W w p q v L1 u L2 b O) (hL : L1.length ≤ 1000000000) :
    Calls Try.prog 32 #[.pointer (some ⟨p, 0, none⟩), .string x] w (Padd W p q x L1 u L2 b O) := by
  cases hx : Has x L1 with
  | true =>
    refine (radd_no p v L1 x w h.ri.rg hx hL).mono ?_; rintro e w1 ⟨rfl, rfl⟩
    exact ⟨by rw [hx]; rfl, v, by unfold Plus; rw [if_pos hx]; exact h⟩
  | false =>
    refine (radd_any p v L1 x w h.ri.rg hx hL).mono ?_; rintro e w1 ⟨rfl, ⟨v', hr, hs⟩, hk⟩
    exact ⟨by rw [hx]; rfl, v', by unfold Plus; rw [if_neg (by rw [hx]; exact Bool.false_ne_true)]; exact h.real hr hs hk⟩
def Paddf (W : World) (p q : Nat) (x : ByteArray) (v : Value) (L1 L2 : List ByteArray) (b : Nat) (O : Obj) (e : Ending) (w1 : World) : Prop := e = .returned (.bool (!Has x L2)) ∧ ∃ u', PJ W w1 p q v L1 u' (Plus x L2) b O
theorem padd_f {W w : World} {p q : Nat} {v : Value} {L1 : List ByteArray} {u : Value} {L2 : List ByteArray} {b : Nat} {O : Obj} (x : ByteArray) (h : PJ W w p q v L1 u L2 b O) (hL : L2.length ≤ 1000000000) :
    Calls Try.prog 33 #[.pointer (some ⟨q, 0, none⟩), .string x] w (Paddf W p q x v L1 L2 b O) := by
  cases hx : Has x L2 with
  | true =>
    refine (fadd_no q u L2 x w h.rf hx hL).mono ?_; rintro e w1 ⟨rfl, rfl⟩
    exact ⟨by rw [hx]; rfl, u, by unfold Plus; rw [if_pos hx]; exact h⟩
  | false =>
    refine (fadd_any q u L2 x w h.rf hx hL).mono ?_; rintro e w1 ⟨rfl, ⟨u', hr, hs⟩, hk⟩
    exact ⟨by rw [hx]; rfl, u', by unfold Plus; rw [if_neg (by rw [hx]; exact Bool.false_ne_true)]; exact h.ref hr hs hk⟩
/-- the names without x -/
def Less (x : ByteArray) (L : List ByteArray) : List ByteArray := if Has x L then Cut (Ix x L) L else L
def Pdrop (W : World) (p q : Nat) (x : ByteArray) (L1 : List ByteArray) (u : Value) (L2 : List ByteArray) (b : Nat) (O : Obj) (e : Ending) (w1 : World) : Prop := e = .returned (.bool (Has x L1)) ∧ ∃ v', PJ W w1 p q v' (Less x L1) u L2 b O
theorem pdrop_r {W w : World} {p q : Nat} {v : Value} {L1 : List ByteArray} {u : Value} {L2 : List ByteArray} {b : Nat} {O : Obj} (x : ByteArray) (h : PJ W w p q v L1 u L2 b O) (hL : L1.length ≤ 1000000000) :
    Calls Try.prog 34 #[.pointer (some ⟨p, 0, none⟩), .string x] w (Pdrop W p q x L1 u L2 b O) := by
  cases hx : Has x L1 with
  | false =>
    refine (rdrop_no p v L1 x w h.ri.rg hx hL).mono ?_; rintro e w1 ⟨rfl, rfl⟩
    exact ⟨by rw [hx], v, by unfold Less; rw [if_neg (by rw [hx]; exact Bool.false_ne_true)]; exact h⟩
  | true =>
    refine (rdrop_any p v L1 x w h.ri.rg hx hL).mono ?_; rintro e w1 ⟨rfl, ⟨v', hr, hs⟩, hk⟩
    exact ⟨by rw [hx], v', by unfold Less; rw [if_pos hx]; exact h.real hr (Or.inl hs) hk⟩
def Pdropf (W : World) (p q : Nat) (x : ByteArray) (v : Value) (L1 L2 : List ByteArray) (b : Nat) (O : Obj) (e : Ending) (w1 : World) : Prop := e = .returned (.bool (Has x L2)) ∧ ∃ u', PJ W w1 p q v L1 u' (Less x L2) b O
theorem pdrop_f {W w : World} {p q : Nat} {v : Value} {L1 : List ByteArray} {u : Value} {L2 : List ByteArray} {b : Nat} {O : Obj} (x : ByteArray) (h : PJ W w p q v L1 u L2 b O) (hL : L2.length ≤ 1000000000) :
    Calls Try.prog 35 #[.pointer (some ⟨q, 0, none⟩), .string x] w (Pdropf W p q x v L1 L2 b O) := by
  cases hx : Has x L2 with
  | false =>
    refine (fdrop_no q u L2 x w h.rf hx hL).mono ?_; rintro e w1 ⟨rfl, rfl⟩
    exact ⟨by rw [hx], u, by unfold Less; rw [if_neg (by rw [hx]; exact Bool.false_ne_true)]; exact h⟩
  | true =>
    refine (fdrop_any q u L2 x w h.rf hx hL).mono ?_; rintro e w1 ⟨rfl, ⟨u', hr, hs⟩, hk⟩
    exact ⟨by rw [hx], u', by unfold Less; rw [if_pos hx]; exact h.ref hr hs hk⟩
end Go.Proofs.Ytlagehhnenbbdaa
