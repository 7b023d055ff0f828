/- RingOnce: the law returns true for every input. No condition. -/
import Derived.Test.YtbiahndpfbmoeaaRing3
namespace Go.Proofs.Ytbiahndpfbmoeaa
open Go.RowKit Go.ChangeShapes Go.WideShapes Go.Deep

/-- the names, with one more -/
def Plus (x : ByteArray) (L : List ByteArray) : List ByteArray := if Has x L then L else L ++ [x]
theorem Plus_len (x : ByteArray) (L : List ByteArray) : (Plus x L).length ≤ L.length + 1 := by unfold Plus; split <;> simp
def Radd (W : World) (p : Nat) (x : ByteArray) (L : List ByteArray) (e : Ending) (w' : World) : Prop := e = .returned (.bool (!Has x L)) ∧ ∃ v', RI W w' p v' (Plus x L)
theorem radd_ri {W w : World} {p : Nat} {v : Value} {L : List ByteArray} (x : ByteArray) (h : RI W w p v L) (hL : L.length ≤ 1000000000) :
    Calls Try.prog 14 #[.pointer (some ⟨p, 0, none⟩), .string x] w (Radd W p x L) := by
  cases hx : Has x L with
  | true =>
    refine (radd_no p v L x w h.rg hx hL).mono ?_; rintro e w1 ⟨rfl, rfl⟩
    exact ⟨by rw [hx]; rfl, v, by unfold Plus; rw [if_pos hx]; exact h⟩
  | false =>
    refine (radd_any p v L x w h.rg hx hL).mono ?_; rintro e w1 ⟨rfl, ⟨v', hr, hs⟩, hk⟩
    exact ⟨by rw [hx]; rfl, v', by unfold Plus; rw [if_neg (by rw [hx]; exact Bool.false_ne_true)]; exact h.next hr hs hk⟩

def Rot (i : Nat) (L : List ByteArray) : List ByteArray := L.drop i ++ L.take i
theorem Rot_len {i : Nat} {L : List ByteArray} (hi : i ≤ L.length) : (Rot i L).length = L.length := by unfold Rot; rw [List.length_append, List.length_drop, List.length_take]; omega
theorem Rot_cons {i : Nat} {L : List ByteArray} (hi : i < L.length) : Rot i L = L.getD i ByteArray.empty :: (L.drop (i + 1) ++ L.take i) := by
  have e : L.getD i ByteArray.empty = L[i] := by simp [List.getD, hi]
  rw [e, Rot, List.drop_eq_getElem_cons hi, List.cons_append]
theorem Rot_turn {i : Nat} {L : List ByteArray} (hi : i < L.length) : Turn 0 (Rot i L) = Rot (i + 1) L := by
  rw [Rot_cons hi]
  unfold Turn Cut Rot
  rw [List.take_succ_eq_append_getElem hi]
  simp [List.getD, hi]
theorem Rot_get {i : Nat} {L : List ByteArray} (hi : i < L.length) : (Rot i L).getD 0 ByteArray.empty = L.getD i ByteArray.empty := by rw [Rot_cons hi]; rfl
theorem Rot_fx {i : Nat} {L : List ByteArray} (hi : i < L.length) : Fx L (Rot i L) = 0 := by
  rw [Rot_cons hi]
  unfold Fx
  rw [if_pos]
  rw [Has_mem]
  simp [List.getD, hi]

/-- a ring beside a slice that is kept -/
structure RK (W w : World) (p : Nat) (v : Value) (L : List ByteArray) (u : Value) (M : List ByteArray) : Prop where
  ri : RI W w p v L
  own : Own w 9 1 u M.length (Sc M)
  sep : ∀ k, u.ownBlock = some k → W.heap.size ≤ k ∧ k ≠ p ∧ v.ownBlock ≠ some k
theorem RK.calm {W w w1 : World} {p : Nat} {v : Value} {L : List ByteArray} {u : Value} {M : List ByteArray} (h : RK W w p v L u M) (hk : Kp (fun _ => False) w w1) : RK W w1 p v L u M :=
  ⟨h.ri.calm hk, h.own.keep hk (fun _ _ h => h), h.sep⟩
theorem RK.next {W w w1 : World} {p : Nat} {v v' : Value} {L L' : List ByteArray} {u : Value} {M : List ByteArray} (h : RK W w p v L u M) (hr : RgAt w1 p v' L') (hs : SameOrNew w v v') (hk : Kp (fun k => k = p ∨ In v k) w w1) : RK W w1 p v' L' u M := by
  refine ⟨h.ri.next hr hs hk, h.own.keep hk (fun k hk' hh => ?_), fun k hk' => ⟨(h.sep k hk').1, (h.sep k hk').2.1, fun e => ?_⟩⟩
  · rcases hh with hh | hh
    · exact (h.sep k hk').2.1 hh
    · exact (h.sep k hk').2.2 hh
  · rcases hs with hs | hs
    · exact (h.sep k hk').2.2 (hs ▸ e)
    · have := h.own.lt hk'
      have := hs k e
      omega

set_option maxRecDepth 100000 in
set_option maxHeartbeats 800000 in
theorem ringOnce_law {H : Type} {enc' : TypeId × Value → H} (W : World) {base : Nat} (v0 : Value) (d0 : DataW H) (p0 : List MemPlace)
    (k0 : Value.okWide Try.prog W .any base 24 v0) (h0 : DataW.Trod enc' Try.prog W 0 (fun _ => true) true 24 v0 d0 p0) :
    Calls Try.prog 7 #[v0] W fun e W' => e = .returned (.bool true) ∧ Below W.heap.size W W' := by
  obtain ⟨ao, n, cap, f, rfl, hcap, hnc, hrow, _⟩ := open_strrow Try.underlying24 (by kernel_rfl) Try.underlying9 k0 h0
  clear h0 k0
  have HR := Lib.hid hrow; clear hrow
  have H0 := Lib.hid (RI.new W W (Kp.refl _ _))
  go_enter Try.func7, Try.ntmps7
  go_wp2_with fail
  go_loopg [4] n (fun k i wr => ∃ (j : Nat) (v : Value) (L : List ByteArray), k = n - j ∧ j ≤ n ∧ j ≤ 40 ∧ i = .int .i64 j ∧ RI W wr W.heap.size v L ∧ L.length ≤ j)
  case atStart => exact ⟨0, _, [], rfl, Nat.zero_le _, by omega, rfl, H0.out, Nat.le_refl _⟩
  case round =>
    obtain ⟨j, v, L, hk, hj, hj40, rfl, hri, hL⟩ := hrel
    have HKk := Lib.hid hk; have HRI := Lib.hid hri; clear hk hri
    by_cases hlt : j < n ∧ j < 40
    · obtain ⟨hl1, hl2⟩ := hlt
      obtain ⟨b, off, rfl, hb, hc'⟩ := HR.out j hl1
      obtain ⟨y, hy⟩ : ∃ y, y = f j := ⟨_, rfl⟩
      have hc : wr.cell? ⟨b, off + j, none⟩ = some (.string y) := (HRI.out.kp.cell _ hb (fun h => h)).trans (by rw [hy]; exact hc')
      clear hc' hy
      go_wp2_with fail
      refine (radd_ri y HRI.out (by omega)).mono ?_; rintro e w1 ⟨rfl, v', hri'⟩
      have HRI1 := Lib.hid hri'; clear hri'
      have hpl := Plus_len y L
      have HPL := Lib.hid hpl; clear hpl
      go_wp2_with fail
      go_roundg (n - (j + 1))
      case measure => rw [HKk.out]; omega
      case rel => exact ⟨j + 1, v', Plus y L, rfl, by omega, by omega, by go_num, HRI1.out, by have := HPL.out; omega⟩
    · have hend : n ≤ j ∨ 40 ≤ j := by omega
      have hL40 : L.length ≤ 40 := by omega
      clear hlt
      by_cases hjn : j < n
      · have hj4 : ¬ j < 40 := by omega
        go_wp2_with fail
        refine (rnames_any W.heap.size v L _ HRI.out.rg (by omega)).mono ?_; rintro e w1 ⟨u, rfl, hu, hk1⟩
        have hrk : RK W w1 W.heap.size v L u L := ⟨HRI.out.calm hk1, own_weaken hu, fun k hk' => by
          have h1 := (World.ownsRow.lt hu k hk').1
          have h2 := HRI.out.kp.size
          have h3 := lt_of_block HRI.out.rg.head
          exact ⟨by omega, by omega, fun e => by have := HRI.out.rg.row.lt e; omega⟩⟩
        obtain ⟨au, cu, rfl⟩ := hrk.own.slice
        have HRK := Lib.hid hrk; clear hrk hu hk1
        go_wp2_with fail
        go_loopg [6] L.length (fun k i wq => ∃ (q : Nat) (vq : Value), k = L.length - q ∧ q ≤ L.length ∧ i = .int .i64 q ∧ RK W wq W.heap.size vq (Rot q L) (.slice au L.length cu) L)
        case atStart => exact ⟨0, v, rfl, Nat.zero_le _, rfl, by unfold Rot; simpa using HRK.out⟩
        case round =>
          obtain ⟨q, vq, hkq, hq, rfl, hrq⟩ := hrel
          have HKq := Lib.hid hkq; have HRQ := Lib.hid hrq; clear hkq hrq
          by_cases hlq : q < L.length
          · have HT := Lib.hid (Rot_turn hlq); have HG := Lib.hid (Rot_get hlq); have HF := Lib.hid (Rot_fx hlq); have HN := Lib.hid (Rot_len (Nat.le_of_lt hlq))
            rcases HRQ.out.own.shape with ⟨_, h0, _⟩ | ⟨gu, cu', he, _, _, hgu⟩
            · omega
            cases he
            go_wp2_with fail
            refine (rnext_any W.heap.size vq (Rot q L) L _ cu 0 _ HRQ.out.ri.rg (SRd.own HRQ.out.own rfl) (by rw [HN.out]; omega) (by omega) HF.out (by rw [HN.out]; omega)).mono ?_; rintro e w2 ⟨rfl, ⟨v2, hr2, hs2⟩, hk2⟩
            rw [HT.out] at hr2
            have HRK2 := Lib.hid (HRQ.out.next hr2 hs2 hk2); clear hr2 hs2 hk2
            obtain ⟨y, hy⟩ : ∃ y, y = L.getD q ByteArray.empty := ⟨_, rfl⟩
            rw [HG.out, ← hy]
            have hcq : w2.cell? ⟨gu, q, none⟩ = some (.string y) := HRK2.out.own.cell (by rw [hy]; simp [Sc, List.getElem?_eq_getElem hlq, List.getD])
            clear hy
            have hyy : (y.toList == y.toList) = true := by simp
            go_wp2_with fail
            go_roundg (L.length - (q + 1))
            case measure => rw [HKq.out]; omega
            case rel => exact ⟨q + 1, v2, rfl, by omega, by go_num, HRK2.out⟩
          · obtain rfl : q = L.length := by omega
            have hrot : Rot L.length L = L := by unfold Rot; simp
            rw [hrot] at HRQ
            clear hrot
            go_wp2_with fail
            refine (r21ans_any _).mono ?_; rintro e w2 ⟨rfl, hk2⟩
            have HR2 := Lib.hid (HRQ.out.calm hk2); clear hk2
            go_wp2_with fail
            refine (rnames_any W.heap.size vq L _ HR2.out.ri.rg (by omega)).mono ?_; rintro e w3 ⟨u3, rfl, hu3, hk3⟩
            have HR3 := Lib.hid (HR2.out.calm hk3)
            obtain ⟨a3, c3, rfl⟩ := (own_weaken hu3).slice
            have HS3 := Lib.hid (SRd.own (own_weaken hu3) rfl); clear hu3 hk3
            go_wp2_with fail
            refine (texts_same a3 _ c3 cu L _ HS3.out (SRd.own HR3.out.own rfl) (by omega)).mono ?_; rintro e w4 ⟨rfl, hk4⟩
            go_wp2_with fail
            go_ret
            exact ⟨rfl, (HR3.out.ri.kp.trans hk4).below (fun _ _ h => h)⟩
      · have hj5 : n ≤ j := by omega
        go_wp2_with fail
        refine (rnames_any W.heap.size v L _ HRI.out.rg (by omega)).mono ?_; rintro e w1 ⟨u, rfl, hu, hk1⟩
        have hrk : RK W w1 W.heap.size v L u L := ⟨HRI.out.calm hk1, own_weaken hu, fun k hk' => by
          have h1 := (World.ownsRow.lt hu k hk').1
          have h2 := HRI.out.kp.size
          have h3 := lt_of_block HRI.out.rg.head
          exact ⟨by omega, by omega, fun e => by have := HRI.out.rg.row.lt e; omega⟩⟩
        obtain ⟨au, cu, rfl⟩ := hrk.own.slice
        have HRK := Lib.hid hrk; clear hrk hu hk1
        go_wp2_with fail
        go_loopg [6] L.length (fun k i wq => ∃ (q : Nat) (vq : Value), k = L.length - q ∧ q ≤ L.length ∧ i = .int .i64 q ∧ RK W wq W.heap.size vq (Rot q L) (.slice au L.length cu) L)
        case atStart => exact ⟨0, v, rfl, Nat.zero_le _, rfl, by unfold Rot; simpa using HRK.out⟩
        case round =>
          obtain ⟨q, vq, hkq, hq, rfl, hrq⟩ := hrel
          have HKq := Lib.hid hkq; have HRQ := Lib.hid hrq; clear hkq hrq
          by_cases hlq : q < L.length
          · have HT := Lib.hid (Rot_turn hlq); have HG := Lib.hid (Rot_get hlq); have HF := Lib.hid (Rot_fx hlq); have HN := Lib.hid (Rot_len (Nat.le_of_lt hlq))
            rcases HRQ.out.own.shape with ⟨_, h0, _⟩ | ⟨gu, cu', he, _, _, hgu⟩
            · omega
            cases he
            go_wp2_with fail
            refine (rnext_any W.heap.size vq (Rot q L) L _ cu 0 _ HRQ.out.ri.rg (SRd.own HRQ.out.own rfl) (by rw [HN.out]; omega) (by omega) HF.out (by rw [HN.out]; omega)).mono ?_; rintro e w2 ⟨rfl, ⟨v2, hr2, hs2⟩, hk2⟩
            rw [HT.out] at hr2
            have HRK2 := Lib.hid (HRQ.out.next hr2 hs2 hk2); clear hr2 hs2 hk2
            obtain ⟨y, hy⟩ : ∃ y, y = L.getD q ByteArray.empty := ⟨_, rfl⟩
            rw [HG.out, ← hy]
            have hcq : w2.cell? ⟨gu, q, none⟩ = some (.string y) := HRK2.out.own.cell (by rw [hy]; simp [Sc, List.getElem?_eq_getElem hlq, List.getD])
            clear hy
            have hyy : (y.toList == y.toList) = true := by simp
            go_wp2_with fail
            go_roundg (L.length - (q + 1))
            case measure => rw [HKq.out]; omega
            case rel => exact ⟨q + 1, v2, rfl, by omega, by go_num, HRK2.out⟩
          · obtain rfl : q = L.length := by omega
            have hrot : Rot L.length L = L := by unfold Rot; simp
            rw [hrot] at HRQ
            clear hrot
            go_wp2_with fail
            refine (r21ans_any _).mono ?_; rintro e w2 ⟨rfl, hk2⟩
            have HR2 := Lib.hid (HRQ.out.calm hk2); clear hk2
            go_wp2_with fail
            refine (rnames_any W.heap.size vq L _ HR2.out.ri.rg (by omega)).mono ?_; rintro e w3 ⟨u3, rfl, hu3, hk3⟩
            have HR3 := Lib.hid (HR2.out.calm hk3)
            obtain ⟨a3, c3, rfl⟩ := (own_weaken hu3).slice
            have HS3 := Lib.hid (SRd.own (own_weaken hu3) rfl); clear hu3 hk3
            go_wp2_with fail
            refine (texts_same a3 _ c3 cu L _ HS3.out (SRd.own HR3.out.own rfl) (by omega)).mono ?_; rintro e w4 ⟨rfl, hk4⟩
            go_wp2_with fail
            go_ret
            exact ⟨rfl, (HR3.out.ri.kp.trans hk4).below (fun _ _ h => h)⟩
end Go.Proofs.Ytbiahndpfbmoeaa
