/- RingFair: turns, in plain Lean; and what Drop does beside. No condition. -/
import Derived.Test.YtbiahndpfbmoeaaRingWaits
namespace Go.Proofs.Ytbiahndpfbmoeaa
open Go.RowKit

theorem cut_split {i : Nat} {L : List ByteArray} (hi : i < L.length) : L = L.take i ++ L.getD i ByteArray.empty :: L.drop (i + 1) := by
  have e : L.getD i ByteArray.empty = L[i] := by simp [List.getD, hi]
  rw [e, ← List.drop_eq_getElem_cons hi, List.take_append_drop]
theorem sub_cut {xs L : List ByteArray} {i : Nat} (hi : i < L.length) (h : List.Sublist xs L) (hx : L.getD i ByteArray.empty ∉ xs) : List.Sublist xs (Cut i L) := by
  have hs := cut_split hi
  obtain ⟨y, hy⟩ : ∃ y, y = L.getD i ByteArray.empty := ⟨_, rfl⟩
  rw [← hy] at hs hx
  rw [hs] at h
  have h1 := h.filter (fun z => decide (z ≠ y))
  have e1 : xs.filter (fun z => decide (z ≠ y)) = xs := List.filter_eq_self.2 (fun z hz => by
    rw [decide_eq_true_eq]; intro e; subst e; exact hx hz)
  rw [e1, List.filter_append, List.filter_cons_of_neg (by simp)] at h1
  exact h1.trans (List.Sublist.append List.filter_sublist List.filter_sublist)
theorem turn_perm {i : Nat} {L : List ByteArray} (hi : i < L.length) : List.Perm L (Turn i L) := by
  have hs := cut_split hi
  unfold Turn Cut
  refine (List.Perm.of_eq hs).trans (List.perm_middle.trans ?_)
  exact List.perm_append_singleton _ _ |>.symm
theorem cut_nodup {i : Nat} {L : List ByteArray} (h : L.Nodup) : (Cut i L).Nodup := by
  refine h.sublist ?_
  have : List.Sublist (L.take i ++ L.drop (i + 1)) (L.take i ++ L.drop i) := List.Sublist.append (List.Sublist.refl _) (by
    rw [← List.drop_drop, ]
    exact List.drop_sublist 1 _)
  rw [List.take_append_drop] at this
  exact this
theorem sub_ix {a b : ByteArray} (hab : a ≠ b) : ∀ {L : List ByteArray}, List.Sublist [a, b] L → L.Nodup → Ix a L < Ix b L
  | c :: L, h, hn => by
    rw [List.nodup_cons] at hn
    cases h with
    | cons _ h =>
      have ha : a ∈ L := h.subset (by simp)
      have hb : b ∈ L := h.subset (by simp)
      unfold Ix
      rw [if_neg (fun e => hn.1 (by rw [e]; exact ha)), if_neg (fun e => hn.1 (by rw [e]; exact hb))]
      exact Nat.succ_lt_succ (sub_ix hab h hn.2)
    | cons_cons _ h =>
      unfold Ix
      rw [if_pos rfl, if_neg hab]
      exact Nat.succ_pos _

/-- the two are in turn -/
def Fr (a b : ByteArray) (L : List ByteArray) (n m : Nat) : Prop := L.Nodup ∧ ((List.Sublist [a, b] L ∧ n = m) ∨ (List.Sublist [b, a] L ∧ n = m + 1))
theorem Fr.plus {a b c : ByteArray} {L : List ByteArray} {n m : Nat} (h : Fr a b L n m) : Fr a b (Plus c L) n m := by
  unfold Plus
  by_cases hc : Has c L = true
  · rw [if_pos hc]; exact h
  · rw [if_neg hc]
    rw [Has_mem] at hc
    refine ⟨?_, h.2.imp (fun ⟨h1, h2⟩ => ⟨h1.trans (List.sublist_append_left _ _), h2⟩) (fun ⟨h1, h2⟩ => ⟨h1.trans (List.sublist_append_left _ _), h2⟩)⟩
    exact (List.perm_append_singleton c L).symm.nodup (List.nodup_cons.2 ⟨hc, h.1⟩)
theorem Fr.cut {a b : ByteArray} {L : List ByteArray} {n m i : Nat} (h : Fr a b L n m) (hi : i < L.length) (ha : L.getD i ByteArray.empty ≠ a) (hb : L.getD i ByteArray.empty ≠ b) : Fr a b (Cut i L) n m :=
  ⟨cut_nodup h.1, h.2.imp (fun ⟨h1, h2⟩ => ⟨sub_cut hi h1 (fun hh => (List.mem_cons.1 hh).elim ha (fun hh => hb (List.mem_singleton.1 hh))), h2⟩) (fun ⟨h1, h2⟩ => ⟨sub_cut hi h1 (fun hh => (List.mem_cons.1 hh).elim hb (fun hh => ha (List.mem_singleton.1 hh))), h2⟩)⟩
theorem Fr.mem {a b : ByteArray} {L : List ByteArray} {n m : Nat} (h : Fr a b L n m) : a ∈ L ∧ b ∈ L := by
  rcases h.2 with ⟨h, _⟩ | ⟨h, _⟩ <;> exact ⟨h.subset (by simp), h.subset (by simp)⟩
theorem sub_turn {a b : ByteArray} (hab : a ≠ b) {L : List ByteArray} {i : Nat} (hi : i < L.length) (hy : L.getD i ByteArray.empty = a) (hb : b ∈ L) : List.Sublist [b, a] (Turn i L) := by
  unfold Turn
  rw [hy, show [b, a] = [b] ++ [a] from rfl]
  refine List.Sublist.append (sub_cut hi (List.singleton_sublist.2 hb) ?_) (List.Sublist.refl _)
  rw [hy]; simp [hab]
/-- a turn, where both are ready -/
theorem Fr.turn {a b : ByteArray} (hab : a ≠ b) {L R : List ByteArray} {n m i : Nat} (h : Fr a b L n m) (ha : Has a R = true) (hb : Has b R = true) (hI : i = Fx R L) (hi : i < L.length) :
    (L.getD i ByteArray.empty = a → Fr a b (Turn i L) (n + 1) m) ∧ (L.getD i ByteArray.empty = b → Fr a b (Turn i L) n (m + 1)) ∧ (L.getD i ByteArray.empty ≠ a → L.getD i ByteArray.empty ≠ b → Fr a b (Turn i L) n m) := by
  have hn := (turn_perm hi).nodup h.1
  have la := Fx_le_Ix ha L
  have lb := Fx_le_Ix hb L
  have hm := h.mem
  refine ⟨fun e => ?_, fun e => ?_, fun e1 e2 => ?_⟩
  · refine ⟨hn, ?_⟩
    rcases h.2 with ⟨hs, hh⟩ | ⟨hs, hh⟩
    · exact Or.inr ⟨sub_turn hab hi e hm.2, by omega⟩
    · have h1 := sub_ix hab.symm hs h.1
      have h2 := Ix_min hi e
      omega
  · refine ⟨hn, ?_⟩
    rcases h.2 with ⟨hs, hh⟩ | ⟨hs, hh⟩
    · have h1 := sub_ix hab hs h.1
      have h2 := Ix_min hi e
      omega
    · exact Or.inl ⟨sub_turn hab.symm hi e hm.1, by omega⟩
  · have hc := h.cut hi e1 e2
    refine ⟨hn, hc.2.imp (fun ⟨h1, h2⟩ => ⟨h1.trans (List.sublist_append_left _ _), h2⟩) (fun ⟨h1, h2⟩ => ⟨h1.trans (List.sublist_append_left _ _), h2⟩)⟩

def Rdrop (W : World) (p : Nat) (x : ByteArray) (L : List ByteArray) (e : Ending) (w' : World) : Prop := e = .returned (.bool (Has x L)) ∧ ∃ v', RI W w' p v' (if Has x L then Cut (Ix x L) L else L)
theorem rdrop_ri {W w : World} {p : Nat} {v : Value} {L : List ByteArray} (x : ByteArray) (h : RI W w p v L) (hL : L.length ≤ 1000000000) :
    Calls Try.prog 16 #[.pointer (some ⟨p, 0, none⟩), .string x] w (Rdrop W p x L) := by
  cases hx : Has x L with
  | false =>
    refine (rdrop_no p v L x w h.rg hx hL).mono ?_; rintro e w1 ⟨rfl, rfl⟩
    exact ⟨by rw [hx], v, by rw [if_neg (by rw [hx]; exact Bool.false_ne_true)]; exact h⟩
  | true =>
    refine (rdrop_any p v L x w h.rg hx hL).mono ?_; rintro e w1 ⟨rfl, ⟨v', hr, hs⟩, hk⟩
    exact ⟨by rw [hx], v', by rw [if_pos hx]; exact h.next hr (Or.inl hs) hk⟩
end Go.Proofs.Ytbiahndpfbmoeaa
