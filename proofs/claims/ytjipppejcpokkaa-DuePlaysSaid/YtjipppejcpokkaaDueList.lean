/- Alarms as a list in order, without a program: what is laid in, taken out, and comes first. -/
import Derived.Test.YtjipppejcpokkaaHeap
namespace Go.Proofs.Ytjipppejcpokkaa
/-- (id, time): which comes first? -/
def LtP (a b : Int × Int) : Prop := a.2 < b.2 ∨ a.2 = b.2 ∧ a.1 < b.1
instance (a b : Int × Int) : Decidable (LtP a b) := by unfold LtP; infer_instance
def Ins (x : Int × Int) : List (Int × Int) → List (Int × Int)
  | [] => [x]
  | y :: r => if LtP y x then y :: Ins x r else x :: y :: r
def Del (id : Int) (S : List (Int × Int)) : List (Int × Int) := S.filter fun x => !decide (x.1 = id)
def HasI (id : Int) (S : List (Int × Int)) : Bool := S.any fun x => decide (x.1 = id)
theorem Ins_perm (x : Int × Int) (S : List (Int × Int)) : (Ins x S).Perm (x :: S) := by
  induction S with
  | nil => exact List.Perm.refl _
  | cons y r ih =>
    unfold Ins
    split
    · exact (List.Perm.cons y ih).trans (List.Perm.swap x y r)
    · exact List.Perm.refl _
theorem Ins_sorted {x : Int × Int} {S : List (Int × Int)} (h : S.Pairwise LtP) (hx : ∀ y ∈ S, y.1 ≠ x.1) : (Ins x S).Pairwise LtP := by
  induction S with
  | nil => exact List.pairwise_singleton _ _
  | cons y r ih =>
    obtain ⟨h1, h2⟩ := List.pairwise_cons.1 h
    unfold Ins
    split
    · rename_i hlt
      refine List.pairwise_cons.2 ⟨fun z hz => ?_, ih h2 (fun z hz => hx z (List.mem_cons_of_mem _ hz))⟩
      rcases List.mem_cons.1 ((Ins_perm x r).mem_iff.1 hz) with rfl | hz
      · exact hlt
      · exact h1 z hz
    · rename_i hlt
      have hne := hx y (List.mem_cons_self ..)
      have hxy : LtP x y := by unfold LtP at *; omega
      refine List.pairwise_cons.2 ⟨fun z hz => ?_, h⟩
      rcases List.mem_cons.1 hz with rfl | hz
      · exact hxy
      · have := h1 z hz
        unfold LtP at *; omega
theorem Del_sorted {id : Int} {S : List (Int × Int)} (h : S.Pairwise LtP) : (Del id S).Pairwise LtP := h.filter _
theorem Del_mem {id : Int} {S : List (Int × Int)} {y : Int × Int} (h : y ∈ Del id S) : y ∈ S ∧ y.1 ≠ id := by
  unfold Del at h
  rw [List.mem_filter] at h
  exact ⟨h.1, by simpa using h.2⟩
theorem Del_none {id : Int} {S : List (Int × Int)} (h : ∀ y ∈ S, y.1 ≠ id) : Del id S = S := by
  unfold Del
  exact List.filter_eq_self.2 (fun y hy => by simp [h y hy])
theorem HasI_iff {id : Int} {S : List (Int × Int)} : HasI id S = true ↔ ∃ y ∈ S, y.1 = id := by
  unfold HasI
  simp
theorem HasI_false {id : Int} {S : List (Int × Int)} : HasI id S = false ↔ ∀ y ∈ S, y.1 ≠ id := by
  unfold HasI
  simp
/-- an alarm's id and time -/
def Kl (L : List Al) : List (Int × Int) := L.map fun a => (a.id, a.at')
/-- all but the one at i -/
def Rest (L : List Al) (i : Nat) : List Al := L.take i ++ L.drop (i + 1)
theorem split_at {L : List Al} {i : Nat} (h : i < L.length) : L = L.take i ++ G L i :: L.drop (i + 1) := by
  have e := G_get h
  rw [List.getElem?_eq_getElem h] at e
  rw [← Option.some.inj e, ← List.drop_eq_getElem_cons h, List.take_append_drop]
theorem rest_perm {L : List Al} {i : Nat} (h : i < L.length) : L.Perm (G L i :: Rest L i) := by
  have := List.perm_middle (a := G L i) (l₁ := L.take i) (l₂ := L.drop (i + 1))
  rw [← split_at h] at this
  exact this
theorem set_perm {L : List Al} {i : Nat} (h : i < L.length) (a : Al) : (L.set i a).Perm (a :: Rest L i) := by
  have e : L.set i a = L.take i ++ a :: L.drop (i + 1) := by rw [List.set_eq_take_append_cons_drop, if_pos h]
  rw [e]
  exact List.perm_middle
theorem set_G {L : List Al} {i : Nat} (h : i < L.length) (a : Al) (k : Nat) : G (L.set i a) k = if k = i then a else G L k := by
  unfold G
  rw [List.getD_eq_getElem?_getD, List.getD_eq_getElem?_getD, List.getElem?_set]
  by_cases e : k = i
  · subst e; simp [h]
  · rw [if_neg (fun h => e h.symm), if_neg e]
theorem del_rest {L : List Al} {i : Nat} {S : List (Int × Int)} (h : i < L.length) (hp : (Kl L).Perm S) (hid : ∀ a ∈ Rest L i, a.id ≠ (G L i).id) : (Kl (Rest L i)).Perm (Del (G L i).id S) := by
  have h1 : (Kl L).Perm (((G L i).id, (G L i).at') :: Kl (Rest L i)) := (rest_perm h).map _
  have h2 := (h1.symm.trans hp).filter (fun x : Int × Int => !decide (x.1 = (G L i).id))
  have h3 : (((G L i).id, (G L i).at') :: Kl (Rest L i)).filter (fun x : Int × Int => !decide (x.1 = (G L i).id)) = Kl (Rest L i) := by
    rw [List.filter_cons_of_neg (by simp)]
    refine List.filter_eq_self.2 (fun y hy => ?_)
    obtain ⟨a, ha, rfl⟩ := List.mem_map.1 hy
    simp [hid a ha]
  rw [h3] at h2
  exact h2
theorem kl_mem {L : List Al} {y : Int × Int} (h : y ∈ Kl L) : ∃ a ∈ L, (a.id, a.at') = y := List.mem_map.1 h
/-- the first of a heap is the first in order -/
theorem heap_first {L : List Al} {s : Int × Int} {r : List (Int × Int)} (hh : Heap L L.length) (hp : (Kl L).Perm (s :: r)) (hs : (s :: r).Pairwise LtP) : 0 < L.length ∧ (G L 0).id = s.1 ∧ (G L 0).at' = s.2 := by
  have hl : 0 < L.length := by
    have := hp.length_eq
    simp [Kl] at this
    omega
  refine ⟨hl, ?_⟩
  obtain ⟨a, ha, e⟩ := kl_mem (hp.mem_iff.2 (List.mem_cons_self ..))
  obtain ⟨k, hk, rfl⟩ := mem_G ha
  have h1 := hh.least k hk
  rw [Le_iff] at h1
  have h2 : ((G L 0).id, (G L 0).at') ∈ s :: r := hp.mem_iff.1 (List.mem_map.2 ⟨_, G_mem hl, rfl⟩)
  rw [← e]
  rcases List.mem_cons.1 h2 with h2 | h2
  · rw [← e] at h2
    simp only [Prod.mk.injEq] at h2
    exact h2
  · have h3 := (List.pairwise_cons.1 hs).1 _ h2
    rw [← e] at h3
    unfold LtP at h3
    simp only at h3 ⊢
    omega
end Go.Proofs.Ytjipppejcpokkaa
