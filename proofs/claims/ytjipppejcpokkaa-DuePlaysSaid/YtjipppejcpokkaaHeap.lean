/- Heaps in a list: what sifting up and down keeps. No program. -/
import Derived.WalkKit
namespace Go.Proofs.Ytjipppejcpokkaa
/-- an alarm: its block, its id, its time -/
structure Al where
  blk : Nat
  id : Int
  at' : Int
deriving Inhabited
/-- does a come ahead of b? -/
def Lt (a b : Al) : Bool := if a.at' = b.at' then decide (a.id < b.id) else decide (a.at' < b.at')
theorem Lt_iff (a b : Al) : Lt a b = true ↔ (a.at' < b.at' ∨ a.at' = b.at' ∧ a.id < b.id) := by
  unfold Lt
  split
  · rename_i h; simp only [decide_eq_true_eq]; omega
  · rename_i h; simp only [decide_eq_true_eq]; omega
def Le (a b : Al) : Prop := Lt b a = false
theorem Le_iff (a b : Al) : Le a b ↔ (a.at' < b.at' ∨ a.at' = b.at' ∧ a.id ≤ b.id) := by
  unfold Le
  have := Lt_iff b a
  cases h : Lt b a
  · rw [h] at this; simp only [Bool.false_eq_true, false_iff] at this; simp only [true_iff]; omega
  · rw [h] at this; simp only [true_iff] at this; simp only [Bool.true_eq_false, false_iff]; omega
theorem Le.of_lt {a b : Al} (h : Lt a b = true) : Le a b := by rw [Lt_iff] at h; rw [Le_iff]; omega
theorem Le.trans {a b c : Al} (h : Le a b) (g : Le b c) : Le a c := by rw [Le_iff] at *; omega
theorem Le.refl (a : Al) : Le a a := by rw [Le_iff]; omega
theorem Le.anti {a b : Al} (h : Le a b) (g : Le b a) : a.id = b.id ∧ a.at' = b.at' := by rw [Le_iff] at *; omega
/-- the k-th -/
def G (L : List Al) (k : Nat) : Al := L.getD k default
theorem G_get {L : List Al} {k : Nat} (h : k < L.length) : L[k]? = some (G L k) := by
  unfold G; rw [List.getD_eq_getElem?_getD, List.getElem?_eq_getElem h]; rfl
theorem G_mem {L : List Al} {k : Nat} (h : k < L.length) : G L k ∈ L := List.mem_of_getElem? (G_get h)
theorem G_of {L : List Al} {k : Nat} {a : Al} (h : L[k]? = some a) : G L k = a := by
  unfold G; rw [List.getD_eq_getElem?_getD, h]; rfl
theorem mem_G {L : List Al} {a : Al} (h : a ∈ L) : ∃ k, k < L.length ∧ G L k = a := by
  obtain ⟨k, hk⟩ := List.getElem?_of_mem h
  exact ⟨k, (List.getElem?_eq_some_iff.1 hk).1, G_of hk⟩
/-- two change places -/
def Sw (L : List Al) (i j : Nat) : List Al := (L.set i (G L j)).set j (G L i)
theorem Sw_len (L : List Al) (i j : Nat) : (Sw L i j).length = L.length := by simp [Sw]
theorem Sw_G {L : List Al} {i j : Nat} (hi : i < L.length) (hj : j < L.length) (k : Nat) : G (Sw L i j) k = if k = j then G L i else if k = i then G L j else G L k := by
  by_cases hkl : k < L.length
  · apply G_of
    unfold Sw
    rw [List.getElem?_set, List.getElem?_set]
    by_cases h1 : k = j
    · subst h1; simp [hj]
    · rw [if_neg (fun h => h1 h.symm), if_neg h1]
      by_cases h2 : k = i
      · subst h2; simp [hi]
      · rw [if_neg (fun h => h2 h.symm), if_neg h2]; exact G_get hkl
  · rw [if_neg (by omega), if_neg (by omega)]
    unfold G
    rw [List.getD_eq_getElem?_getD, List.getD_eq_getElem?_getD, List.getElem?_eq_none (by rw [Sw_len]; omega), List.getElem?_eq_none (by omega)]
theorem Sw_perm {L : List Al} {i j : Nat} (hi : i < L.length) (hj : j < L.length) : (Sw L i j).Perm L := by
  have h := (Array.swap_perm (xs := L.toArray) (i := i) (j := j) (by simpa using hi) (by simpa using hj)).toList
  rw [Array.toList_swap] at h
  have e : Sw L i j = (L.set i L[j]).set j L[i] := by
    unfold Sw
    have e1 := G_get hi; have e2 := G_get hj
    rw [List.getElem?_eq_getElem hi] at e1
    rw [List.getElem?_eq_getElem hj] at e2
    rw [← Option.some.inj e1, ← Option.some.inj e2]
  rw [e]
  simpa using h

/-- whose child k is -/
def Par (k : Nat) : Nat := (k - 1) / 2
/-- the first n are a heap -/
def Heap (L : List Al) (n : Nat) : Prop := ∀ k, 0 < k → k < n → Le (G L (Par k)) (G L k)
/-- .. but for what stands at j, which may be too small -/
structure UpAt (L : List Al) (n j : Nat) : Prop where
  most : ∀ k, 0 < k → k < n → k ≠ j → Le (G L (Par k)) (G L k)
  kids : 0 < j → ∀ k, 0 < k → k < n → Par k = j → Le (G L (Par j)) (G L k)
/-- .. too small or too great -/
structure MidAt (L : List Al) (n i : Nat) : Prop where
  most : ∀ k, 0 < k → k < n → k ≠ i → Par k ≠ i → Le (G L (Par k)) (G L k)
  kids : 0 < i → ∀ k, 0 < k → k < n → Par k = i → Le (G L (Par i)) (G L k)
/-- .. too great -/
structure DownAt (L : List Al) (n i : Nat) : Prop where
  most : ∀ k, 0 < k → k < n → Par k ≠ i → Le (G L (Par k)) (G L k)
  kids : 0 < i → ∀ k, 0 < k → k < n → Par k = i → Le (G L (Par i)) (G L k)
theorem DownAt.mid {L : List Al} {n i : Nat} (h : DownAt L n i) : MidAt L n i := ⟨fun k a b _ c => h.most k a b c, h.kids⟩

theorem Up_done {L : List Al} {n j : Nat} (h : UpAt L n j) (hd : j = 0 ∨ Lt (G L j) (G L (Par j)) = false) : Heap L n := by
  intro k h0 hn
  by_cases hk : k = j
  · subst hk
    rcases hd with hd | hd
    · omega
    · exact hd
  · exact h.most k h0 hn hk
theorem Up_step {L : List Al} {n j : Nat} (h : UpAt L n j) (hn : n ≤ L.length) (hj : j < n) (h0 : 0 < j) (hlt : Lt (G L j) (G L (Par j)) = true) : UpAt (Sw L (Par j) j) n (Par j) := by
  have hp : Par j < j := by unfold Par; omega
  have hG := Sw_G (L := L) (i := Par j) (j := j) (by omega) (by omega)
  refine ⟨fun k hk0 hkn hk => ?_, fun hp0 k hk0 hkn hk => ?_⟩
  · rw [hG, hG]
    by_cases e : k = j
    · subst e
      rw [if_neg (by omega), if_pos rfl, if_pos rfl]
      exact Le.of_lt hlt
    · rw [if_neg e, if_neg hk]
      by_cases e1 : Par k = j
      · rw [if_pos e1]; exact h.kids h0 k hk0 hkn e1
      · rw [if_neg e1]
        by_cases e2 : Par k = Par j
        · rw [if_pos e2]
          exact (Le.of_lt hlt).trans (e2 ▸ h.most k hk0 hkn e)
        · rw [if_neg e2]; exact h.most k hk0 hkn e
  · have hpp : Par (Par j) < Par j := by unfold Par at *; omega
    have h1 := h.most (Par j) hp0 (by omega) (by omega)
    rw [hG, hG, if_neg (by omega), if_neg (by omega)]
    by_cases e : k = j
    · subst e; rw [if_pos rfl]; exact h1
    · have hkp : k ≠ Par j := by unfold Par at *; omega
      rw [if_neg e, if_neg hkp]
      exact h1.trans (hk ▸ h.most k hk0 hkn e)

/-- j is the least child of i -/
structure Kid (L : List Al) (n i j : Nat) : Prop where
  kid : j = 2 * i + 1 ∨ j = 2 * i + 2
  lt : j < n
  least : ∀ k, 0 < k → k < n → Par k = i → Le (G L j) (G L k)
theorem Kid.mk1 {L : List Al} {n i : Nat} (h1 : 2 * i + 1 < n) (h2 : 2 * i + 2 < n → Lt (G L (2 * i + 2)) (G L (2 * i + 1)) = false) : Kid L n i (2 * i + 1) := by
  refine ⟨Or.inl rfl, h1, fun k hk0 hkn hk => ?_⟩
  have : k = 2 * i + 1 ∨ k = 2 * i + 2 := by unfold Par at hk; omega
  rcases this with rfl | rfl
  · exact Le.refl _
  · exact h2 hkn
theorem Kid.mk2 {L : List Al} {n i : Nat} (h1 : 2 * i + 2 < n) (h2 : Lt (G L (2 * i + 2)) (G L (2 * i + 1)) = true) : Kid L n i (2 * i + 2) := by
  refine ⟨Or.inr rfl, h1, fun k hk0 hkn hk => ?_⟩
  have : k = 2 * i + 1 ∨ k = 2 * i + 2 := by unfold Par at hk; omega
  rcases this with rfl | rfl
  · exact Le.of_lt h2
  · exact Le.refl _
theorem Down_step {L : List Al} {n i j : Nat} (h : MidAt L n i) (hn : n ≤ L.length) (hj : Kid L n i j) (hlt : Lt (G L j) (G L i) = true) : DownAt (Sw L i j) n j := by
  have hjl := hj.lt
  have hpj : Par j = i := by unfold Par; rcases hj.kid with e | e <;> omega
  have hij : i < j := by rcases hj.kid with e | e <;> omega
  have hG := Sw_G (L := L) (i := i) (j := j) (by omega) (by omega)
  refine ⟨fun k hk0 hkn hk => ?_, fun _ k hk0 hkn hk => ?_⟩
  · rw [hG, hG]
    rw [if_neg hk]
    by_cases e : k = j
    · subst e; rw [if_pos hpj, if_pos rfl]; exact Le.of_lt hlt
    · rw [if_neg e]
      by_cases e1 : k = i
      · subst e1
        have : Par k ≠ k := by unfold Par; omega
        rw [if_neg this, if_pos rfl]
        exact h.kids hk0 j (by omega) hjl hpj
      · rw [if_neg e1]
        by_cases e2 : Par k = i
        · rw [if_pos e2]; exact hj.least k hk0 hkn e2
        · rw [if_neg e2]; exact h.most k hk0 hkn e1 e2
  · have hki : k ≠ i := by unfold Par at hk; omega
    have hkj : k ≠ j := by unfold Par at hk; omega
    rw [hpj, hG, hG, if_neg (by omega), if_pos rfl, if_neg hkj, if_neg hki]
    exact hk ▸ h.most k hk0 hkn hki (by omega)
/-- nothing below i is less than what stands there -/
def Calm (L : List Al) (n i : Nat) : Prop := ∀ k, 0 < k → k < n → Par k = i → Le (G L i) (G L k)
theorem Calm.leaf {L : List Al} {n i : Nat} (h : n ≤ 2 * i + 1) : Calm L n i := fun k hk0 hkn hk => by unfold Par at hk; omega
theorem Calm.kid {L : List Al} {n i j : Nat} (hj : Kid L n i j) (h : Lt (G L j) (G L i) = false) : Calm L n i := fun k hk0 hkn hk => Le.trans (b := G L j) h (hj.least k hk0 hkn hk)
theorem Down_done {L : List Al} {n i : Nat} (h : DownAt L n i) (hc : Calm L n i) : Heap L n := fun k hk0 hkn => by
  by_cases e : Par k = i
  · rw [e]; exact hc k hk0 hkn e
  · exact h.most k hk0 hkn e
theorem Mid_up {L : List Al} {n i : Nat} (h : MidAt L n i) (hc : Calm L n i) : UpAt L n i :=
  ⟨fun k hk0 hkn hk => by
    by_cases e : Par k = i
    · rw [e]; exact hc k hk0 hkn e
    · exact h.most k hk0 hkn hk e, h.kids⟩
/-- the first of a heap is the least -/
theorem Heap.least {L : List Al} {n : Nat} (h : Heap L n) : ∀ k, k < n → Le (G L 0) (G L k) := by
  intro k
  induction k using Nat.strongRecOn with
  | ind k ih =>
    intro hk
    by_cases e : k = 0
    · subst e; exact Le.refl _
    · exact (ih (Par k) (by unfold Par; omega) (by unfold Par; omega)).trans (h k (by omega) hk)
theorem Heap.mid {L : List Al} {n : Nat} (h : Heap L n) (L' : List Al) (i : Nat) (hi : i < n) (hG : ∀ k, k < n → k ≠ i → G L' k = G L k) : MidAt L' n i := by
  refine ⟨fun k hk0 hkn hk hp => ?_, fun hi0 k hk0 hkn hk => ?_⟩
  · rw [hG k hkn hk, hG (Par k) (by unfold Par; omega) hp]; exact h k hk0 hkn
  · have hki : k ≠ i := by unfold Par at hk; omega
    have hpi : Par i ≠ i := by unfold Par; omega
    have hpn : Par i < n := by unfold Par; omega
    rw [hG k hkn hki, hG (Par i) hpn hpi]
    exact (h i hi0 hi).trans (hk ▸ h k hk0 hkn)
theorem Heap.mono {L : List Al} {n m : Nat} (h : Heap L n) (hm : m ≤ n) : Heap L m := fun k h0 hk => h k h0 (by omega)
theorem Heap.congr {L L' : List Al} {n : Nat} (h : Heap L n) (hG : ∀ k, k < n → G L' k = G L k) : Heap L' n := fun k h0 hk => by
  rw [hG k hk, hG (Par k) (by unfold Par; omega)]; exact h k h0 hk
/-- one more at the end -/
theorem Heap.push {L : List Al} {a : Al} (h : Heap L L.length) : UpAt (L ++ [a]) (L.length + 1) L.length := by
  have hG : ∀ k, k < L.length → G (L ++ [a]) k = G L k := fun k hk => by
    unfold G
    rw [List.getD_eq_getElem?_getD, List.getD_eq_getElem?_getD, List.getElem?_append_left hk]
  refine ⟨fun k h0 hk hne => ?_, fun h0 k hk0 hkn hk => ?_⟩
  · rw [hG k (by omega), hG (Par k) (by unfold Par; omega)]; exact h k h0 (by omega)
  · unfold Par at hk; omega
end Go.Proofs.Ytjipppejcpokkaa
