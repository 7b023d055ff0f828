/- One begins and ends: the plain side. No condition. -/
import Derived.Test.YtbiahndpfbmoeaaSdOp
namespace Go.Proofs.Ytbiahndpfbmoeaa
open Go.RowKit SatAid

def Les (W : List Wx) (k : Int × Int) : List Wx := W.filter fun z => !decide ((z.id, z.rc) = k)
theorem begin_W (A : Ab) (l : Bool) (i : Nat) (k : Int × Int) : (aBegin A l i k).W = A.W.map fun z => if (z.id, z.rc) = k then { z with go := true } else z := by cases l <;> rfl
theorem begin_mem {A : Ab} {l : Bool} {i : Nat} {k : Int × Int} {y : Wx} (h : y ∈ (aBegin A l i k).W) : ∃ z ∈ A.W, z.id = y.id ∧ z.rc = y.rc ∧ z.snd = y.snd ∧ z.dom = y.dom ∧ z.loc = y.loc := by
  rw [begin_W] at h
  obtain ⟨z, hz, rfl⟩ := List.mem_map.1 h
  refine ⟨z, hz, ?_⟩
  split <;> exact ⟨rfl, rfl, rfl, rfl, rfl⟩
theorem les_map (W : List Wx) (k : Int × Int) (f : Wx → Wx) (hf : ∀ z, (f z).id = z.id ∧ (f z).rc = z.rc) (hg : ∀ z, (z.id, z.rc) ≠ k → f z = z) : Les (W.map f) k = Les W k := by
  unfold Les
  induction W with
  | nil => rfl
  | cons a W ih =>
    rw [List.map_cons, List.filter_cons, List.filter_cons, ih]
    by_cases e : (a.id, a.rc) = k
    · have e2 : ((f a).id, (f a).rc) = k := by rw [(hf a).1, (hf a).2]; exact e
      simp [e, e2]
    · rw [hg a e]
/-- what is left when one that has begun ends -/
theorem end_W (A : Ab) (l : Bool) (i j : Nat) (k : Int × Int) (y : Wx) (n : Int) (hk : (y.id, y.rc) = k) : (aEnd (aBegin A l i k) j y false n).W = Les A.W k := by
  have h1 : (aEnd (aBegin A l i k) j y false n).W = Les (aGo (aBegin A l i k) k false (fun _ => n)).W k := by
    unfold aEnd
    simp only [Bool.false_eq_true, if_false]
    rw [aGone_W]
    subst hk
    rfl
  rw [h1]
  show Les ((aBegin A l i k).W.map _) k = _
  rw [les_map, begin_W, les_map]
  · intro z; split <;> exact ⟨rfl, rfl⟩
  · intro z hz; rw [if_neg hz]
  · intro z; split <;> exact ⟨rfl, rfl⟩
  · intro z hz; rw [if_neg hz]
def Alone (W : List Wx) (x : Wx) : Bool := W.all fun z => !(decide (z.snd = x.snd) && decide (z.loc = x.loc))
theorem end_R (A : Ab) (l : Bool) (i j : Nat) (k : Int × Int) (y : Wx) (n : Int) (hk : (y.id, y.rc) = k) (c : Bool) : rgB (aEnd (aBegin A l i k) j y false n) c =
    if (c = y.loc ∧ Alone (Les A.W k) y = true) then Pdrop y.snd (if c = l then Turn i (rgB A c) else rgB A c) else (if c = l then Turn i (rgB A c) else rgB A c) := by
  have h1 : aLast (aDel (aGo { aBegin A l i k with G := CutG j (aBegin A l i k).G } (y.id, y.rc) false (fun _ => n)) (y.id, y.rc)) { y with go := false, nx := n } = Alone (Les A.W k) y := by
    have h2 : (aDel (aGo { aBegin A l i k with G := CutG j (aBegin A l i k).G } (y.id, y.rc) false (fun _ => n)) (y.id, y.rc)).W = Les A.W k := by
      have := end_W A l i j k y n hk
      unfold aEnd at this
      simp only [Bool.false_eq_true, if_false] at this
      rw [aGone_W] at this
      exact this
    unfold aLast Alone
    rw [h2]
  unfold aEnd
  simp only [Bool.false_eq_true, if_false]
  unfold aGone
  simp only [h1]
  cases ha : Alone (Les A.W k) y with
  | true => cases c <;> cases l <;> cases hl : y.loc <;> simp [rgB, aBegin, aGo, aTurn, aDel]
  | false => cases c <;> cases l <;> simp [rgB, aBegin, aGo, aTurn, aDel]
theorem les_len {W : List Wx} (hn : (W.map fun z => (z.id, z.rc)).Nodup) {x : Wx} (hx : x ∈ W) : (Les W (x.id, x.rc)).length + 1 = W.length := by
  induction W with
  | nil => cases hx
  | cons a W ih =>
    rw [List.map_cons, List.nodup_cons] at hn
    unfold Les
    rw [List.filter_cons]
    rcases List.mem_cons.1 hx with rfl | hx
    · simp only [decide_true, Bool.not_true, Bool.false_eq_true, if_false]
      have : W.filter (fun z => !decide ((z.id, z.rc) = (x.id, x.rc))) = W := List.filter_eq_self.2 (fun z hz => by
        simp only [Bool.not_eq_true', decide_eq_false_iff_not]
        intro e
        exact hn.1 (List.mem_map.2 ⟨z, hz, e⟩))
      rw [this]; rfl
    · have hne : (a.id, a.rc) ≠ (x.id, x.rc) := fun e => hn.1 (List.mem_map.2 ⟨x, hx, e.symm⟩)
      simp only [hne, decide_false, Bool.not_false, if_true, List.length_cons]
      have := ih hn.2 hx
      unfold Les at this
      omega
theorem les_mem {W : List Wx} {k : Int × Int} {z : Wx} : z ∈ Les W k ↔ z ∈ W ∧ (z.id, z.rc) ≠ k := by
  unfold Les; rw [List.mem_filter]; simp
theorem les_nodup {W : List Wx} (hn : (W.map fun z => (z.id, z.rc)).Nodup) (k : Int × Int) : ((Les W k).map fun z => (z.id, z.rc)).Nodup :=
  hn.sublist (List.filter_sublist.map _)

/-- the recipients of one sender, to one domain -/
structure OA (A : Ab) (loc : Bool) (S D : ByteArray) : Prop where
  w : ∀ x ∈ A.W, x.snd = S ∧ x.dom = D ∧ x.loc = loc ∧ x.go = false ∧ x.nx = 0 ∧ 0 ≤ x.id ∧ x.id ≤ 63 ∧ 0 ≤ x.rc ∧ x.rc ≤ 3
  nd : (A.W.map fun z => (z.id, z.rc)).Nodup
  g : A.G = []
  r : rgB A loc = if A.W = [] then [] else [S]
theorem OA.inv {A : Ab} {loc : Bool} {S D : ByteArray} (h : OA A loc S D) : InvA A := by
  intro x hx
  obtain ⟨h1, _, h3, _⟩ := h.w x hx
  rw [h3, h.r, if_neg (List.ne_nil_of_mem hx), h1]
  exact List.mem_singleton.2 rfl
theorem has_one (S : ByteArray) : Has S [S] = true := (Has_mem _ _).2 (List.mem_singleton.2 rfl)
theorem has_nil (S : ByteArray) : Has S [] = false := by
  cases h : Has S [] with
  | false => rfl
  | true => cases (Has_mem _ _).1 h
theorem ix_one (S : ByteArray) : Ix S [S] = 0 := by unfold Ix; rw [if_pos rfl]
theorem OA.put {A : Ab} {loc : Bool} {S D : ByteArray} (h : OA A loc S D) {id rc : Int} (hn : ¬ ∃ z ∈ A.W, (z.id, z.rc) = (id, rc)) (b : 0 ≤ id ∧ id ≤ 63 ∧ 0 ≤ rc ∧ rc ≤ 3) : OA (aPut A ⟨id, rc, S, D, loc, false, 0⟩) loc S D := by
  refine ⟨fun x hx => ?_, ?_, h.g, ?_⟩
  · rcases List.mem_append.1 hx with hx | hx
    · exact h.w x hx
    · obtain rfl := List.mem_singleton.1 hx
      exact ⟨rfl, rfl, rfl, rfl, rfl, b.1, b.2.1, b.2.2.1, b.2.2.2⟩
  · show ((A.W ++ [_]).map _).Nodup
    rw [List.map_append]
    refine List.nodup_append.2 ⟨h.nd, by simp, fun a ha c hc e => ?_⟩
    obtain ⟨z, hz, rfl⟩ := List.mem_map.1 ha
    obtain rfl := List.mem_singleton.1 hc
    exact hn ⟨z, hz, e⟩
  · have h1 : (aPut A ⟨id, rc, S, D, loc, false, 0⟩).W ≠ [] := by unfold aPut; simp
    rw [if_neg h1]
    have h2 : rgB (aPut A ⟨id, rc, S, D, loc, false, 0⟩) loc = Padd S (rgB A loc) := by cases loc <;> rfl
    rw [h2, h.r]
    unfold Padd
    split
    · rw [has_nil]; rfl
    · rw [has_one]; rfl
theorem OA.any {A : Ab} {loc : Bool} {S D : ByteArray} (h : OA A loc S D) {f : ByteArray → Bool} (hf : f D = true) (hw : A.W ≠ []) : AnyA A f 0 := by
  obtain ⟨x, hx⟩ := List.exists_mem_of_ne_nil _ hw
  obtain ⟨h1, h2, h3, h4, h5, _⟩ := h.w x hx
  exact ⟨x, hx, by unfold rdA; simp [h2, h4, h5, hf]⟩
theorem OA.step {A : Ab} {loc : Bool} {S D : ByteArray} (h : OA A loc S D) {f : ByteArray → Bool} {x y : Wx} {j : Nat} (hb : BestA A f 0 x) (hi : FiA A f 0 < (rgB A (LcA A f 0)).length) (hy : y ∈ (aBegin A (LcA A f 0) (FiA A f 0) (x.id, x.rc)).W) (hk : (y.id, y.rc) = (x.id, x.rc)) (hj : j = 0) :
    OA (aEnd (aBegin A (LcA A f 0) (FiA A f 0) (x.id, x.rc)) j y false 0) loc S D ∧ (aEnd (aBegin A (LcA A f 0) (FiA A f 0) (x.id, x.rc)) j y false 0).W.length + 1 = A.W.length ∧ y.dom = D ∧
      ∀ z ∈ (aEnd (aBegin A (LcA A f 0) (FiA A f 0) (x.id, x.rc)) j y false 0).W, x.id * 4 + x.rc < z.id * 4 + z.rc := by
  have hl : LcA A f 0 = loc := by
    have := rd_loc hb.rd
    rw [← this]; exact (h.w x hb.mem).2.2.1
  have hW := end_W A (LcA A f 0) (FiA A f 0) j (x.id, x.rc) y 0 hk
  have hR := end_R A (LcA A f 0) (FiA A f 0) j (x.id, x.rc) y 0 hk loc
  obtain ⟨y0, hy0, _, _, es, ed, el⟩ := begin_mem hy
  have hyw := h.w y0 hy0
  have hne : A.W ≠ [] := List.ne_nil_of_mem hb.mem
  refine ⟨⟨fun z hz => ?_, ?_, ?_, ?_⟩, ?_, by rw [← ed]; exact hyw.2.1, fun z hz => ?_⟩
  · rw [hW] at hz; exact h.w z (les_mem.1 hz).1
  · rw [hW]; exact les_nodup h.nd _
  · rw [aEnd_G, aBegin_G, h.g, hj]; rfl
  · rw [hR, hW, hl]
    have hi' : FiA A f 0 = 0 := by
      rw [hl, h.r, if_neg hne] at hi
      simp at hi; exact hi
    rw [hi', if_pos rfl, h.r, if_neg hne]
    have ht : Turn 0 [S] = [S] := rfl
    rw [ht]
    have hys : y.snd = S := by rw [← es]; exact hyw.1
    have hyl : y.loc = loc := by rw [← el]; exact hyw.2.2.1
    by_cases he : Les A.W (x.id, x.rc) = []
    · rw [if_pos he, he, if_pos ⟨hyl.symm, rfl⟩, hys]
      unfold Pdrop
      rw [has_one, if_pos rfl, ix_one]
      rfl
    · rw [if_neg he, if_neg]
      rintro ⟨_, ha⟩
      obtain ⟨z, hz⟩ := List.exists_mem_of_ne_nil _ he
      have h1 := List.all_eq_true.1 ha z hz
      obtain ⟨z1, _, z3, _⟩ := h.w z (les_mem.1 hz).1
      simp [z1, z3, hys, hyl] at h1
  · rw [hW]; exact les_len h.nd hb.mem
  · rw [hW] at hz
    obtain ⟨hz1, hz2⟩ := les_mem.1 hz
    obtain ⟨a1, a2, a3, a4, a5, a6, a7, a8, a9⟩ := h.w z hz1
    obtain ⟨b1, b2, b3, b4, b5, b6, b7, b8, b9⟩ := h.w x hb.mem
    have hrd : rdA f (LcA A f 0) 0 z = true := by
      have := hb.rd
      unfold rdA at this ⊢
      simp only [Bool.and_eq_true, decide_eq_true_eq, Bool.not_eq_true'] at this ⊢
      exact ⟨a3.trans hl.symm, a4, by omega, by rw [a2, ← b2]; exact this.2.2.2⟩
    have := hb.le z hz1 hrd (a1.trans b1.symm)
    have hne2 : ¬ (z.id = x.id ∧ z.rc = x.rc) := fun e => hz2 (by rw [e.1, e.2])
    omega
end Go.Proofs.Ytbiahndpfbmoeaa
