/- What the calls leave true of a scheduler's rings: the plain side. No condition. -/
import Derived.Test.YtbiahndpfbmoeaaSd21
namespace Go.Proofs.Ytbiahndpfbmoeaa
open Go.RowKit SatAid

theorem mem_cut {y : ByteArray} {i : Nat} {L : List ByteArray} (hi : i < L.length) (h : y ∈ L) (hy : y ≠ L.getD i ByteArray.empty) : y ∈ Cut i L := by
  rw [cut_split hi] at h
  unfold Cut
  rcases List.mem_append.1 h with h | h
  · exact List.mem_append_left _ h
  · rcases List.mem_cons.1 h with h | h
    · exact absurd h hy
    · exact List.mem_append_right _ h
theorem getD_ix {x : ByteArray} {L : List ByteArray} (h : Ix x L < L.length) : L.getD (Ix x L) ByteArray.empty = x := by
  induction L with
  | nil => cases h
  | cons a L ih =>
    unfold Ix at h ⊢
    by_cases e : a = x
    · rw [if_pos e]; simpa using e
    · rw [if_neg e] at h ⊢
      have h' : Ix x L < L.length := by simpa using h
      simpa using ih h'
theorem mem_pdrop {x y : ByteArray} {L : List ByteArray} (h : y ∈ L) (hy : y ≠ x) : y ∈ Pdrop x L := by
  unfold Pdrop
  by_cases hx : Has x L = true
  · rw [if_pos hx]
    exact mem_cut (Has_ix hx) h (by rw [getD_ix (Has_ix hx)]; exact hy)
  · rw [if_neg hx]; exact h
theorem mem_padd {x y : ByteArray} {L : List ByteArray} (h : y ∈ L) : y ∈ Padd x L := by
  unfold Padd
  split
  · exact h
  · exact List.mem_append_left _ h
theorem padd_self {x : ByteArray} {L : List ByteArray} : x ∈ Padd x L := by
  unfold Padd
  split
  · rename_i h; exact (Has_mem _ _).1 h
  · exact List.mem_append_right _ (List.mem_singleton.2 rfl)
theorem InvA.put {A : Ab} {x : Wx} (h : InvA A) : InvA (aPut A x) := by
  intro z hz
  have hs : rgB A z.loc = if z.loc then A.A1 else A.A0 := rfl
  have hg : rgB (aPut A x) z.loc = if z.loc then (if x.loc then Padd x.snd A.A1 else A.A1) else (if x.loc then A.A0 else Padd x.snd A.A0) := rfl
  rw [hg]
  rcases List.mem_append.1 hz with hz | hz
  · have h1 := h z hz
    rw [hs] at h1
    cases hl : z.loc <;> cases hx : x.loc <;> simp only [hl, Bool.false_eq_true, if_true, if_false] at h1 ⊢ <;> first | exact h1 | exact mem_padd h1
  · obtain rfl := List.mem_singleton.1 hz
    cases hl : z.loc <;> simp only [Bool.false_eq_true, if_true, if_false] <;> exact padd_self
theorem InvA.go {A : Ab} {k : Int × Int} {g : Bool} {n : Int → Int} (h : InvA A) : InvA (aGo A k g n) := by
  intro z hz
  obtain ⟨y, hy, e⟩ := List.mem_map.1 hz
  have h1 := h y hy
  have : z.snd = y.snd ∧ z.loc = y.loc := by
    rw [← e]; split <;> exact ⟨rfl, rfl⟩
  rw [this.1, this.2]
  exact h1
theorem InvA.turn {A : Ab} {loc : Bool} {i : Nat} (h : InvA A) (hi : i < (rgB A loc).length) : InvA (aTurn A loc i) := by
  intro z hz
  have hz' : z ∈ A.W := by cases loc <;> exact hz
  have h1 := h z hz'
  cases loc with
  | false =>
    have hi' : i < A.A0.length := hi
    cases hl : z.loc with
    | false => rw [hl] at h1; exact (turn_perm hi').mem_iff.1 (show z.snd ∈ A.A0 from h1)
    | true => rw [hl] at h1; exact h1
  | true =>
    have hi' : i < A.A1.length := hi
    cases hl : z.loc with
    | true => rw [hl] at h1; exact (turn_perm hi').mem_iff.1 (show z.snd ∈ A.A1 from h1)
    | false => rw [hl] at h1; exact h1
theorem InvA.begin {A : Ab} {loc : Bool} {i : Nat} {k : Int × Int} (h : InvA A) (hi : i < (rgB A loc).length) : InvA (aBegin A loc i k) := by
  have h1 := (h.turn hi).go (k := k) (g := true) (n := fun n => n)
  intro z hz
  exact h1 z hz
theorem InvA.gone {A : Ab} {x : Wx} (h : InvA A) : InvA (aGone A x) := by
  have hd : ∀ z ∈ (aDel A (x.id, x.rc)).W, z.snd ∈ rgB A z.loc := fun z hz => h z (List.mem_filter.1 hz).1
  unfold aGone
  by_cases hl : aLast (aDel A (x.id, x.rc)) x = true
  · rw [if_pos hl]
    intro z hz
    have hz' : z ∈ (aDel A (x.id, x.rc)).W := hz
    have h1 := hd z hz'
    have h2 := List.all_eq_true.1 hl z hz'
    have hg : rgB A z.loc = if z.loc then A.A1 else A.A0 := rfl
    have hg2 : rgB { aDel A (x.id, x.rc) with A0 := if x.loc then (aDel A (x.id, x.rc)).A0 else Pdrop x.snd (aDel A (x.id, x.rc)).A0, A1 := if x.loc then Pdrop x.snd (aDel A (x.id, x.rc)).A1 else (aDel A (x.id, x.rc)).A1 } z.loc = if z.loc then (if x.loc then Pdrop x.snd A.A1 else A.A1) else (if x.loc then A.A0 else Pdrop x.snd A.A0) := rfl
    rw [hg2]
    rw [hg] at h1
    cases e1 : z.loc <;> cases e2 : x.loc <;> simp only [e1, e2, Bool.false_eq_true, if_true, if_false, Bool.not_eq_true', Bool.and_eq_false_iff, decide_eq_false_iff_not, decide_true, decide_false, or_false, Bool.true_eq_false] at h1 h2 ⊢ <;> first | exact h1 | exact mem_pdrop h1 h2
  · rw [if_neg hl]
    intro z hz
    exact hd z hz
theorem InvA.ends {A : Ab} {i : Nat} {x : Wx} {stays : Bool} {n : Int} (h : InvA A) : InvA (aEnd A i x stays n) := by
  have h0 : InvA { A with G := CutG i A.G } := fun z hz => h z hz
  have h1 := h0.go (k := (x.id, x.rc)) (g := false) (n := fun _ => n)
  unfold aEnd
  cases stays with
  | true => exact h1
  | false => exact h1.gone
theorem aGone_W (A : Ab) (x : Wx) : (aGone A x).W = (aDel A (x.id, x.rc)).W := by unfold aGone; dsimp only; split <;> rfl
theorem aGone_G (A : Ab) (x : Wx) : (aGone A x).G = A.G := by unfold aGone; dsimp only; split <;> rfl
theorem aGone_c (A : Ab) (x : Wx) : (aGone A x).c = A.c := by unfold aGone; dsimp only; split <;> rfl
theorem aEnd_G (A : Ab) (i : Nat) (x : Wx) (stays : Bool) (n : Int) : (aEnd A i x stays n).G = CutG i A.G := by
  unfold aEnd; cases stays
  · exact aGone_G _ _
  · rfl
theorem aEnd_c (A : Ab) (i : Nat) (x : Wx) (stays : Bool) (n : Int) : (aEnd A i x stays n).c = A.c := by
  unfold aEnd; cases stays
  · exact aGone_c _ _
  · rfl
theorem aBegin_G (A : Ab) (l : Bool) (i : Nat) (k : Int × Int) : (aBegin A l i k).G = A.G ++ [k] := by cases l <;> rfl
theorem aBegin_c (A : Ab) (l : Bool) (i : Nat) (k : Int × Int) : (aBegin A l i k).c = A.c := by cases l <;> rfl
/-- a new domain's state -/
theorem fr_new {s : Sd} (h : s.Ps = []) (now : Int) (d : ByteArray) : fr s now d = true := by
  have h1 : fp s.Ps d = none := by rw [h]; rfl
  unfold fr vB vN vT
  rw [h1]
  have := V_lo s.c.burst
  simp; omega
theorem tik_new {s : Sd} (h : s.Ps = []) (now : Int) : Tik s now := by
  intro y hy; rw [h] at hy; cases hy
end Go.Proofs.Ytbiahndpfbmoeaa
