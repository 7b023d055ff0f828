/- How many are on their way to a domain; how many begin in any ticks: the plain side. No condition. -/
import Derived.Test.YtbiahndpfbmoeaaSd25
namespace Go.Proofs.Ytbiahndpfbmoeaa
open Go.RowKit SatAid

def ky (x : Wx) : Int × Int := (x.id, x.rc)
/-- how many of these are on their way to a domain -/
def cG (A : Ab) (d : ByteArray) : Nat := (A.G.filter fun k => decide (dmA A.W k = d)).length
theorem dm_mem {W : List Wx} (hn : (W.map fun z => (z.id, z.rc)).Nodup) {x : Wx} (hx : x ∈ W) : dmA W (x.id, x.rc) = x.dom := by
  unfold dmA
  cases hf : W.find? (fun z => decide ((z.id, z.rc) = (x.id, x.rc))) with
  | none =>
    rw [List.find?_eq_none] at hf
    exact absurd (by simp) (hf x hx)
  | some z =>
    have e := List.find?_some hf
    simp only [decide_eq_true_eq] at e
    rw [nodup_key hn (List.mem_of_find?_eq_some hf) hx e]
/-- keys' domains are as they were -/
def Same (A A' : Ab) (G : List (Int × Int)) : Prop := ∀ k ∈ G, dmA A'.W k = dmA A.W k
theorem Same.of {A A' : Ab} {G : List (Int × Int)} (hn : (A.W.map fun z => (z.id, z.rc)).Nodup) (hn' : (A'.W.map fun z => (z.id, z.rc)).Nodup) (h : ∀ k ∈ G, ∃ z ∈ A.W, ∃ z' ∈ A'.W, (z.id, z.rc) = k ∧ (z'.id, z'.rc) = k ∧ z'.dom = z.dom) : Same A A' G := by
  intro k hk
  obtain ⟨z, hz, z', hz', e, e', ed⟩ := h k hk
  rw [← e, dm_mem hn hz, e, ← e', dm_mem hn' hz', ed]
theorem cG_same {A A' : Ab} (h : Same A A' A.G) (hg : A'.G = A.G) (d : ByteArray) : cG A' d = cG A d := by
  unfold cG
  rw [hg]
  congr 1
  exact List.filter_congr fun k hk => by rw [h k hk]
theorem cG_more {A A' : Ab} {k : Int × Int} (h : Same A A' A.G) (hg : A'.G = A.G ++ [k]) (d : ByteArray) : cG A' d = cG A d + (if dmA A'.W k = d then 1 else 0) := by
  unfold cG
  rw [hg, List.filter_append, List.length_append]
  have e : A.G.filter (fun k => decide (dmA A'.W k = d)) = A.G.filter (fun k => decide (dmA A.W k = d)) := List.filter_congr fun k hk => by rw [h k hk]
  rw [e]
  congr 1
  by_cases e : dmA A'.W k = d <;> simp [e]
theorem cG_less {A A' : Ab} {i : Nat} {k : Int × Int} (hi : A.G[i]? = some k) (h : Same A A' (CutG i A.G)) (hg : A'.G = CutG i A.G) (d : ByteArray) : cG A' d + (if dmA A.W k = d then 1 else 0) = cG A d := by
  unfold cG
  rw [hg]
  have e : (CutG i A.G).filter (fun k => decide (dmA A'.W k = d)) = (CutG i A.G).filter (fun k => decide (dmA A.W k = d)) := List.filter_congr fun k hk => by rw [h k hk]
  rw [e]
  have hlt : i < A.G.length := (List.getElem?_eq_some_iff.1 hi).1
  have hs : A.G = A.G.take i ++ k :: A.G.drop (i + 1) := by
    have e1 : A.G[i] = k := (List.getElem?_eq_some_iff.1 hi).2
    rw [← e1, ← List.drop_eq_getElem_cons hlt, List.take_append_drop]
  conv => rhs; rw [hs]
  unfold CutG
  rw [List.filter_append, List.filter_append, List.filter_cons, List.length_append, List.length_append]
  by_cases e2 : dmA A.W k = d
  · simp only [e2, decide_true, if_true, List.length_cons]; omega
  · simp only [e2, decide_false, Bool.false_eq_true, if_false]; omega

section
variable {w : World} {p N : Nat} {s : Sd}
theorem SIn.abnd (h : SIn w p s N) : ((ab s).W.map fun z => (z.id, z.rc)).Nodup := by
  rw [List.nodup_iff_pairwise_ne, List.pairwise_map]
  show (s.Ws.map wx).Pairwise _
  rw [List.pairwise_map]
  exact h.keys
theorem SIn.abgin (h : SIn w p s N) : ∀ k ∈ (ab s).G, ∃ x ∈ (ab s).W, (x.id, x.rc) = k ∧ x.go = true := by
  intro k hk
  obtain ⟨x, hx, e1, e2⟩ := h.gin k hk
  exact ⟨wx x, List.mem_map.2 ⟨x, hx, rfl⟩, e1, e2⟩
/-- a window's bounds hold always -/
theorem SIn.wins (h : SIn w p s N) (d : ByteArray) : 1 ≤ vN s d ∧ vN s d ≤ V8 s.c.win ∧ 0 ≤ vB s d ∧ vB s d ≤ vN s d := by
  unfold vN vB
  cases hf : fp s.Ps d with
  | none =>
    have := V8_lo s.c.win
    exact ⟨Int.le_refl _, this, Int.le_refl _, by decide⟩
  | some y =>
    obtain ⟨h1, _⟩ := fp_some hf
    obtain ⟨⟨_, w2, w3, w4, w5⟩, _⟩ := h.pok y h1
    exact ⟨w2, w3, w4, w5⟩
theorem SIn.toks (h : SIn w p s N) {n m : Int} (d : ByteArray) (hn : 0 ≤ n) (hnm : n ≤ m) (hm : m ≤ 1099511627776) : 0 ≤ vT s n d ∧ vT s n d ≤ V s.c.burst ∧ vT s m d ≤ vT s n d + V s.c.rate * (m - n) := by
  have u1 := V_lo s.c.burst
  have hp : 0 ≤ V s.c.rate * (m - n) := Int.mul_nonneg (by have := V_lo s.c.rate; omega) (by omega)
  unfold vT
  cases hf : fp s.Ps d with
  | none => exact ⟨by show 0 ≤ V s.c.burst; omega, Int.le_refl _, by show V s.c.burst ≤ V s.c.burst + _; omega⟩
  | some y =>
    obtain ⟨h1, _⟩ := fp_some hf
    obtain ⟨_, b1, b2, b3, b4, _⟩ := h.pok y h1
    refine ⟨Lf_lo (by omega), Lf_hi, ?_⟩
    show Lf _ _ y.l y.t m ≤ Lf _ _ y.l y.t n + _
    rw [Lf_eq (V_lo _) (V_hi _) (V_lo _) (V_hi _) b1 b2 b3 b4, Lf_eq (V_lo _) (V_hi _) (V_lo _) (V_hi _) b1 b2 b3 b4, C_of hn (by omega), C_of (by omega) hm]
    have h2 : V s.c.rate * max (m - y.t) 0 ≤ V s.c.rate * max (n - y.t) 0 + V s.c.rate * (m - n) := by
      rw [← Int.mul_add]
      exact Int.mul_le_mul_of_nonneg_left (by omega) (by have := V_lo s.c.rate; omega)
    have h3 : 0 ≤ V s.c.rate * max (n - y.t) 0 := Int.mul_nonneg (by have := V_lo s.c.rate; omega) (by omega)
    omega
end

/-- how many of these began for a domain -/
def cD (d : ByteArray) (B : List (Int × ByteArray)) : Nat := (B.filter fun b => decide (b.2 = d)).length
theorem cD_app (d : ByteArray) (B : List (Int × ByteArray)) (b : Int × ByteArray) : cD d (B ++ [b]) = cD d B + (if b.2 = d then 1 else 0) := by
  unfold cD
  rw [List.filter_append, List.length_append]
  congr 1
  by_cases e : b.2 = d <;> simp [e]
def b0 : Int × ByteArray := (0, ByteArray.empty)
/-- what holds between the calls -/
structure BI (s : Sd) (now : Int) (B : List (Int × ByteArray)) : Prop where
  cnt : ∀ d, vB s d = cG (ab s) d
  inv : InvA (ab s)
  tik : Tik s now
  sp : ∀ d k, k < B.length → (cD d (B.drop k) : Int) + vT s now d ≤ V s.c.burst + V s.c.rate * (now - (B.getD k b0).1)
theorem BI.later {w : World} {p N : Nat} {s : Sd} {now m : Int} {B : List (Int × ByteArray)} (h : BI s now B) (hs : SIn w p s N) (h0 : 0 ≤ now) (hm : now ≤ m) (hm2 : m ≤ 1099511627776) : BI s m B := by
  refine ⟨h.cnt, h.inv, fun y hy => Int.le_trans (h.tik y hy) hm, fun d k hk => ?_⟩
  have h1 := h.sp d k hk
  have h2 := (hs.toks d h0 hm hm2).2.2
  have h3 : V s.c.rate * (m - (B.getD k b0).1) = V s.c.rate * (now - (B.getD k b0).1) + V s.c.rate * (m - now) := by rw [← Int.mul_add]; congr 1; omega
  omega
/-- a call that leaves the domains alone, and who is on the way -/
theorem BI.calm {s s' : Sd} {now : Int} {B : List (Int × ByteArray)} (h : BI s now B) (hp : s'.Ps = s.Ps) (hc : s'.c = s.c) (hg : (ab s').G = (ab s).G) (hs : Same (ab s) (ab s') (ab s).G) (hi : InvA (ab s')) : BI s' now B := by
  refine ⟨fun d => ?_, hi, by have := h.tik; unfold Tik at this ⊢; rw [hp]; exact this, fun d k hk => ?_⟩
  · rw [cG_same hs hg, ← h.cnt]; unfold vB; rw [hp]
  · have := h.sp d k hk; unfold vT at this ⊢; rw [hp, hc]; exact this
theorem BI.vq {s s' : Sd} {now : Int} {B : List (Int × ByteArray)} (h : BI s now B) (hn : now ≤ 1099511627776) (ha : ab s' = ab s) (hv : Vq now s s') : BI s' now B := by
  have hc : s'.c = s.c := congrArg Ab.c ha
  refine ⟨fun d => by rw [hv.b, h.cnt, ha], by rw [ha]; exact h.inv, hv.le, fun d k hk => ?_⟩
  rw [hv.t now d (Int.le_refl _) hn, hc]; exact h.sp d k hk
/-- one begins -/
theorem BI.begin {w w' : World} {p N N' : Nat} {s s' : Sd} {now : Int} {B : List (Int × ByteArray)} {l : Bool} {i : Nat} {x : Wx} (h : BI s now B) (hs : SIn w p s N) (hs' : SIn w' p s' N') (h0 : 0 ≤ now) (hn : now ≤ 1099511627776) (hx : x ∈ (ab s).W) (hi : i < (rgB (ab s) l).length) (ha : ab s' = aBegin (ab s) l i (x.id, x.rc)) (hv : Vb now x.dom s s')
    (hT : 0 < vT s now x.dom) : BI s' now (B ++ [(now, x.dom)]) := by
  have hc : s'.c = s.c := by have := congrArg Ab.c ha; rw [aBegin_c] at this; exact this
  have hW : (ab s').W = (ab s).W.map fun z => if (z.id, z.rc) = (x.id, x.rc) then { z with go := true } else z := by rw [ha, begin_W]
  have hsame : ∀ z ∈ (ab s).W, dmA (ab s').W (z.id, z.rc) = z.dom := fun z hz => by
    have hz' : (if (z.id, z.rc) = (x.id, x.rc) then { z with go := true } else z) ∈ (ab s').W := by rw [hW]; exact List.mem_map.2 ⟨z, hz, rfl⟩
    have := dm_mem hs'.abnd hz'
    split at this <;> exact this
  refine ⟨fun d => ?_, by rw [ha]; exact h.inv.begin hi, hv.le, fun d k hk => ?_⟩
  · rw [cG_more (A := ab s) (k := (x.id, x.rc)) (fun k hk => by
      obtain ⟨z, hz, e, _⟩ := hs.abgin k hk
      rw [← e, hsame z hz, dm_mem hs.abnd hz]) (by rw [ha, aBegin_G]), hsame x hx, hv.b, h.cnt]
    by_cases e : d = x.dom
    · rw [if_pos e, if_pos e.symm]; rfl
    · rw [if_neg e, if_neg (fun e2 => e e2.symm)]; rfl
  · have ht := hs.toks d h0 (Int.le_refl now) hn
    have hvt : vT s' now d = if d = x.dom then vT s now d - 1 else vT s now d := by
      rw [hv.t now d (Int.le_refl _) hn]
      by_cases e : d = x.dom
      · subst e
        rw [if_pos rfl, if_pos rfl, Lf_eq (V_lo _) (V_hi _) (V_lo _) (V_hi _) (by omega) (by omega) h0 hn, C_of h0 hn]
        have : max (now - now) 0 = 0 := by omega
        rw [this, Int.mul_zero]
        omega
      · rw [if_neg e, if_neg e]
    rw [hvt, hc]
    have hcd : ∀ C : List (Int × ByteArray), (cD d (C ++ [(now, x.dom)]) : Int) = cD d C + (if d = x.dom then 1 else 0) := fun C => by
      rw [cD_app]
      by_cases e : d = x.dom
      · rw [if_pos e.symm, if_pos e]; rfl
      · rw [if_neg (fun e2 => e e2.symm), if_neg e]; rfl
    by_cases hkl : k < B.length
    · have h1 := h.sp d k hkl
      have e1 : (B ++ [(now, x.dom)]).drop k = B.drop k ++ [(now, x.dom)] := List.drop_append_of_le_length (by omega)
      have e2 : (B ++ [(now, x.dom)]).getD k b0 = B.getD k b0 := by simp [List.getD, List.getElem?_append_left hkl]
      rw [e1, e2, hcd]
      split <;> rename_i e <;> simp only [e, if_true, if_false] at * <;> omega
    · have hk' : k = B.length := by rw [List.length_append] at hk; simp at hk; omega
      subst hk'
      have e1 : (B ++ [(now, x.dom)]).drop B.length = [] ++ [(now, x.dom)] := by simp
      have e2 : (B ++ [(now, x.dom)]).getD B.length b0 = (now, x.dom) := by simp [List.getD]
      rw [e1, e2, hcd]
      have e3 : (cD d [] : Int) = 0 := rfl
      have e4 : now - now = 0 := by omega
      show _ ≤ V s.c.burst + V s.c.rate * (now - now)
      rw [e3, e4, Int.mul_zero]
      split <;> rename_i e <;> simp only [e, if_true, if_false] at * <;> omega
end Go.Proofs.Ytbiahndpfbmoeaa
