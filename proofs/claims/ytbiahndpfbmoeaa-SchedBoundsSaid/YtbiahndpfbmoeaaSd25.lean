/- Two senders in turn: the plain side. No condition. -/
import Derived.Test.YtbiahndpfbmoeaaSd24
namespace Go.Proofs.Ytbiahndpfbmoeaa
open Go.RowKit SatAid

def cnt (c : ByteArray) (W : List Wx) : Nat := (W.filter fun z => decide (z.snd = c)).length
theorem cnt_app (c : ByteArray) (W : List Wx) (x : Wx) : cnt c (W ++ [x]) = cnt c W + (if x.snd = c then 1 else 0) := by
  unfold cnt
  rw [List.filter_append, List.length_append]
  congr 1
  by_cases e : x.snd = c <;> simp [e]
theorem cnt_les {c : ByteArray} {W : List Wx} (hn : (W.map fun z => (z.id, z.rc)).Nodup) {x : Wx} (hx : x ∈ W) : cnt c (Les W (x.id, x.rc)) + (if x.snd = c then 1 else 0) = cnt c W := by
  induction W with
  | nil => cases hx
  | cons a W ih =>
    rw [List.map_cons, List.nodup_cons] at hn
    unfold cnt Les
    rw [List.filter_cons]
    rcases List.mem_cons.1 hx with rfl | hx
    · simp only [decide_true, Bool.not_true, Bool.false_eq_true, if_false]
      have : W.filter (fun z => !decide ((z.id, z.rc) = (x.id, x.rc))) = W := List.filter_eq_self.2 (fun z hz => by
        simp only [Bool.not_eq_true', decide_eq_false_iff_not]
        intro e
        exact hn.1 (List.mem_map.2 ⟨z, hz, e⟩))
      rw [this, List.filter_cons]
      by_cases e : x.snd = c <;> simp [e]
    · have hne : (a.id, a.rc) ≠ (x.id, x.rc) := fun e => hn.1 (List.mem_map.2 ⟨x, hx, e.symm⟩)
      have := ih hn.2 hx
      unfold cnt Les at this
      simp only [hne, decide_false, Bool.not_false, if_true]
      rw [List.filter_cons, List.filter_cons]
      by_cases e : a.snd = c
      · simp only [e, decide_true, if_true, List.length_cons]; omega
      · simp only [e, decide_false, Bool.false_eq_true, if_false]; exact this
theorem cnt_pos {c : ByteArray} {W : List Wx} (h : 0 < cnt c W) : ∃ x ∈ W, x.snd = c := by
  unfold cnt at h
  obtain ⟨x, hx⟩ := List.exists_mem_of_length_pos h
  exact ⟨x, (List.mem_filter.1 hx).1, of_decide_eq_true (List.mem_filter.1 hx).2⟩

theorem nodup_key {W : List Wx} (hn : (W.map fun z => (z.id, z.rc)).Nodup) {x y : Wx} (hx : x ∈ W) (hy : y ∈ W) (h : (x.id, x.rc) = (y.id, y.rc)) : x = y := by
  induction W with
  | nil => cases hx
  | cons a W ih =>
    rw [List.map_cons, List.nodup_cons] at hn
    rcases List.mem_cons.1 hx with rfl | hx2
    · rcases List.mem_cons.1 hy with rfl | hy2
      · rfl
      · exact absurd (h ▸ List.mem_map.2 ⟨y, hy2, rfl⟩) hn.1
    · rcases List.mem_cons.1 hy with rfl | hy2
      · exact absurd (h ▸ List.mem_map.2 ⟨x, hx2, rfl⟩) hn.1
      · exact ih hn.2 hx2 hy2
/-- two senders, each with its domain; and others -/
structure FP (A : Ab) (loc : Bool) (F S dA dB : ByteArray) (a b : Nat) : Prop where
  w : ∀ x ∈ A.W, x.loc = loc ∧ x.go = false ∧ (x.snd = F ↔ x.dom = dA) ∧ (x.snd = S ↔ x.dom = dB) ∧ ((x.snd = F ∨ x.snd = S) → x.nx = 0)
  nd : (A.W.map fun z => (z.id, z.rc)).Nodup
  g : A.G = []
  f : cnt F A.W = a
  s : cnt S A.W = b
  inv : InvA A
theorem FP.put {A : Ab} {loc : Bool} {F S dA dB : ByteArray} {a b : Nat} (h : FP A loc F S dA dB a b) {x : Wx} (hn : ¬ ∃ z ∈ A.W, (z.id, z.rc) = (x.id, x.rc)) (h1 : x.loc = loc) (h2 : x.go = false) (h3 : x.snd = F ↔ x.dom = dA) (h4 : x.snd = S ↔ x.dom = dB) (h5 : (x.snd = F ∨ x.snd = S) → x.nx = 0) :
    FP (aPut A x) loc F S dA dB (a + (if x.snd = F then 1 else 0)) (b + (if x.snd = S then 1 else 0)) := by
  refine ⟨fun z hz => ?_, ?_, h.g, (cnt_app F A.W x).trans (by rw [h.f]), (cnt_app S A.W x).trans (by rw [h.s]), h.inv.put⟩
  · rcases List.mem_append.1 hz with hz | hz
    · exact h.w z hz
    · obtain rfl := List.mem_singleton.1 hz
      exact ⟨h1, h2, h3, h4, h5⟩
  · show ((A.W ++ [_]).map _).Nodup
    rw [List.map_append]
    refine List.nodup_append.2 ⟨h.nd, by simp, fun a ha c hc e => ?_⟩
    obtain ⟨z, hz, rfl⟩ := List.mem_map.1 ha
    obtain rfl := List.mem_singleton.1 hc
    exact hn ⟨z, hz, e⟩
theorem FP.rd {A : Ab} {loc : Bool} {F S dA dB : ByteArray} {a b : Nat} (h : FP A loc F S dA dB a b) {f : ByteArray → Bool} (hf : ∀ d, f d = true) {i : Int} (hi : 0 ≤ i) {x : Wx} (hx : x ∈ A.W) (hs : x.snd = F ∨ x.snd = S) : rdA f loc i x = true := by
  obtain ⟨h1, h2, _, _, h5⟩ := h.w x hx
  unfold rdA
  simp [h1, h2, h5 hs, hi, hf]
theorem FP.any {A : Ab} {loc : Bool} {F S dA dB : ByteArray} {a b : Nat} (h : FP A loc F S dA dB a b) {f : ByteArray → Bool} (hf : ∀ d, f d = true) {i : Int} (hi : 0 ≤ i) (ha : 0 < a) : AnyA A f i := by
  obtain ⟨x, hx, hs⟩ := cnt_pos (c := F) (W := A.W) (by rw [h.f]; exact ha)
  exact ⟨x, hx, by rw [(h.w x hx).1]; exact h.rd hf hi hx (Or.inl hs)⟩
/-- one has its turn, and ends -/
theorem FP.step {A : Ab} {loc : Bool} {F S dA dB : ByteArray} {a b n m : Nat} (h : FP A loc F S dA dB a b) (hFS : F ≠ S) (hr : Fr F S (rgB A loc) n m) (ha : 2 ≤ a) (hb2 : 2 ≤ b) {f : ByteArray → Bool} (hf : ∀ d, f d = true) {i : Int} (h0 : 0 ≤ i) {x y : Wx} {j : Nat} {c : Int} (hb : BestA A f i x) (hi : FiA A f i < (rgB A (LcA A f i)).length)
    (hy : y ∈ (aBegin A (LcA A f i) (FiA A f i) (x.id, x.rc)).W) (hk : (y.id, y.rc) = (x.id, x.rc)) (hj : j = 0) :
    (x.dom = dA ↔ x.snd = F) ∧ (x.dom = dB ↔ x.snd = S) ∧ y.dom = x.dom ∧
    FP (aEnd (aBegin A (LcA A f i) (FiA A f i) (x.id, x.rc)) j y false c) loc F S dA dB (a - (if x.snd = F then 1 else 0)) (b - (if x.snd = S then 1 else 0)) ∧
    Fr F S (rgB (aEnd (aBegin A (LcA A f i) (FiA A f i) (x.id, x.rc)) j y false c) loc) (n + (if x.snd = F then 1 else 0)) (m + (if x.snd = S then 1 else 0)) := by
  have hl : LcA A f i = loc := by
    have := rd_loc hb.rd
    rw [← this]; exact (h.w x hb.mem).1
  have hxw := h.w x hb.mem
  have hinv := h.inv.begin (k := (x.id, x.rc)) hi
  have hW := end_W A (LcA A f i) (FiA A f i) j (x.id, x.rc) y c hk
  have hR := end_R A (LcA A f i) (FiA A f i) j (x.id, x.rc) y c hk loc
  obtain ⟨y0, hy0, ei, er, es, ed, el⟩ := begin_mem hy
  have hyx : y0 = x := by
    exact nodup_key h.nd hy0 hb.mem (by rw [ei, er]; exact hk)
  subst hyx
  have cF := cnt_les (c := F) h.nd hb.mem
  have cS := cnt_les (c := S) h.nd hb.mem
  rw [h.f] at cF
  rw [h.s] at cS
  have hxs := hb.sd
  rw [hl] at hi hxs
  refine ⟨hxw.2.2.1.symm, hxw.2.2.2.1.symm, ed.symm, ⟨fun z hz => ?_, ?_, ?_, ?_, ?_, hinv.ends⟩, ?_⟩
  · rw [hW] at hz; exact h.w z (les_mem.1 hz).1
  · rw [hW]; exact les_nodup h.nd _
  · rw [aEnd_G, aBegin_G, h.g, hj]; rfl
  · rw [hW]; omega
  · rw [hW]; omega
  · rw [hR, hl, if_pos rfl]
    have hasF : Has F (rsA A f loc i) = true := by
      obtain ⟨z, hz, e⟩ := cnt_pos (c := F) (W := A.W) (by rw [h.f]; omega)
      exact (Has_mem _ _).2 (List.mem_map.2 ⟨z, List.mem_filter.2 ⟨hz, h.rd hf h0 hz (Or.inl e)⟩, e⟩)
    have hasS : Has S (rsA A f loc i) = true := by
      obtain ⟨z, hz, e⟩ := cnt_pos (c := S) (W := A.W) (by rw [h.s]; omega)
      exact (Has_mem _ _).2 (List.mem_map.2 ⟨z, List.mem_filter.2 ⟨hz, h.rd hf h0 hz (Or.inr e)⟩, e⟩)
    obtain ⟨t1, t2, t3⟩ := hr.turn hFS hasF hasS (i := FiA A f i) (by unfold FiA; rw [hl]) hi
    rw [← hxs] at t1 t2 t3
    have alone : ∀ c, y0.snd = c → 2 ≤ cnt c A.W → Alone (Les A.W (y0.id, y0.rc)) y = false := fun c e h2 => by
      have hc := cnt_les (c := c) h.nd hb.mem
      rw [if_pos e] at hc
      obtain ⟨z, hz, hzc⟩ := cnt_pos (c := c) (W := Les A.W (y0.id, y0.rc)) (by omega)
      cases hal : Alone (Les A.W (y0.id, y0.rc)) y with
      | false => rfl
      | true =>
        have h1 := List.all_eq_true.1 hal z hz
        have z1 := (h.w z (les_mem.1 hz).1).1
        simp [hzc, z1, ← es, e, ← el, hxw.1] at h1
    by_cases e1 : y0.snd = F
    · have e2 : y0.snd ≠ S := fun e => hFS (e1.symm.trans e)
      rw [if_pos e1, if_neg e2, if_neg]
      · exact t1 e1
      · rintro ⟨_, ha⟩
        rw [alone F e1 (by rw [h.f]; exact ‹2 ≤ a›)] at ha
        cases ha
    · by_cases e2 : y0.snd = S
      · rw [if_neg e1, if_pos e2, if_neg]
        · exact t2 e2
        · rintro ⟨_, ha⟩
          rw [alone S e2 (by rw [h.s]; exact hb2)] at ha
          cases ha
      · rw [if_neg e1, if_neg e2]
        have ht := t3 e1 e2
        split
        · rw [← es]
          unfold Pdrop
          split
          · rename_i hh
            exact ht.cut (Has_ix hh) (by rw [getD_ix (Has_ix hh)]; exact e1) (by rw [getD_ix (Has_ix hh)]; exact e2)
          · exact ht
        · exact ht

theorem FP.next {A : Ab} {loc : Bool} {F S dA dB : ByteArray} {a b n m : Nat} (h : FP A loc F S dA dB a b) (hFS : F ≠ S) (hr : Fr F S (rgB A loc) n m) (ha : 2 ≤ a) (hb2 : 2 ≤ b) {f : ByteArray → Bool} (hf : ∀ d, f d = true) {i : Int} (h0 : 0 ≤ i) {x : Wx} (hb : BestA A f i x) (hi : FiA A f i < (rgB A (LcA A f i)).length) :
    n + (if x.snd = F then 1 else 0) = m + (if x.snd = S then 1 else 0) ∨ n + (if x.snd = F then 1 else 0) = m + (if x.snd = S then 1 else 0) + 1 := by
  have hs := (h.step hFS hr ha hb2 hf h0 (y := { x with go := true }) (j := 0) (c := 0) hb hi (by rw [begin_W]; exact List.mem_map.2 ⟨x, hb.mem, by rw [if_pos rfl]⟩) rfl rfl).2.2.2.2
  rcases hs.2 with ⟨_, e⟩ | ⟨_, e⟩
  · exact Or.inl e
  · exact Or.inr e
/-- no domain is full -/
structure FV (s : Sd) (i : Int) : Prop where
  tik : Tik s i
  b : ∀ d, vB s d = 0
  n : ∀ d, 1 ≤ vN s d
  t : ∀ m d, i ≤ m → m ≤ 1099511627776 → 1 ≤ vT s m d
theorem vT_hi (s : Sd) (n : Int) (d : ByteArray) : vT s n d ≤ V s.c.burst := by
  unfold vT
  split
  · exact Lf_hi
  · exact Int.le_refl _
theorem FV.new {s : Sd} (hp : s.Ps = []) : FV s 0 := by
  have h1 : ∀ d, fp s.Ps d = none := fun d => by rw [hp]; rfl
  refine ⟨tik_new hp 0, fun d => ?_, fun d => ?_, fun m d _ _ => ?_⟩
  · unfold vB; rw [h1]
  · unfold vN; rw [h1]; exact Int.le_refl _
  · unfold vT; rw [h1]; exact V_lo _
theorem FV.fr {s : Sd} {i : Int} (h : FV s i) (hi : i ≤ 1099511627776) (d : ByteArray) : fr s i d = true := by
  have h1 := h.b d
  have h2 := h.n d
  have h3 := h.t i d (Int.le_refl _) hi
  unfold Go.Proofs.Ytbiahndpfbmoeaa.fr
  simp; omega
theorem FV.of {s s' : Sd} {i : Int} (h : FV s i) (hp : s'.Ps = s.Ps) (hc : s'.c = s.c) : FV s' i := by
  refine ⟨by unfold Tik; rw [hp]; exact h.tik, fun d => ?_, fun d => ?_, fun m d h1 h2 => ?_⟩
  · have := h.b d; unfold vB at this ⊢; rw [hp]; exact this
  · have := h.n d; unfold vN at this ⊢; rw [hp]; exact this
  · have := h.t m d h1 h2; unfold vT at this ⊢; rw [hp, hc]; exact this
theorem FV.step {s s1 s2 : Sd} {i : Int} {d0 : ByteArray} {g : Bool} (h : FV s i) (h0 : 0 ≤ i) (hi : i + 1 ≤ 1099511627776) (hb : Vb i d0 s s1) (he : Ve i d0 g s1 s2) (hr : s.c.rate = 100) (hu : s.c.burst = 100) : FV s2 (i + 1) := by
  have hv : V 100 = 100 := rfl
  refine ⟨fun y hy => by have := he.le y hy; omega, fun d => ?_, fun d => ?_, fun m d h1 h2 => ?_⟩
  · rw [he.b, hb.b, h.b]
    split <;> rfl
  · rw [he.n]
    have h3 := h.n d
    split
    · rename_i e
      rw [hb.n, hb.b, if_pos e, h.b]
      have := V8_lo s1.c.win
      unfold En
      simp only [show (0 : Int) < 0 + 1 from by decide, if_true]
      cases g with
      | true => show 1 ≤ min (vN s d + 1) (V8 s1.c.win); omega
      | false => show 1 ≤ max (max (vN s d / 2) (0 + 1 - 1)) 1; omega
    · rw [hb.n]; exact h3
  · rw [he.t m d (by omega) h2, hb.t m d (by omega) h2]
    split
    · have t1 := h.t i d0 (Int.le_refl _) (by omega)
      have t2 := vT_hi s i d0
      rw [hu, hv] at t2
      rw [hr, hu]
      rw [Lf_eq (r := V 100) (u := V 100) (l := vT s i d0 - 1) (t := i) (n := m) (V_lo _) (V_hi _) (V_lo _) (V_hi _) (by omega) (by omega) (by omega) (by omega), hv, C_of (by omega) h2]
      omega
    · exact h.t m d (by omega) h2
end Go.Proofs.Ytbiahndpfbmoeaa
