/- What the reference's Pick does: the walk. Conditions: there are no more recipients than fit into memory; times do not go back. -/
import Derived.Test.YtbiahndpfbmoeaaSfB
import Derived.BigQuiet
namespace Go.Proofs.Ytbiahndpfbmoeaa
open Go.RowKit SatAid

def oI (b : Bool) : Nat := if b then 1 else 0
theorem sI_oI (b : Bool) : sI b = (oI b : Int) := by cases b <;> rfl
theorem sI_01 (b : Bool) : 0 ≤ sI b ∧ sI b ≤ 1 := by cases b <;> decide
theorem sI_ne {a b : Bool} (h : a ≠ b) : sI a ≠ sI b := by cases a <;> cases b <;> simp_all [sI]
theorem MIn.rfO {w : World} {q N : Nat} {s : Sd} {vl vp : Value} (h : MIn w q s vl vp N) (b : Bool) : RfG w q (15 + oI b) (Hm s vl vp) 56 (if b then s.v1 else s.v0) (rgA s b) := by
  cases b
  · exact ⟨h.head, rfl, h.rg0⟩
  · exact ⟨h.head, rfl, h.rg1⟩
theorem MIn.ringO {w w' : World} {q N : Nat} {s : Sd} {vl vp v' : Value} {A' : List ByteArray} (h : MIn w q s vl vp N) (b : Bool) (hr : RfG w' q (15 + oI b) ((Hm s vl vp).setIfInBounds (15 + oI b) v') 56 v' A') (hk : Kp (fun k => k = q) w w') (hn : ∀ k, v'.ownBlock = some k → w.heap.size ≤ k) (hnd : A'.Nodup) (hl : A'.length ≤ N) :
    MIn w' q (fR s b v' A') vl vp N ∧ St w w' s (fR s b v' A') := by
  refine h.setR b hk ?_ hr.row hn hnd hl
  cases b
  · exact hr.head
  · exact hr.head
theorem MIn.ringOk {w : World} {q N : Nat} {s : Sd} {vl vp : Value} (h : MIn w q s vl vp N) (b : Bool) : (rgA s b).Nodup ∧ (rgA s b).length ≤ N := by
  cases b
  · exact ⟨h.n0, h.l0⟩
  · exact ⟨h.n1, h.l1⟩
def rsT (s : Sd) (lc : Bool) (now : Int) (j : Nat) : List ByteArray := ((s.Ws.take j).filter (rdy s lc now)).map Wt.snd
theorem rsT_step {s : Sd} {lc : Bool} {now : Int} {j : Nat} {z : Wt} (h : s.Ws[j]? = some z) : rsT s lc now (j + 1) = rsT s lc now j ++ (if rdy s lc now z = true then [z.snd] else []) := by
  unfold rsT
  rw [take_succ_get h, List.filter_append, List.map_append]
  congr 1
  by_cases e : rdy s lc now z = true
  · rw [if_pos e, List.filter_cons_of_pos e]; rfl
  · rw [if_neg e, List.filter_cons_of_neg e]; rfl
theorem rsT_len (s : Sd) (lc : Bool) (now : Int) (j : Nat) : (rsT s lc now j).length ≤ j := by
  unfold rsT
  rw [List.length_map]
  exact Nat.le_trans (List.length_filter_le _ _) (by rw [List.length_take]; omega)
theorem rsT_all {s : Sd} {lc : Bool} {now : Int} {j : Nat} (h : s.Ws.length ≤ j) : rsT s lc now j = rsn s lc now := by unfold rsT rsn; rw [List.take_of_length_le h]
theorem rdy_F {s s' : Sd} {lc : Bool} {now : Int} {z : Wt} (h : Vq now s s') (hn2 : now ≤ 1099511627776) (hl : z.loc = lc) : rdF s' now z.go z.nx z.dom = rdy s lc now z := by
  unfold rdF fr rdy
  rw [h.b, h.n, h.t now z.dom (Int.le_refl _) hn2, hl]
  simp
/-- what the walk keeps from call to call -/
structure PkI (w w' : World) (q N : Nat) (s s' : Sd) (vl vp' : Value) (now : Int) (b4 : Nat) : Prop where
  mi : MIn w' q s' vl vp' N
  st : St w w' s s'
  ab : ab s' = ab s
  vq : Vq now s s'
  ws : s'.Ws = s.Ws
  dd : s'.D = s.D
  lo : Loc w' s' b4 (.cells #[.int .i64 0, .int .i64 0, .string ByteArray.empty] 66)
  lb : ∀ ao cap, s.c.lv = .slice ao s.c.L.length cap → s.c.L ≠ [] → ∀ bb off, ao = some ⟨bb, off, none⟩ → bb < w.heap.size
  tc : ∀ d, Tch s now d → Tch s' now d
theorem PkI.calm {w w' w1 : World} {q N : Nat} {s s' : Sd} {vl vp' : Value} {now : Int} {b4 : Nat} (h : PkI w w' q N s s' vl vp' now b4) (hk : Kp (fun _ => False) w' w1) : PkI w w1 q N s s' vl vp' now b4 :=
  ⟨h.mi.calm hk, h.st.calm hk, h.ab, h.vq, h.ws, h.dd, h.lo.calm hk, h.lb, h.tc⟩
theorem PkI.next {w w' w1 : World} {q N : Nat} {s s' s1 : Sd} {vl vp' vp1 : Value} {now : Int} {b4 : Nat} (h : PkI w w' q N s s' vl vp' now b4) (hm : MIn w1 q s1 vl vp1 N) (ht : St w' w1 s' s1) (ha : Go.Proofs.Ytbiahndpfbmoeaa.ab s1 = Go.Proofs.Ytbiahndpfbmoeaa.ab s') (hv : Vq now s' s1) (hw : s1.Ws = s'.Ws) (hd : s1.D = s'.D) (ht2 : ∀ d, Tch s' now d → Tch s1 now d) : PkI w w1 q N s s1 vl vp1 now b4 :=
  ⟨hm, h.st.trans ht, ha.trans h.ab, h.vq.trans hv, hw.trans h.ws, hd.trans h.dd, h.lo.next ht (congrArg Ab.c ha), h.lb, fun d hd => ht2 d (h.tc d hd)⟩
theorem PkI.past {w w' w1 : World} {q N : Nat} {s s' : Sd} {vl vp' : Value} {now : Int} {b4 : Nat} {S : Nat → Prop} (h : PkI w w' q N s s' vl vp' now b4) (hk : Kp S w' w1) (hS : ∀ k, S k → w.heap.size ≤ k ∧ s'.col k = none ∧ k ≠ b4) : PkI w w1 q N s s' vl vp' now b4 := by
  have hc : s'.c = s.c := congrArg Ab.c h.ab
  refine ⟨h.mi.keep hk (fun k e e2 => by rw [(hS k e2).2.1] at e; cases e) (fun ao cap e hne bb off ea e2 => ?_), h.st.past hk (fun k e => (hS k e).1), h.ab, h.vq, h.ws, h.dd, ⟨hk.keep h.lo.cells (fun e => (hS _ e).2.2 rfl), h.lo.no, h.lo.ne⟩, h.lb, h.tc⟩
  rw [hc] at e hne
  have h1 := h.lb ao cap e hne bb off ea
  have h2 := (hS bb e2).1
  omega
theorem MIn.lb {w : World} {q N : Nat} {s : Sd} {vl vp : Value} (h : MIn w q s vl vp N) : ∀ ao cap, s.c.lv = .slice ao s.c.L.length cap → s.c.L ≠ [] → ∀ bb off, ao = some ⟨bb, off, none⟩ → bb < w.heap.size := by
  intro ao cap e hne bb off ea
  obtain ⟨ao2, cap2, e1, e2, _⟩ := h.loc
  rw [e1] at e
  simp only [Value.slice.injEq] at e
  obtain ⟨rfl, _, rfl⟩ := e
  obtain ⟨b', off', e', hb', _⟩ := e2 0 (List.length_pos_iff.2 hne)
  rw [ea] at e'; cases e'
  exact hb'
/-- a row of names, beside the scheduler -/
structure NmI (w w' : World) (s' : Sd) (v : Value) (R : List ByteArray) (b4 : Nat) : Prop where
  own : Own w' 9 1 v R.length (Sc R)
  fr : ∀ k, v.ownBlock = some k → w.heap.size ≤ k ∧ s'.col k = none ∧ k ≠ b4
theorem NmI.next {w w' w1 : World} {s' s1 : Sd} {v : Value} {R : List ByteArray} {b4 : Nat} (h : NmI w w' s' v R b4) (st : St w' w1 s' s1) : NmI w w1 s1 v R b4 :=
  ⟨h.own.keep st.kp (fun k e e2 => by rw [(h.fr k e).2.1] at e2; cases e2), fun k e => ⟨(h.fr k e).1, st.none (h.own.lt e) (h.fr k e).2.1, (h.fr k e).2.2⟩⟩
theorem NmI.calm {w w' w1 : World} {s' : Sd} {v : Value} {R : List ByteArray} {b4 : Nat} (h : NmI w w' s' v R b4) (hk : Kp (fun _ => False) w' w1) : NmI w w1 s' v R b4 := ⟨h.own.keep hk (fun _ _ h => h), h.fr⟩
theorem NmI.app {w w' w2 w3 : World} {q N : Nat} {s s' : Sd} {vl vp' v v' : Value} {now : Int} {b4 : Nat} {R : List ByteArray} {x : ByteArray} (h : NmI w w' s' v R b4) (hp : PkI w w' q N s s' vl vp' now b4) (h1 : Kp (fun _ => False) w' w2) (ho : Own w3 9 1 v' (R.length + 1) (Sc R ++ [.string x])) (hk : Kp (In v) w2 w3) (hs : SameOrNew w2 v v') :
    NmI w w3 s' v' (R ++ [x]) b4 ∧ PkI w w3 q N s s' vl vp' now b4 := by
  refine ⟨⟨?_, fun k e => ?_⟩, hp.past ((h1.mono (fun _ _ h => h.elim)).trans hk) (fun k e => h.fr k e)⟩
  · rw [List.length_append, Sc_snoc]; exact ho
  · rcases hs with e1 | e1
    · exact h.fr k (e1 ▸ e)
    · have h2 := e1 k e
      have h3 := h1.size
      have h4 := hp.st.kp.size
      have h5 := lt_of_block hp.lo.cells
      refine ⟨by omega, ?_, by omega⟩
      cases hc : s'.col k with
      | none => rfl
      | some c => have := hp.mi.lt k (by rw [hc]; rfl); omega
/-- is it one that may be picked? -/
def mtc (s : Sd) (lc : Bool) (now : Int) (nm : ByteArray) (z : Wt) : Prop := rdy s lc now z = true ∧ z.snd = nm
/-- the best of the first j -/
def BestT (s : Sd) (lc : Bool) (now : Int) (nm : ByteArray) (j : Nat) (b : Int) : Prop :=
  (b = -1 ∧ ∀ (t : Nat) (z : Wt), t < j → s.Ws[t]? = some z → ¬ mtc s lc now nm z) ∨
  (∃ (bn : Nat) (x : Wt), b = bn ∧ s.Ws[bn]? = some x ∧ mtc s lc now nm x ∧ ∀ (t : Nat) (z : Wt), t < j → s.Ws[t]? = some z → mtc s lc now nm z → 0 ≤ Le2 z x)
section
variable {s : Sd} {lc : Bool} {now : Int} {nm : ByteArray} {j bn : Nat} {b : Int} {z x : Wt}
theorem BestT.skip (h : BestT s lc now nm j b) (hz : s.Ws[j]? = some z) (hm : ¬ mtc s lc now nm z) : BestT s lc now nm (j + 1) b := by
  rcases h with ⟨h1, h2⟩ | ⟨bn, x, h1, h2, h3, h5⟩
  · refine Or.inl ⟨h1, fun t y ht hy => ?_⟩
    by_cases e : t = j
    · subst e; rw [hz] at hy; cases hy; exact hm
    · exact h2 t y (by omega) hy
  · refine Or.inr ⟨bn, x, h1, h2, h3, fun t y ht hy hmy => ?_⟩
    by_cases e : t = j
    · subst e; rw [hz] at hy; cases hy; exact absurd hmy hm
    · exact h5 t y (by omega) hy hmy
/-- the one at j is not better -/
theorem BestT.worse (h : BestT s lc now nm j (bn : Int)) (hz : s.Ws[j]? = some z) (hx : s.Ws[bn]? = some x) (hl : 0 ≤ Le2 z x) : BestT s lc now nm (j + 1) (bn : Int) := by
  rcases h with ⟨h1, h2⟩ | ⟨bn', x', h1, h2, h3, h5⟩
  · omega
  · obtain rfl : bn = bn' := by omega
    rw [hx] at h2; cases h2
    refine Or.inr ⟨bn, x, rfl, hx, h3, fun t y ht hy hmy => ?_⟩
    by_cases e : t = j
    · subst e; rw [hz] at hy; cases hy; exact hl
    · exact h5 t y (by omega) hy hmy
theorem Le2_self (z : Wt) : 0 ≤ Le2 z z := by rw [Le2_nn]; omega
theorem Le2_trans {a b c : Wt} (h1 : 0 ≤ Le2 a b) (h2 : 0 ≤ Le2 b c) : 0 ≤ Le2 a c := by rw [Le2_nn] at *; omega
theorem Le2_lt {a b : Wt} (h : Le2 a b < 0) : 0 ≤ Le2 b a := by rw [Le2_neg] at h; rw [Le2_nn]; omega
/-- the one at j is the first, or better -/
theorem BestT.first (h : BestT s lc now nm j (-1)) (hz : s.Ws[j]? = some z) (hm : mtc s lc now nm z) : BestT s lc now nm (j + 1) (j : Int) := by
  rcases h with ⟨h1, h2⟩ | ⟨bn', x', h1, _⟩
  · refine Or.inr ⟨j, z, rfl, hz, hm, fun t y hty hy hmy => ?_⟩
    by_cases e : t = j
    · subst e; rw [hz] at hy; cases hy; exact Le2_self _
    · exact absurd hmy (h2 t y (by omega) hy)
  · omega
theorem BestT.better (h : BestT s lc now nm j (bn : Int)) (hz : s.Ws[j]? = some z) (hx : s.Ws[bn]? = some x) (hm : mtc s lc now nm z) (hl : Le2 z x < 0) : BestT s lc now nm (j + 1) (j : Int) := by
  rcases h with ⟨h1, h2⟩ | ⟨bn', x', h1, h2, h3, h5⟩
  · omega
  · obtain rfl : bn = bn' := by omega
    rw [hx] at h2; cases h2
    refine Or.inr ⟨j, z, rfl, hz, hm, fun t y hty hy hmy => ?_⟩
    by_cases e : t = j
    · subst e; rw [hz] at hy; cases hy; exact Le2_self _
    · exact Le2_trans (h5 t y (by omega) hy hmy) (Le2_lt hl)
end
/-- a world of a class -/
structure GW (G : World → Prop) where
  w : World
  ok : G w
theorem region_class {P : Program} {id : Nat} {Q : Exit → Act → World → Prop} {a : Act} {w : World} {l : List Oper} (G : World → Prop) (hm : P.follows .mixedOrders = true) (hB : Region.lexB .any l.toArray = true) (hC : G w.drew)
    (h : wpQuiet P l.toArray (fun w' => ∃ i : GW G, w' = i.w) (fun a' => ∀ w', (∃ i : GW G, w' = i.w) → Q .normal a' w') l a) : (Code.region id l.toArray true).wp P Q a w :=
  wp_region_quiet (C := fun w' => ∃ i : GW G, w' = i.w) hm hB ⟨⟨w.drew, hC⟩, rfl⟩ (by simpa using h)
theorem side_class {G : World → Prop} (b : Bool) (i : GW G) : Calls Try.prog 49 #[.bool b] i.w fun e w' => e = .returned (.int .i64 (sI b)) ∧ ∃ i' : GW G, w' = i'.w :=
  (fside_any b i.w).mono fun _ _ ⟨h1, h2⟩ => ⟨h1, i, h2.symm⟩
/-- the class of the walk's worlds -/
def GP (w : World) (q N : Nat) (s : Sd) (vl : Value) (now : Int) (b4 b14 : Nat) (o : Obj) (x : World) : Prop := ∃ s5 vp5, PkI w x q N s s5 vl vp5 now b4 ∧ Loc x s5 b14 o
theorem ready_class {w : World} {q N : Nat} {s0 s : Sd} {vl : Value} {now : Int} {b4 b14 : Nat} {o : Obj} (z : Wt) (lc r : Bool) (hv : Vq now s0 s) (hz : z.dom ∈ s.D) (hl : z.loc = lc) (hr : rdy s0 lc now z = r) (hn : 0 ≤ now) (hn2 : now ≤ 1099511627776) (hN : N ≤ 1000000) (i : GW (GP w q N s vl now b4 b14 o)) :
    Calls Try.prog 57 #[.pointer (some ⟨q, 0, none⟩), .agg #[.int .i64 z.id, .int .i64 z.rc, .int .i64 z.nx, .string z.snd, .string z.dom, .bool z.loc, .bool z.go], .int .i64 now] i.w fun e w' => e = .returned (.bool r) ∧ ∃ i' : GW (GP w q N s vl now b4 b14 o), w' = i'.w := by
  obtain ⟨s5, vp5, hp, ho⟩ := i.ok
  refine (fready_any q N s5 vl vp5 z.id z.rc z.nx z.snd z.dom z.loc z.go now i.w hp.mi (by rw [hp.dd]; exact hz) hp.vq.le hn hn2 hN).mono ?_
  rintro e w' ⟨s6, vp6, rfl, h6, st6, ab6, ws6, dd6, vq6, _, tc6⟩
  exact ⟨by rw [rdy_F (hv.trans hp.vq) hn2 hl, hr], ⟨w', s6, vp6, hp.next h6 st6 ab6 vq6 ws6 dd6 tc6, ho.next st6 (congrArg Ab.c ab6)⟩, rfl⟩
set_option maxRecDepth 100000 in
set_option maxHeartbeats 12800000 in
theorem fpick_any (q N : Nat) (s : Sd) (vl vp : Value) (n now : Int) (w : World) (h : MIn w q s vl vp N) (ht : Tik s now) (hC : C n = now) (hN : N ≤ 1000000) :
    Calls Try.prog 31 #[.pointer (some ⟨q, 0, none⟩), .int .i64 n] w (FPick q N s now w) := by
  have hn : 0 ≤ now := by rw [← hC]; exact C_lo _
  have hn2 : now ≤ 1099511627776 := by rw [← hC]; exact C_hi _
  obtain ⟨ao, cap, rfl, _, _, _⟩ := lrow_own h.lst
  have hl : s.Ws.length ≤ 1000000 := Nat.le_trans h.lw hN
  have H := Lib.hid h; have HT := Lib.hid ht; have HC := Lib.hid hC; clear h ht hC
  go_enter Try.func31, Try.ntmps31
  go_wp2_with fail
  refine (rclamp_any n _).mono ?_; rintro e w1 ⟨rfl, rfl⟩
  rw [HC.out]
  have hk0 : Kp (fun _ => False) w (w.alloc (.cells #[.int .i64 0, .int .i64 0, .string ByteArray.empty] 66)) := (by repeat (first | exact Kp.refl _ _ | apply Kp.drew | apply Kp.drewN | refine Kp.setCell ?_ _ _ (Or.inl rfl) | apply Kp.alloc))
  have hr0 := heap_new (w := w) (.cells #[.int .i64 0, .int .i64 0, .string ByteArray.empty] 66)
  obtain ⟨w0, hw0⟩ : ∃ w0, w0 = w.alloc (.cells #[.int .i64 0, .int .i64 0, .string ByteArray.empty] 66) := ⟨_, rfl⟩
  obtain ⟨b4, hb4⟩ : ∃ b, b = w.heap.size := ⟨_, rfl⟩
  rw [show ({ data := #[] } : ByteArray) = ByteArray.empty from rfl, ← hw0]
  rw [← hw0] at hk0 hr0
  rw [← hb4] at hr0 ⊢
  have HP0 := Lib.hid (show PkI w w0 q N s s (.slice ao s.Ws.length cap) vp now b4 from ⟨H.out.calm hk0, St.of hk0 (fun _ _ h => h.elim) rfl, rfl, Vq.refl HT.out, rfl, rfl, H.out.local (Nat.le_of_eq hb4.symm) hr0, H.out.lb, fun _ h => h⟩)
  have HB4 := Lib.hid hb4
  clear hw0 hk0 hr0 hb4
  go_wp2_with fail
  go_loopg [6, 7, 8, 9, 10, 11, 12, 13, 14, 15, 16, 17] 2 (fun k i _ _ _ _ _ _ _ _ _ _ _ wr => ∃ (j : Nat) (s1 : Sd) (vp1 : Value), k = 2 - j ∧ j ≤ 2 ∧ i = .int .i64 ((j : Int) + 1) ∧ PkI w wr q N s s1 (.slice ao s.Ws.length cap) vp1 now b4 ∧ (1 ≤ j → ¬ pk s now (!s.last)) ∧ (2 ≤ j → ¬ pk s now s.last))
  case atStart => exact ⟨0, s, vp, rfl, by omega, rfl, HP0.out, fun h => absurd h (by omega), fun h => absurd h (by omega)⟩
  case round =>
    obtain ⟨j, s1, vp1, hk, hj, rfl, hpi, hp1, hp2⟩ := hrel
    have HKk := Lib.hid hk; have HPI := Lib.hid hpi; have HP1 := Lib.hid hp1; have HP2 := Lib.hid hp2
    clear hk hpi hp1 hp2
    by_cases hlt : j < 2
    · have c17 : wr.cell? ⟨q, 17, none⟩ = some (.int .i64 (sI s.last)) := (cell_of HPI.out.mi.head 17).trans (by show some (Value.int .i64 (sI s1.last)) = _; rw [show s1.last = s.last from congrArg Ab.last HPI.out.ab])
      obtain ⟨lc, hlc⟩ : ∃ lc, lc = (if j = 0 then !s.last else s.last) := ⟨_, rfl⟩
      obtain ⟨sl1, sl2⟩ := sI_01 s.last
      have q1 : (j : Int) + 1 ≤ 2 := by omega
      have q2 : (0 : Int) ≤ (j : Int) + 1 := by omega
      have em : (sI s.last + ((j : Int) + 1)) % 2 = sI lc := by
        rw [hlc]
        match j, hlt with
        | 0, _ => cases s.last <;> decide
        | 1, _ => cases s.last <;> decide
      have HLC := Lib.hid hlc
      clear hlc
      go_wp2_with fail
      rw [em]
      clear em q1 q2 sl1 sl2 c17
      go_loopg [8, 9] s.Ws.length (fun k v i w2 => ∃ (j2 : Nat) (s2 : Sd) (vp2 : Value), k = s.Ws.length - j2 ∧ j2 ≤ s.Ws.length ∧ i = .int .i64 j2 ∧ PkI w w2 q N s s2 (.slice ao s.Ws.length cap) vp2 now b4 ∧ NmI w w2 s2 v (rsT s lc now j2) b4 ∧ ∀ (t : Nat) (y : Wt), t < j2 → s.Ws[t]? = some y → rdy s lc now y = true → Tch s2 now y.dom)
      case atStart => exact ⟨0, s1, vp1, rfl, Nat.zero_le _, rfl, HPI.out, ⟨Own.nil _ _ _, (fun k e => by simp [Value.ownBlock] at e)⟩, fun t y ht => absurd ht (Nat.not_lt_zero _)⟩
      case round =>
        obtain ⟨j2, s2, vp2, hk, hj2, rfl, hpi2, hnm, htc⟩ := hrel
        have HTC := Lib.hid htc
        have HK2 := Lib.hid hk; have HPI2 := Lib.hid hpi2; have HNM := Lib.hid hnm
        have c12 := (cell_of hpi2.mi.head 12).trans (show (Hm s2 (.slice ao s.Ws.length cap) vp2)[12]? = some (Value.slice ao s.Ws.length cap) from rfl)
        clear hk hpi2 hnm htc
        by_cases hlt2 : j2 < s.Ws.length
        · as_aux_lemma =>
            obtain ⟨z, hz⟩ : ∃ z, s.Ws[j2]? = some z := ⟨_, List.getElem?_eq_getElem hlt2⟩
            obtain ⟨ao2, cap2, ev, hrow, _, _⟩ := lrow_own HPI2.out.mi.lst
            rw [HPI2.out.ws] at ev
            simp only [Value.slice.injEq] at ev
            obtain ⟨rfl, _, rfl⟩ := ev
            obtain ⟨g, rfl, hg, z0, z1, z2, z3', z4, z5, z6⟩ := hrow j2 z (by rw [HPI2.out.ws]; exact hz)
            have HZ := Lib.hid hz
            have hzm := List.mem_of_getElem? hz
            have hzd : z.dom ∈ s2.D := by rw [HPI2.out.dd]; exact H.out.wfs z hzm
            have HZD := Lib.hid hzd
            have q1 : (0 : Int) ≤ (j2 : Int) := by omega
            have q2 : (j2 : Int) < (s.Ws.length : Int) := by omega
            have ej : IntKind.i64.wrap ((j2 : Int) + 1) = ((j2 + 1 : Nat) : Int) := by rw [IntWalk.i64_in _ (by omega)]; omega
            have HSTEP := Lib.hid (rsT_step (s := s) (lc := lc) (now := now) hz)
            clear hz hrow hzm hzd
            by_cases e : z.loc = lc
            · have bb : (sI z.loc == sI lc) = true := by rw [e]; exact beq_self_eq_true _
              have bb' : sI z.loc = sI lc := by rw [e]
              have HE := Lib.hid e
              clear e
              go_wp2_with fail
              refine (fside_any z.loc _).mono ?_; rintro e w3 ⟨rfl, rfl⟩
              go_wp2_with fail
              refine (fready_any q N s2 _ vp2 z.id z.rc z.nx z.snd z.dom z.loc z.go now _ HPI2.out.mi HZD.out HPI2.out.vq.le hn hn2 hN).mono ?_; rintro e w3 ⟨s3, vp3, rfl, h3, st3, ab3, ws3, dd3, vq3, tr3, tc3⟩
              rw [rdy_F HPI2.out.vq hn2 HE.out] at tr3 ⊢
              have HT3 := Lib.hid (show ∀ (t : Nat) (y : Wt), t < j2 + 1 → s.Ws[t]? = some y → rdy s lc now y = true → Tch s3 now y.dom from fun t y ht hy hr => by
                by_cases e : t = j2
                · subst e; rw [HZ.out] at hy; cases hy; exact tr3 hr
                · exact tc3 _ (HTC.out t y (by omega) hy hr))
              have HPI3 := Lib.hid (HPI2.out.next h3 st3 ab3 vq3 ws3 dd3 tc3)
              have HNM3 := Lib.hid (HNM.out.next st3)
              clear h3 st3 ab3 vq3 ws3 dd3 tc3 tr3 c12 z0 z1 z2 z3' z4 z5 z6
              cases hrd : rdy s lc now z with
              | true =>
                have HF := Lib.hid (show rsT s lc now (j2 + 1) = rsT s lc now j2 ++ [z.snd] from by rw [HSTEP.out, if_pos hrd])
                have c12 := (cell_of HPI3.out.mi.head 12).trans (show (Hm s3 (.slice (some ⟨g, 0, none⟩) s.Ws.length cap) vp3)[12]? = some (Value.slice (some ⟨g, 0, none⟩) s.Ws.length cap) from rfl)
                obtain ⟨ao2, cap2, ev, hrow, _, _⟩ := lrow_own HPI3.out.mi.lst
                rw [HPI3.out.ws] at ev
                simp only [Value.slice.injEq] at ev
                obtain ⟨rfl, _, rfl⟩ := ev
                obtain ⟨g', eg, hg', _, _, _, z3', _, _, _⟩ := hrow j2 z (by rw [HPI3.out.ws]; exact HZ.out)
                simp only [Option.some.injEq, Addr.mk.injEq] at eg
                obtain ⟨rfl, _⟩ := eg
                have hrl := rsT_len s lc now j2
                obtain ⟨i0, hi, hi0, hi1, hi2⟩ := info_parts str_info
                clear hrow hrd
                go_wp2_with (at_builtin; refine wpList_append_prec _ rfl _ _ 24 rfl 9 i0 _ 1 16 Try.underlying24 hi hi0 hi1 hi2 rfl (by decide) _ (rsT s lc now j2).length (Sc (rsT s lc now j2)) rfl (HNM3.out.own.alloc _) (some ⟨w3.heap.size, 0, none⟩) 1 1 [.string z.snd] rfl (fun h => by cases h) rfl lit_news one_string (by unfold maxLen; omega) (by omega) ?_; intro v5 w5 hown5 hk5 hsn5 _; have hk5' : Kp (In u8) (w3.alloc (.cells #[.string z.snd] 9)) w5 := hk5; have hsn5' : SameOrNew (w3.alloc (.cells #[.string z.snd] 9)) u8 v5 := hsn5; have HAP := Lib.hid (HNM3.out.app HPI3.out (by repeat (first | exact Kp.refl _ _ | apply Kp.drew | apply Kp.drewN | refine Kp.setCell ?_ _ _ (Or.inl rfl) | apply Kp.alloc)) hown5 hk5' hsn5'); clear hown5 hk5 hsn5 hk5' hsn5')
                go_roundg (s.Ws.length - (j2 + 1))
                case measure => rw [HK2.out]; omega
                case rel => exact ⟨j2 + 1, s3, vp3, rfl, by omega, rfl, HAP.out.2, by rw [HF.out]; exact HAP.out.1, HT3.out⟩
              | false =>
                have HF := Lib.hid (show rsT s lc now (j2 + 1) = rsT s lc now j2 from by rw [HSTEP.out, if_neg (by rw [hrd]; exact Bool.false_ne_true), List.append_nil])
                clear hrd
                go_wp2_with fail
                go_roundg (s.Ws.length - (j2 + 1))
                case measure => rw [HK2.out]; omega
                case rel => exact ⟨j2 + 1, s3, vp3, rfl, by omega, rfl, HPI3.out, by rw [HF.out]; exact HNM3.out, HT3.out⟩
            · have bb : (sI z.loc == sI lc) = false := by have := sI_ne e; simp [this]
              have bb' : ¬ sI z.loc = sI lc := sI_ne e
              have HF := Lib.hid (show rsT s lc now (j2 + 1) = rsT s lc now j2 from by
                rw [HSTEP.out, if_neg, List.append_nil]
                unfold rdy; simp [e])
              have HTN := Lib.hid (show ∀ (t : Nat) (y : Wt), t < j2 + 1 → s.Ws[t]? = some y → rdy s lc now y = true → Tch s2 now y.dom from fun t y ht hy hr => by
                by_cases e2 : t = j2
                · subst e2; rw [HZ.out] at hy; cases hy
                  unfold rdy at hr
                  rw [Bool.and_eq_true] at hr
                  exact absurd (of_decide_eq_true hr.1) e
                · exact HTC.out t y (by omega) hy hr)
              clear e
              go_wp2_with fail
              refine (fside_any z.loc _).mono ?_; rintro e w3 ⟨rfl, rfl⟩
              go_wp2_with fail
              go_roundg (s.Ws.length - (j2 + 1))
              case measure => rw [HK2.out]; omega
              case rel => exact ⟨j2 + 1, s2, vp2, rfl, by omega, rfl, HPI2.out, by rw [HF.out]; exact HNM.out, HTN.out⟩
        · obtain ⟨av, cv, hav⟩ := HNM.out.own.slice
          rw [rsT_all (by omega)] at hav
          subst hav
          obtain ⟨sl1, sl2⟩ := sI_01 lc
          have sl3 : sI lc < 2 := by omega
          have sl4 : (sI lc).toNat = oI lc := by rw [sI_oI]; rfl
          have hrn : rsT s lc now j2 = rsn s lc now := rsT_all (by omega)
          have HRD := Lib.hid (show SRd wr av (rsn s lc now) from SRd.own (by have h := HNM.out.own; rw [hrn] at h; exact h) rfl)
          have hrl : (rsn s lc now).length ≤ 1000000 := by rw [← hrn]; exact Nat.le_trans (rsT_len _ _ _ _) (by omega)
          have hrg := rgA_ab (loc := lc) HPI2.out.ab
          obtain ⟨ok1, ok2⟩ := HPI2.out.mi.ringOk lc
          rw [hrg] at ok1 ok2
          have HRO := Lib.hid (show RfG wr q (15 + oI lc) (Hm s2 (.slice ao s.Ws.length cap) vp2) 56 (if lc then s2.v1 else s2.v0) (rgA s lc) from by have h := HPI2.out.mi.rfO lc; rw [hrg] at h; exact h)
          have HOK := Lib.hid ok1; have HOK2 := Lib.hid ok2; have HRG := Lib.hid hrg
          clear hrn hrg ok1 ok2
          go_wp2_with fail
          refine (gnext_any q (15 + oI lc) _ _ _ (rgA s lc) (rsn s lc now) av cv _ HRO.out HRD.out (by have := HOK2.out; omega) (by omega) HOK.out).mono ?_; intro e w3 hq
          by_cases hpk : pk s now lc
          · unfold Gnext at hq
            rw [if_pos (show Fx (rsn s lc now) (rgA s lc) < (rgA s lc).length from hpk)] at hq
            obtain ⟨rfl, ⟨v3, hr3, hn3⟩, hk3⟩ := hq
            have hpk' : Fx (rsn s lc now) (rgA s lc) < (rgA s lc).length := hpk
            obtain ⟨h3, st3⟩ := HPI2.out.mi.ringO lc hr3 hk3 hn3 ((turn_perm hpk').nodup HOK.out) (by rw [Turn_len hpk']; exact HOK2.out)
            obtain ⟨nm, hnm⟩ : ∃ nm, nm = (rgA s lc).getD (Fx (rsn s lc now) (rgA s lc)) ByteArray.empty := ⟨_, rfl⟩
            obtain ⟨s3, hs3⟩ : ∃ s3, s3 = fR s2 lc v3 (Turn (Fx (rsn s lc now) (rgA s lc)) (rgA s lc)) := ⟨_, rfl⟩
            rw [← hnm]
            rw [← hs3] at h3 st3
            have HS3 := Lib.hid (show s3.Ws = s.Ws ∧ s3.D = s.D ∧ s3.c = s.c ∧ s3.Ps = s2.Ps ∧ ab s3 = aTurn (ab s) lc (Fx (rsn s lc now) (rgA s lc)) from by
              have e1 := HPI2.out.ab
              have e2 : s2.c = s.c := congrArg Ab.c e1
              have e0 : rgB (ab s) lc = rgA s lc := rfl
              have e3 : ab s3 = aTurn (ab s2) lc (Fx (rsn s lc now) (rgA s lc)) := by
                rw [hs3]
                have hg := HRG.out
                unfold aTurn fR rgA at *
                cases lc
                · simp only [Bool.false_eq_true, if_false] at hg ⊢
                  rw [← hg]; rfl
                · simp only [if_true] at hg ⊢
                  rw [← hg]; rfl
              refine ⟨?_, ?_, ?_, ?_, by rw [e3, e1]⟩
              · rw [← HPI2.out.ws, hs3]; unfold fR; split <;> rfl
              · rw [← HPI2.out.dd, hs3]; unfold fR; split <;> rfl
              · rw [← e2, hs3]; unfold fR; split <;> rfl
              · rw [hs3]; unfold fR; split <;> rfl)
            have HVS := Lib.hid (show Vq now s s3 from HPI2.out.vq.trans (Vq.of HS3.out.2.2.2.1 (by rw [HS3.out.2.2.1]; exact (congrArg Ab.c HPI2.out.ab).symm) HPI2.out.vq.le))
            have HLO3 := Lib.hid (HPI2.out.lo.next st3 (by rw [HS3.out.2.2.1]; exact (congrArg Ab.c HPI2.out.ab).symm))
            have HST3 := Lib.hid (HPI2.out.st.trans st3)
            have HPJ := Lib.hid (show PkI w3 w3 q N s3 s3 (.slice ao s.Ws.length cap) vp2 now b4 from ⟨h3, St.refl _ _, rfl, Vq.refl HVS.out.le, rfl, rfl, HLO3.out, h3.lb, fun _ h => h⟩)
            have HTCH := Lib.hid (show ∀ y ∈ s.Ws, rdy s lc now y = true → Tch s3 now y.dom from fun y hy hr => by
              obtain ⟨t, ht⟩ := List.mem_iff_getElem?.1 hy
              have h1 := HTC.out t y (by have := (List.getElem?_eq_some_iff.1 ht).1; omega) ht hr
              unfold Tch at h1 ⊢
              rw [HS3.out.2.2.2.1]; exact h1)
            have HPKL := Lib.hid (show pkl s now = lc from by
              have h1 := HLC.out
              unfold pkl
              by_cases e : j = 0
              · rw [if_pos e] at h1
                rw [if_pos (by rw [← h1]; exact hpk), ← h1]
              · rw [if_neg e] at h1
                rw [if_neg (HP1.out (by omega)), ← h1])
            have HPK := Lib.hid hpk; have HNM1 := Lib.hid hnm
            clear hr3 hn3 hk3 hpk' h3 st3 hnm hs3 hpk HPI HPI2 HNM HRO HRD HP1 HP2 c12
            go_wp2_with fail
            go_loopg [12, 13, 14] s.Ws.length (fun k b i _ w2 => ∃ (j3 : Nat) (s4 : Sd) (vp4 : Value) (bI : Int), k = s.Ws.length - j3 ∧ j3 ≤ s.Ws.length ∧ i = .int .i64 j3 ∧ b = .int .i64 bI ∧ PkI w3 w2 q N s3 s4 (.slice ao s.Ws.length cap) vp4 now b4 ∧ BestT s lc now nm j3 bI)
            case atStart => exact ⟨0, s3, vp2, -1, rfl, Nat.zero_le _, rfl, rfl, HPJ.out, Or.inl ⟨rfl, fun t z ht => absurd ht (Nat.not_lt_zero _)⟩⟩
            case round =>
              obtain ⟨j3, s4, vp4, bI, hk, hj3, rfl, rfl, hpi4, hbt⟩ := hrel
              have HK4 := Lib.hid hk; have HP4 := Lib.hid hpi4; have HBT := Lib.hid hbt
              have c12 := (cell_of hpi4.mi.head 12).trans (show (Hm s4 (.slice ao s.Ws.length cap) vp4)[12]? = some (Value.slice ao s.Ws.length cap) from rfl)
              clear hk hpi4 hbt
              by_cases hlt3 : j3 < s.Ws.length
              · obtain ⟨z, hz⟩ : ∃ z, s.Ws[j3]? = some z := ⟨_, List.getElem?_eq_getElem hlt3⟩
                have hws4 : s4.Ws = s.Ws := HP4.out.ws.trans HS3.out.1
                obtain ⟨ao2, cap2, ev, hrow, _, _⟩ := lrow_own HP4.out.mi.lst
                rw [hws4] at ev
                simp only [Value.slice.injEq] at ev
                obtain ⟨rfl, _, rfl⟩ := ev
                obtain ⟨g, rfl, hg, z0, z1, z2, z3', z4, z5, z6⟩ := hrow j3 z (by rw [hws4]; exact hz)
                have HZ := Lib.hid hz
                have HZD := Lib.hid (show z.dom ∈ s4.D from by rw [HP4.out.dd, HS3.out.2.1]; exact H.out.wfs z (List.mem_of_getElem? hz))
                have HBC := Lib.hid (show ∀ (bn : Nat) (x : Wt), s.Ws[bn]? = some x → ∀ (w5 : World) (s5 : Sd) (vp5 : Value), MIn w5 q s5 (.slice (some ⟨g, 0, none⟩) s.Ws.length cap) vp5 N → s5.Ws = s3.Ws → w5.cell? ⟨g, bn * 7, none⟩ = some (.int .i64 x.id) ∧ w5.cell? ⟨g, bn * 7 + 1, none⟩ = some (.int .i64 x.rc) from fun bn x hx w5 s5 vp5 hm5 hw5 => by
                  have hw5' : s5.Ws = s.Ws := hw5.trans HS3.out.1
                  obtain ⟨ao2, cap2, ev, hrow, _, _⟩ := lrow_own hm5.lst
                  rw [hw5'] at ev
                  simp only [Value.slice.injEq] at ev
                  obtain ⟨rfl, _, rfl⟩ := ev
                  obtain ⟨g', eg, _, x0, x1, _⟩ := hrow bn x (by rw [hw5']; exact hx)
                  simp only [Option.some.injEq, Addr.mk.injEq] at eg
                  obtain ⟨rfl, _⟩ := eg
                  exact ⟨x0, x1⟩)
                have q1 : (0 : Int) ≤ (j3 : Int) := by omega
                have q2 : (j3 : Int) < (s.Ws.length : Int) := by omega
                have ej : IntKind.i64.wrap ((j3 : Int) + 1) = ((j3 + 1 : Nat) : Int) := by rw [IntWalk.i64_in _ (by omega)]; omega
                clear hz hrow hws4
                go_wp2_with fail
                have hk4 : Kp (fun _ => False) wr (wr.alloc (.cells #[.int .i64 z.id, .int .i64 z.rc, .int .i64 z.nx, .string z.snd, .string z.dom, .bool z.loc, .bool z.go] 62)) := (by repeat (first | exact Kp.refl _ _ | apply Kp.drew | apply Kp.drewN | refine Kp.setCell ?_ _ _ (Or.inl rfl) | apply Kp.alloc))
                have hx4 := heap_new (w := wr) (.cells #[.int .i64 z.id, .int .i64 z.rc, .int .i64 z.nx, .string z.snd, .string z.dom, .bool z.loc, .bool z.go] 62)
                obtain ⟨w4, hw4⟩ : ∃ w4, w4 = wr.alloc (.cells #[.int .i64 z.id, .int .i64 z.rc, .int .i64 z.nx, .string z.snd, .string z.dom, .bool z.loc, .bool z.go] 62) := ⟨_, rfl⟩
                obtain ⟨b14, hb14⟩ : ∃ b, b = wr.heap.size := ⟨_, rfl⟩
                rw [← hw4] at hk4 hx4 ⊢
                rw [← hb14] at hx4 ⊢
                have HLW := Lib.hid (HP4.out.mi.local (Nat.le_of_eq hb14.symm) hx4)
                have HP4C := Lib.hid (HP4.out.calm hk4)
                have HGP := Lib.hid (show GP w3 q N s3 (.slice (some ⟨g, 0, none⟩) s.Ws.length cap) now b4 b14 (.cells #[.int .i64 z.id, .int .i64 z.rc, .int .i64 z.nx, .string z.snd, .string z.dom, .bool z.loc, .bool z.go] 62) w4.drew from ⟨s4, vp4, HP4C.out.calm (Kp.refl (fun _ => False) w4).drew, HLW.out.calm (Kp.refl (fun _ => False) w4).drew⟩)
                have HZD3 := Lib.hid (show z.dom ∈ s3.D from by rw [← HP4.out.dd]; exact HZD.out)
                clear hw4 hk4 hx4 hb14 c12 z0 z1 z2 z3' z4 z5 z6
                go_cut [161] from 86 to 162 (fun c wx => ∃ (s5 : Sd) (vp5 : Value) (bb : Bool), c = .bool bb ∧ PkI w3 wx q N s3 s5 (.slice (some ⟨g, 0, none⟩) s.Ws.length cap) vp5 now b4 ∧ (bb = true → BestT s lc now nm (j3 + 1) j3) ∧ (bb = false → BestT s lc now nm (j3 + 1) bI))
                case first =>
                  as_aux_lemma =>
                    haveI : Nonempty (GW (GP w3 q N s3 (.slice (some ⟨g, 0, none⟩) s.Ws.length cap) now b4 b14 (.cells #[.int .i64 z.id, .int .i64 z.rc, .int .i64 z.nx, .string z.snd, .string z.dom, .bool z.loc, .bool z.go] 62))) := ⟨⟨_, HGP.out⟩⟩
                    have f12 : ∀ i : GW (GP w3 q N s3 (.slice (some ⟨g, 0, none⟩) s.Ws.length cap) now b4 b14 (.cells #[.int .i64 z.id, .int .i64 z.rc, .int .i64 z.nx, .string z.snd, .string z.dom, .bool z.loc, .bool z.go] 62)), i.w.cell? ⟨q, 12, none⟩ = some (.slice (some ⟨g, 0, none⟩) s.Ws.length cap) := fun i => by
                      obtain ⟨s5, vp5, hp, _⟩ := i.ok
                      exact (cell_of hp.mi.head 12).trans rfl
                    have fz : ∀ i : GW (GP w3 q N s3 (.slice (some ⟨g, 0, none⟩) s.Ws.length cap) now b4 b14 (.cells #[.int .i64 z.id, .int .i64 z.rc, .int .i64 z.nx, .string z.snd, .string z.dom, .bool z.loc, .bool z.go] 62)), i.w.cell? ⟨b14, 0, none⟩ = some (.int .i64 z.id) ∧ i.w.cell? ⟨b14, 1, none⟩ = some (.int .i64 z.rc) ∧ i.w.cell? ⟨b14, 2, none⟩ = some (.int .i64 z.nx) ∧ i.w.cell? ⟨b14, 3, none⟩ = some (.string z.snd) ∧ i.w.cell? ⟨b14, 4, none⟩ = some (.string z.dom) ∧ i.w.cell? ⟨b14, 5, none⟩ = some (.bool z.loc) ∧ i.w.cell? ⟨b14, 6, none⟩ = some (.bool z.go) := fun i => by
                      obtain ⟨s5, vp5, _, ho⟩ := i.ok
                      exact ⟨(cell_of ho.cells 0).trans rfl, (cell_of ho.cells 1).trans rfl, (cell_of ho.cells 2).trans rfl, (cell_of ho.cells 3).trans rfl, (cell_of ho.cells 4).trans rfl, (cell_of ho.cells 5).trans rfl, (cell_of ho.cells 6).trans rfl⟩
                    have fz0 := fun i => (fz i).1
                    have fz1 := fun i => (fz i).2.1
                    have fz2 := fun i => (fz i).2.2.1
                    have fz3 := fun i => (fz i).2.2.2.1
                    have fz4 := fun i => (fz i).2.2.2.2.1
                    have fz5 := fun i => (fz i).2.2.2.2.2.1
                    have fz6 := fun i => (fz i).2.2.2.2.2.2
                    clear fz
                    by_cases e : z.loc = lc
                    rotate_left
                    · have bb : (sI z.loc == sI lc) = false := by have := sI_ne e; simp [this]
                      have bb' : ¬ sI z.loc = sI lc := sI_ne e
                      have HNB := Lib.hid (show ¬ mtc s lc now nm z from fun hm => by have h1 := hm.1; unfold rdy at h1; rw [Bool.and_eq_true] at h1; exact e (of_decide_eq_true h1.1))
                      clear e
                      as_aux_lemma =>
                        refine region_class _ (by kernel_rfl) (by kernel_rfl) HGP.out ?_
                        repeat (go_big_quiet_step (first | exact side_class _ _ | fail))
                        refine wpQuiet_nil ?_
                        intro wz hwz
                        obtain ⟨i, rfl⟩ := hwz
                        obtain ⟨s5, vp5, hp5, _⟩ := i.ok
                        obtain ⟨wz, hwz⟩ : ∃ wz, wz = i.w := ⟨_, rfl⟩
                        rw [← hwz] at hp5 ⊢
                        have HP5 := Lib.hid hp5
                        clear hp5 f12 fz0 fz1 fz2 fz3 fz4 fz5 fz6 hwz
                        try clear k0 k1
                        go_wp2_with fail
                        go_meet
                        exact ⟨s5, vp5, false, rfl, HP5.out, (fun h => by cases h), fun _ => HBT.out.skip HZ.out HNB.out⟩
                    have bb : (sI z.loc == sI lc) = true := by rw [e]; exact beq_self_eq_true _
                    have bb' : sI z.loc = sI lc := by rw [e]
                    have HE := Lib.hid e
                    by_cases es : z.snd = nm
                    rotate_left
                    · have u1 := toList_ne es
                      have u2 : (z.snd.toList == nm.toList) = false := beq_eq_false_iff_ne.2 u1
                      have HNB := Lib.hid (show ¬ mtc s lc now nm z from fun hm => es hm.2)
                      clear e es
                      as_aux_lemma =>
                        refine region_class _ (by kernel_rfl) (by kernel_rfl) HGP.out ?_
                        repeat (go_big_quiet_step (first | exact side_class _ _ | fail))
                        refine wpQuiet_nil ?_
                        intro wz hwz
                        obtain ⟨i, rfl⟩ := hwz
                        obtain ⟨s5, vp5, hp5, _⟩ := i.ok
                        obtain ⟨wz, hwz⟩ : ∃ wz, wz = i.w := ⟨_, rfl⟩
                        rw [← hwz] at hp5 ⊢
                        have HP5 := Lib.hid hp5
                        clear hp5 f12 fz0 fz1 fz2 fz3 fz4 fz5 fz6 hwz
                        try clear k0 k1
                        go_wp2_with fail
                        go_meet
                        exact ⟨s5, vp5, false, rfl, HP5.out, (fun h => by cases h), fun _ => HBT.out.skip HZ.out HNB.out⟩
                    have HNS := Lib.hid es
                    have us : (z.snd.toList == nm.toList) = true := by rw [es]; exact beq_self_eq_true _
                    clear e es
                    cases hrd : rdy s lc now z with
                    | false =>
                      have HRD := Lib.hid hrd
                      have HNB := Lib.hid (show ¬ mtc s lc now nm z from fun hm => by have h1 := hm.1; rw [hrd] at h1; cases h1)
                      clear hrd
                      as_aux_lemma =>
                        refine region_class _ (by kernel_rfl) (by kernel_rfl) HGP.out ?_
                        repeat (go_big_quiet_step (first | exact side_class _ _ | exact ready_class z lc false HVS.out HZD3.out HE.out HRD.out hn hn2 hN _))
                        refine wpQuiet_nil ?_
                        intro wz hwz
                        obtain ⟨i, rfl⟩ := hwz
                        obtain ⟨s5, vp5, hp5, _⟩ := i.ok
                        obtain ⟨wz, hwz⟩ : ∃ wz, wz = i.w := ⟨_, rfl⟩
                        rw [← hwz] at hp5 ⊢
                        have HP5 := Lib.hid hp5
                        clear hp5 f12 fz0 fz1 fz2 fz3 fz4 fz5 fz6 hwz
                        try clear k0 k1
                        go_wp2_with fail
                        go_meet
                        exact ⟨s5, vp5, false, rfl, HP5.out, (fun h => by cases h), (fun _ => HBT.out.skip HZ.out HNB.out)⟩
                    | true =>
                      have HRD := Lib.hid hrd
                      clear hrd
                      by_cases hb : bI = -1
                      · subst hb
                        as_aux_lemma =>
                          refine region_class _ (by kernel_rfl) (by kernel_rfl) HGP.out ?_
                          repeat (go_big_quiet_step (first | exact side_class _ _ | exact ready_class z lc true HVS.out HZD3.out HE.out HRD.out hn hn2 hN _))
                          refine wpQuiet_nil ?_
                          intro wz hwz
                          obtain ⟨i, rfl⟩ := hwz
                          obtain ⟨s5, vp5, hp5, _⟩ := i.ok
                          obtain ⟨wz, hwz⟩ : ∃ wz, wz = i.w := ⟨_, rfl⟩
                          rw [← hwz] at hp5 ⊢
                          have HP5 := Lib.hid hp5
                          clear hp5 f12 fz0 fz1 fz2 fz3 fz4 fz5 fz6 hwz
                          try clear k0 k1
                          go_wp2_with fail
                          go_meet
                          exact ⟨s5, vp5, true, rfl, HP5.out, (fun _ => HBT.out.first HZ.out ⟨HRD.out, HNS.out⟩), (fun h => by cases h)⟩
                      · obtain ⟨bn, x, hbn, hxb, hmx, _⟩ := HBT.out.resolve_left (fun h => hb h.1)
                        subst hbn
                        have HXB := Lib.hid hxb
                        have hbl := (List.getElem?_eq_some_iff.1 hxb).1
                        have k0 : ∀ i : GW (GP w3 q N s3 (.slice (some ⟨g, 0, none⟩) s.Ws.length cap) now b4 b14 (.cells #[.int .i64 z.id, .int .i64 z.rc, .int .i64 z.nx, .string z.snd, .string z.dom, .bool z.loc, .bool z.go] 62)), i.w.cell? ⟨g, bn * 7, none⟩ = some (.int .i64 x.id) := fun i => by
                          obtain ⟨s5, vp5, hp, _⟩ := i.ok
                          exact (HBC.out bn x HXB.out _ _ _ hp.mi hp.ws).1
                        have k1 : ∀ i : GW (GP w3 q N s3 (.slice (some ⟨g, 0, none⟩) s.Ws.length cap) now b4 b14 (.cells #[.int .i64 z.id, .int .i64 z.rc, .int .i64 z.nx, .string z.snd, .string z.dom, .bool z.loc, .bool z.go] 62)), i.w.cell? ⟨g, bn * 7 + 1, none⟩ = some (.int .i64 x.rc) := fun i => by
                          obtain ⟨s5, vp5, hp, _⟩ := i.ok
                          exact (HBC.out bn x HXB.out _ _ _ hp.mi hp.ws).2
                        have q3 : (0 : Int) ≤ (bn : Int) := by omega
                        have q4 : (bn : Int) < (s.Ws.length : Int) := by omega
                        have q5 : ¬ (bn : Int) < 0 := by omega
                        clear hxb hmx hb
                        by_cases h1 : z.id < x.id
                        · have HCMP := Lib.hid (show Le2 z x < 0 from (Le2_neg z x).2 (Or.inl h1))
                          as_aux_lemma =>
                            refine region_class _ (by kernel_rfl) (by kernel_rfl) HGP.out ?_
                            repeat (go_big_quiet_step (first | exact side_class _ _ | exact ready_class z lc true HVS.out HZD3.out HE.out HRD.out hn hn2 hN _))
                            refine wpQuiet_nil ?_
                            intro wz hwz
                            obtain ⟨i, rfl⟩ := hwz
                            obtain ⟨s5, vp5, hp5, _⟩ := i.ok
                            obtain ⟨wz, hwz⟩ : ∃ wz, wz = i.w := ⟨_, rfl⟩
                            rw [← hwz] at hp5 ⊢
                            have HP5 := Lib.hid hp5
                            clear hp5 f12 fz0 fz1 fz2 fz3 fz4 fz5 fz6 hwz
                            try clear k0 k1
                            go_wp2_with fail
                            go_meet
                            exact ⟨s5, vp5, true, rfl, HP5.out, (fun _ => HBT.out.better HZ.out HXB.out ⟨HRD.out, HNS.out⟩ HCMP.out), (fun h => by cases h)⟩
                        by_cases h2 : z.id = x.id
                        rotate_left
                        · have HCMP := Lib.hid (show 0 ≤ Le2 z x from (Le2_nn z x).2 (by omega))
                          have h2' : (z.id == x.id) = false := by simp [h2]
                          as_aux_lemma =>
                            refine region_class _ (by kernel_rfl) (by kernel_rfl) HGP.out ?_
                            repeat (go_big_quiet_step (first | exact side_class _ _ | exact ready_class z lc true HVS.out HZD3.out HE.out HRD.out hn hn2 hN _))
                            refine wpQuiet_nil ?_
                            intro wz hwz
                            obtain ⟨i, rfl⟩ := hwz
                            obtain ⟨s5, vp5, hp5, _⟩ := i.ok
                            obtain ⟨wz, hwz⟩ : ∃ wz, wz = i.w := ⟨_, rfl⟩
                            rw [← hwz] at hp5 ⊢
                            have HP5 := Lib.hid hp5
                            clear hp5 f12 fz0 fz1 fz2 fz3 fz4 fz5 fz6 hwz
                            try clear k0 k1
                            go_wp2_with fail
                            go_meet
                            exact ⟨s5, vp5, false, rfl, HP5.out, (fun h => by cases h), (fun _ => HBT.out.worse HZ.out HXB.out HCMP.out)⟩
                        have h2' : (z.id == x.id) = true := by rw [h2]; exact beq_self_eq_true _
                        by_cases h3 : z.rc < x.rc
                        · have HCMP := Lib.hid (show Le2 z x < 0 from (Le2_neg z x).2 (Or.inr ⟨h2, h3⟩))
                          clear h2
                          as_aux_lemma =>
                            refine region_class _ (by kernel_rfl) (by kernel_rfl) HGP.out ?_
                            repeat (go_big_quiet_step (first | exact side_class _ _ | exact ready_class z lc true HVS.out HZD3.out HE.out HRD.out hn hn2 hN _))
                            refine wpQuiet_nil ?_
                            intro wz hwz
                            obtain ⟨i, rfl⟩ := hwz
                            obtain ⟨s5, vp5, hp5, _⟩ := i.ok
                            obtain ⟨wz, hwz⟩ : ∃ wz, wz = i.w := ⟨_, rfl⟩
                            rw [← hwz] at hp5 ⊢
                            have HP5 := Lib.hid hp5
                            clear hp5 f12 fz0 fz1 fz2 fz3 fz4 fz5 fz6 hwz
                            try clear k0 k1
                            go_wp2_with fail
                            go_meet
                            exact ⟨s5, vp5, true, rfl, HP5.out, (fun _ => HBT.out.better HZ.out HXB.out ⟨HRD.out, HNS.out⟩ HCMP.out), (fun h => by cases h)⟩
                        · have HCMP := Lib.hid (show 0 ≤ Le2 z x from (Le2_nn z x).2 (by omega))
                          clear h2
                          as_aux_lemma =>
                            refine region_class _ (by kernel_rfl) (by kernel_rfl) HGP.out ?_
                            repeat (go_big_quiet_step (first | exact side_class _ _ | exact ready_class z lc true HVS.out HZD3.out HE.out HRD.out hn hn2 hN _))
                            refine wpQuiet_nil ?_
                            intro wz hwz
                            obtain ⟨i, rfl⟩ := hwz
                            obtain ⟨s5, vp5, hp5, _⟩ := i.ok
                            obtain ⟨wz, hwz⟩ : ∃ wz, wz = i.w := ⟨_, rfl⟩
                            rw [← hwz] at hp5 ⊢
                            have HP5 := Lib.hid hp5
                            clear hp5 f12 fz0 fz1 fz2 fz3 fz4 fz5 fz6 hwz
                            try clear k0 k1
                            go_wp2_with fail
                            go_meet
                            exact ⟨s5, vp5, false, rfl, HP5.out, (fun h => by cases h), (fun _ => HBT.out.worse HZ.out HXB.out HCMP.out)⟩
                case rest =>
                  as_aux_lemma =>
                    obtain ⟨s5, vp5, bb, rfl, hp5, htr, hfa⟩ := hcut
                    have HP5 := Lib.hid hp5
                    clear hp5
                    cases bb with
                    | true =>
                      have HBT5 := Lib.hid (htr rfl)
                      clear htr hfa
                      go_wp2_with fail
                      go_roundg (s.Ws.length - (j3 + 1))
                      case measure => rw [HK4.out]; omega
                      case rel => exact ⟨j3 + 1, s5, vp5, _, rfl, by omega, rfl, rfl, HP5.out, HBT5.out⟩
                    | false =>
                      have HBT5 := Lib.hid (hfa rfl)
                      clear htr hfa
                      go_wp2_with fail
                      go_roundg (s.Ws.length - (j3 + 1))
                      case measure => rw [HK4.out]; omega
                      case rel => exact ⟨j3 + 1, s5, vp5, _, rfl, by omega, rfl, rfl, HP5.out, HBT5.out⟩
              · as_aux_lemma =>
                  have q1 : ¬ (j3 : Int) < (s.Ws.length : Int) := by omega
                  have q2 : (s.Ws.length : Int) ≤ (j3 : Int) := by omega
                  obtain ⟨bn, x, hbn, hxb, hmx, hbest⟩ := HBT.out.resolve_left (fun h => by
                    have h1 := (Has_mem _ _).1 (Fx_has HPK.out)
                    unfold rsn at h1
                    obtain ⟨z, hz, hs⟩ := List.mem_map.1 h1
                    obtain ⟨hz, hr⟩ := List.mem_filter.1 hz
                    obtain ⟨t, ht⟩ := List.mem_iff_getElem?.1 hz
                    exact h.2 t z (by have := (List.getElem?_eq_some_iff.1 ht).1; omega) ht ⟨hr, by rw [HNM1.out]; exact hs⟩)
                  subst hbn
                  have hbl := (List.getElem?_eq_some_iff.1 hxb).1
                  have HXB := Lib.hid hxb; have HRX := Lib.hid hmx.1
                  have HBST := Lib.hid (show Best s lc now nm x from ⟨List.mem_of_getElem? hxb, hmx.1, hmx.2, fun z hz hr hs => by
                    obtain ⟨t, ht⟩ := List.mem_iff_getElem?.1 hz
                    exact hbest t z (by have := (List.getElem?_eq_some_iff.1 ht).1; omega) ht ⟨hr, hs⟩⟩)
                  have hcap : s.Ws.length ≤ 1000000 := hl
                  have q3 : (0 : Int) ≤ (bn : Int) := by omega
                  have q4 : (bn : Int) < (s.Ws.length : Int) := by omega
                  have hws4 : s4.Ws = s.Ws := HP4.out.ws.trans HS3.out.1
                  have HN4 := Lib.hid (HP4.out.mi)
                  have HQ4 := Lib.hid (show q < wr.heap.size ∧ wr.frozen? ⟨q, 17, none⟩ = false from ⟨lt_of_block HN4.out.head, frozen_of HN4.out.head 17⟩)
                  obtain ⟨h5, st5⟩ := HN4.out.setLast (l := lc) (w' := wr.setCell ⟨q, 17, none⟩ (.int .i64 (sI lc))) ((Kp.refl (· = q) wr).setCell _ _ (Or.inl rfl)) (heap_set HN4.out.head _)
                  have f17 := HQ4.out.2
                  have c17 : wr.cell? ⟨q, 17, none⟩ = some (.int .i64 (sI s4.last)) := (cell_of HN4.out.head 17).trans rfl
                  have lp := HQ4.out.1
                  clear hxb hmx hbest
                  obtain ⟨i0, hi, hi0, hi1, hi2⟩ := info_parts wait_info
                  obtain ⟨s5, hs5⟩ : ∃ s5, s5 = { s4 with last := lc } := ⟨_, rfl⟩
                  obtain ⟨w5, hw5⟩ : ∃ w5, w5 = wr.setCell ⟨q, 17, none⟩ (.int .i64 (sI lc)) := ⟨_, rfl⟩
                  rw [← hw5, ← hs5] at h5 st5
                  have HS5 := Lib.hid (show s5.Ws = s.Ws ∧ s5.D = s.D ∧ s5.Ps = s4.Ps ∧ ab s5 = { ab s3 with last := lc } from by
                    rw [hs5]
                    exact ⟨hws4, HP4.out.dd.trans HS3.out.2.1, rfl, by rw [← HP4.out.ab]; rfl⟩)
                  have H5 := Lib.hid h5; have HST5 := Lib.hid st5; have HW5 := Lib.hid hw5
                  have HO := Lib.hid (show (w5.alloc (.cells #[] 62)).ownsRow w5.heap.size 62 7 (.slice (some ⟨w5.heap.size, 0, none⟩) 0 0) 0 [] from World.ownsRow_lit _ #[] 0 (Nat.le_refl _) (by unfold maxLen; omega) rfl)
                  have hkA : Kp (fun _ => False) w5 (w5.alloc (.cells #[] 62)) := (by repeat (first | exact Kp.refl _ _ | apply Kp.drew | apply Kp.drewN | refine Kp.setCell ?_ _ _ (Or.inl rfl) | apply Kp.alloc))
                  have HNW := Lib.hid (show ∀ ad, ao = some ad → ∀ j u, (Wl s.Ws)[j]? = some u → (w5.alloc (.cells #[] 62)).cell? (ad.add j) = some u from by
                    have h1 := h5.lst
                    rw [HS5.out.1] at h1
                    exact src_cells7 h1 rfl hkA)
                  have hnone : ao = none → s.Ws.length = 0 ∧ cap = 0 := fun e => by
                    obtain ⟨ao2, cap2, ev, hrow, _, _⟩ := lrow_own HN4.out.lst
                    rw [hws4] at ev
                    simp only [Value.slice.injEq] at ev
                    obtain ⟨e1, _, _⟩ := ev
                    obtain ⟨g0, e2, _⟩ := hrow bn x (by rw [hws4]; exact HXB.out)
                    rw [← e1, e] at e2; cases e2
                  have HKA := Lib.hid (show ∀ w', Kp (In (.slice (some ⟨w5.heap.size, 0, none⟩) 0 0)) (w5.alloc (.cells #[] 62)) w' → Kp (fun _ => False) w5 w' from fun w' hk => hkA.trans_new hk (fun k h1 h2 => by have e : some w5.heap.size = some k := h2; cases e; omega))
                  have HFZ := Lib.hid (show ∀ w', Kp (In (.slice (some ⟨w5.heap.size, 0, none⟩) 0 0)) (w5.alloc (.cells #[] 62)) w' → w'.frozen? ⟨q, 12, none⟩ = false ∧ w'.cell? ⟨q, 12, none⟩ = some (.slice ao s.Ws.length cap) from fun w' hk => ⟨frozen_of ((HKA.out w' hk).keep H5.out.head (fun h => h)) 12, (cell_of ((HKA.out w' hk).keep H5.out.head (fun h => h)) 12).trans rfl⟩)
                  have HFIN := Lib.hid (show ∀ w' a' c', Own w' 62 7 (.slice a' s.Ws.length c') s.Ws.length (Wl s.Ws) → Kp (In (.slice (some ⟨w5.heap.size, 0, none⟩) 0 0)) (w5.alloc (.cells #[] 62)) w' → SameOrNew (w5.alloc (.cells #[] 62)) (.slice (some ⟨w5.heap.size, 0, none⟩) 0 0) (.slice a' s.Ws.length c') →
                      ∃ (s6 : Sd) (g6 c6 : Nat), MIn (w'.setCell ⟨q, 12, none⟩ (.slice a' s.Ws.length c')) q s6 (.slice (some ⟨g6, 0, none⟩) s.Ws.length c6) vp4 N ∧ St wr (w'.setCell ⟨q, 12, none⟩ (.slice a' s.Ws.length c')) s4 s6 ∧ ab s6 = { ab s3 with last := lc } ∧ s6.Ws = s.Ws ∧ s6.D = s.D ∧ s6.Ps = s4.Ps from fun w' a' c' ho hk hsn => by
                    rcases ho.shape with ⟨_, h1, _⟩ | ⟨g6, c6, hv, _⟩
                    · omega
                    · rw [hv] at ho hsn ⊢
                      obtain ⟨r1, r2⟩ := H5.out.freshL (HKA.out w' hk) (v := .slice (some ⟨g6, 0, none⟩) s.Ws.length c6) (by rw [HS5.out.1]; exact ho) (fun k e => by
                        rcases hsn with h1 | h1
                        · have e1 : some g6 = some k := e
                          have e2 : some g6 = some w5.heap.size := h1
                          cases e1; cases e2; exact Nat.le_refl _
                        · have h2 := h1 k e
                          rw [World.size_alloc] at h2
                          omega) rfl
                      exact ⟨_, g6, c6, r1, HST5.out.trans r2, HS5.out.2.2.2, HS5.out.1, HS5.out.2.1, HS5.out.2.2.1⟩)
                  clear h5 st5 hs5 hkA
                  have e5 : w5.heap.size = wr.heap.size := by rw [hw5, World.size_setCell]
                  rw [e5] at HO HKA HFZ HFIN
                  rw [hw5] at HO HNW HKA HFZ HFIN
                  clear hw5 e5
                  go_upto_region 23 with (at_builtin; refine wpList_append_prec _ rfl _ _ 51 rfl 62 i0 _ 7 64 Try.underlying51 hi hi0 hi1 hi2 rfl (by decide) _ 0 [] rfl (own_weaken HO.out) ao s.Ws.length cap (Wl s.Ws) rfl hnone (Wl_len _) HNW.out (Wl_one _) (by unfold maxLen; omega) (by omega) ?_; intro v6 w6 hown6 hk6 hsn6 _; rw [Nat.zero_add] at hown6; rw [List.nil_append] at hown6; obtain ⟨a6, c6, rfl⟩ := hown6.slice; obtain ⟨HF6, HF7⟩ := HFZ.out _ hk6; have HR6 := Lib.hid (HFIN.out _ _ _ hown6 hk6 hsn6); clear hown6 hk6 hsn6)
                  obtain ⟨s6, g6, c7, h6, st6, ha6, hw6, hd6, hp6⟩ := HR6.out
                  clear HR6 HF6 HF7 HFIN HFZ HKA HNW HO hnone f17 c17 lp
                  obtain ⟨w7, hw7⟩ : ∃ w7, w7 = w6.setCell ⟨q, 12, none⟩ (.slice a6 s.Ws.length c6) := ⟨_, rfl⟩
                  rw [← hw7] at h6 st6 ⊢
                  have H6 := Lib.hid h6; have HST6 := Lib.hid st6
                  have HS6 := Lib.hid (show s6.Ws = s.Ws ∧ s6.D = s.D ∧ s6.Ps = s4.Ps ∧ ab s6 = { ab s3 with last := lc } from ⟨hw6, hd6, hp6, ha6⟩)
                  have hlo : s6.c = s4.c := by rw [show s6.c = (ab s6).c from rfl, ha6, ← HP4.out.ab]; rfl
                  have HLO6 := Lib.hid (HP4.out.lo.next st6 hlo)
                  have HX6 := Lib.hid (show s6.Ws[bn]? = some x from by rw [hw6]; exact HXB.out)
                  have hL6 : Own w7 62 7 (.slice (some ⟨g6, 0, none⟩) s.Ws.length c7) s.Ws.length (Wl s.Ws) := by have h := h6.lst; rw [hw6] at h; exact h
                  have ht6 : w7.frozen? ⟨g6, bn * 7 + 6, none⟩ = false := hL6.frozen _
                  have c12 : w7.cell? ⟨q, 12, none⟩ = some (.slice (some ⟨g6, 0, none⟩) s.Ws.length c7) := (cell_of h6.head 12).trans rfl
                  have x6 : w7.cell? ⟨g6, bn * 7 + 6, none⟩ = some (.bool x.go) := hL6.cell ((Wl_get HXB.out (by omega)).trans rfl)
                  have x0 : w7.cell? ⟨g6, bn * 7, none⟩ = some (.int .i64 x.id) := hL6.cell (j := bn * 7 + 0) ((Wl_get HXB.out (by omega)).trans rfl)
                  have x1 : w7.cell? ⟨g6, bn * 7 + 1, none⟩ = some (.int .i64 x.rc) := hL6.cell ((Wl_get HXB.out (by omega)).trans rfl)
                  have x2 : w7.cell? ⟨g6, bn * 7 + 2, none⟩ = some (.int .i64 x.nx) := hL6.cell ((Wl_get HXB.out (by omega)).trans rfl)
                  have x3 : w7.cell? ⟨g6, bn * 7 + 3, none⟩ = some (.string x.snd) := hL6.cell ((Wl_get HXB.out (by omega)).trans rfl)
                  have x4 : w7.cell? ⟨g6, bn * 7 + 4, none⟩ = some (.string x.dom) := hL6.cell ((Wl_get HXB.out (by omega)).trans rfl)
                  have x5 : w7.cell? ⟨g6, bn * 7 + 5, none⟩ = some (.bool x.loc) := hL6.cell ((Wl_get HXB.out (by omega)).trans rfl)
                  have lp := lt_of_block h6.head
                  have hgl : g6 < w7.heap.size := hL6.lt rfl
                  clear h6 st6 ha6 hw6 hd6 hp6 hw7 hlo hL6
                  go_wp2_with fail
                  have HFR := Lib.hid (show vB s x.dom < vN s x.dom ∧ 0 < vT s now x.dom from by
                    have h1 := HRX.out
                    unfold rdy at h1
                    simp only [Bool.and_eq_true, decide_eq_true_eq] at h1
                    exact h1.2.2.2)
                  obtain ⟨h7, st7⟩ := H6.out.goL' HS6.out.1 HXB.out
                  have hlo7 := HLO6.out.next st7 rfl
                  have hk8 : Kp (fun _ => False) (w7.setCell ⟨g6, bn * 7 + 6, none⟩ (.bool true)) ((w7.setCell ⟨g6, bn * 7 + 6, none⟩ (.bool true)).alloc (.cells #[.int .i64 x.id, .int .i64 x.rc, .int .i64 x.nx, .string x.snd, .string x.dom, .bool x.loc, .bool true] 62)) := (by repeat (first | exact Kp.refl _ _ | apply Kp.drew | apply Kp.drewN | refine Kp.setCell ?_ _ _ (Or.inl rfl) | apply Kp.alloc))
                  have hn8 := heap_new (w := w7.setCell ⟨g6, bn * 7 + 6, none⟩ (.bool true)) (.cells #[.int .i64 x.id, .int .i64 x.rc, .int .i64 x.nx, .string x.snd, .string x.dom, .bool x.loc, .bool true] 62)
                  rw [World.size_setCell] at hn8
                  obtain ⟨w8, hw8⟩ : ∃ w8, w8 = (w7.setCell ⟨g6, bn * 7 + 6, none⟩ (.bool true)).alloc (.cells #[.int .i64 x.id, .int .i64 x.rc, .int .i64 x.nx, .string x.snd, .string x.dom, .bool x.loc, .bool true] 62) := ⟨_, rfl⟩
                  obtain ⟨b15, hb15⟩ : ∃ b, b = w7.heap.size := ⟨_, rfl⟩
                  rw [← hb15] at hn8 ⊢
                  rw [← hw8] at hk8 hn8 ⊢
                  obtain ⟨s7, hs7⟩ : ∃ s7, s7 = fL s6 (.slice (some ⟨g6, 0, none⟩) s.Ws.length c7) (s6.Ws.set bn (Gox x)) s6.D := ⟨_, rfl⟩
                  rw [← hs7] at h7 st7 hlo7
                  have HB15 := Lib.hid (show w3.heap.size ≤ b15 ∧ w.heap.size ≤ b15 ∧ b4 < b15 from ⟨by rw [hb15]; exact Nat.le_trans HP4.out.st.kp.size HST6.out.kp.size, by rw [hb15]; exact Nat.le_trans HST3.out.kp.size (Nat.le_trans HP4.out.st.kp.size HST6.out.kp.size), by rw [hb15]; exact lt_of_block HLO6.out.cells⟩)
                  have H8 := Lib.hid (h7.calm hk8)
                  have HX8 := Lib.hid (h7.local (by rw [World.size_setCell]; exact Nat.le_of_eq hb15.symm) hn8)
                  have HR8 := Lib.hid (hlo7.calm hk8)
                  have HST8 := Lib.hid ((HST6.out.trans st7).calm hk8)
                  have HS7 := Lib.hid (show s7.Ws = s.Ws.set bn (Gox x) ∧ s7.D = s.D ∧ s7.Ps = s4.Ps ∧ s7.c = s6.c ∧ ab s7 = { ab s6 with W := (s.Ws.set bn (Gox x)).map wx } from by
                    rw [hs7]
                    exact ⟨by rw [← HS6.out.1]; rfl, HS6.out.2.1, HS6.out.2.2.1, rfl, by rw [← HS6.out.1]; rfl⟩)
                  have HXD := Lib.hid (show x.dom ∈ s7.D from by rw [HS7.out.2.1]; exact H.out.wfs x (List.mem_of_getElem? HXB.out))
                  clear h7 st7 hlo7 hk8 hn8 hw8 hb15 hs7 x0 x1 x2 x3 x4 x5 x6 c12 ht6 lp hgl
                  refine (fpeer_any q N s7 _ vp4 x.dom now _ H8.out HXD.out hN).mono ?_; rintro e w9 ⟨vp5, y, Ps', col', gp, i5, rfl, h9, st9, hx9, hyd, hyi, hgp⟩
                  have HTC7 := Lib.hid (show Tch s7 now x.dom from by
                    obtain ⟨z, hz, e1, e2⟩ := HP4.out.tc _ (HTCH.out x (List.mem_of_getElem? HXB.out) HRX.out)
                    exact ⟨z, by rw [HS7.out.2.2.1]; exact hz, e1, e2⟩)
                  have hym := List.mem_of_getElem? hyi
                  have hyt : y.t = now := by
                    obtain ⟨z, hz, e1, e2⟩ := HTC7.out.ext (Ps' := Ps') (col' := col') hx9
                    rw [h9.dom_eq (show y ∈ (fE s7 Ps' col').Ps from hym) hz (by rw [hyd, e1])]; exact e2
                  have HY := Lib.hid (show y.dom = x.dom ∧ Ps'[i5]? = some y ∧ vp5.ownBlock = some gp ∧ y.t = now ∧ y ∈ Ps' from ⟨hyd, hyi, hgp, hyt, hym⟩)
                  obtain ⟨_, p1, p2, lgp⟩ := h9.pcell (y := y) hyi hgp
                  have hc7 : s7.c = s.c := by rw [HS7.out.2.2.2.1, show s6.c = (ab s6).c from rfl, HS6.out.2.2.2]; exact HS3.out.2.2.1
                  have hv9 : Vq now s (fE s7 Ps' col') := by
                    have h1 : Vq now s3 s4 := HP4.out.vq
                    have h2 : Vq now s4 s7 := Vq.of HS7.out.2.2.1 (by rw [hc7, show s4.c = (ab s4).c from rfl, HP4.out.ab]; exact HS3.out.2.2.1.symm) h1.le
                    exact ((HVS.out.trans h1).trans h2).trans (Vq.ext h2.le hn hn2 hx9 rfl)
                  have H9 := Lib.hid h9; have HV9 := Lib.hid hv9; have HC7 := Lib.hid hc7
                  have HST9 := Lib.hid (HST8.out.trans st9)
                  have HX9 := Lib.hid (HX8.out.next st9 rfl)
                  have HR9 := Lib.hid (HR8.out.next st9 rfl)
                  clear h9 st9 hx9 hyd hyi hgp hym hyt hv9 hc7
                  go_wp2_with fail
                  have hyl : y.busy < y.now ∧ 0 < y.l ∧ y.l = vT s now x.dom := by
                    obtain ⟨e1, e2, e3⟩ := pn_of H9.out.doms (show y ∈ (fE s7 Ps' col').Ps from HY.out.2.2.2.2)
                    obtain ⟨_, k2, k3, k4, k5, _⟩ := H9.out.pok y HY.out.2.2.2.2
                    have k3 : y.l ≤ V s7.c.burst := k3
                    have e4 : vT (fE s7 Ps' col') now y.dom = y.l := by
                      rw [e3 now]
                      show Lf (V s7.c.rate) (V s7.c.burst) y.l y.t now = y.l
                      rw [HY.out.2.2.2.1, Lf_eq (V_lo _) (V_hi _) (V_lo _) (V_hi _) k2 k3 hn hn2, C_of hn hn2, show max (now - now) 0 = 0 by omega, Int.mul_zero]
                      omega
                    rw [HY.out.1] at e1 e2 e4
                    rw [HV9.out.n] at e1
                    rw [HV9.out.b] at e2
                    rw [HV9.out.t now x.dom (Int.le_refl _) hn2] at e4
                    have h1 := HFR.out
                    refine ⟨by omega, by omega, e4.symm⟩
                  have HYL := Lib.hid hyl
                  clear hyl
                  refine (pwbeg_any q N (fE s7 Ps' col') _ vp5 y w9 H9.out HY.out.2.2.2.2 HYL.out.1).mono ?_; rintro e w10 ⟨⟨r, rfl⟩, h10, st10⟩
                  have hyi2 : (fQ (fE s7 Ps' col') (yBeg y)).Ps[i5]? = some (yBeg y) := psub_get HY.out.2.1 rfl
                  have hym2 := List.mem_of_getElem? hyi2
                  obtain ⟨_, _, r2', lgp2⟩ := h10.pcell hyi2 HY.out.2.2.1
                  have r2 : w10.cell? ⟨gp, i5 * 3 + 2, none⟩ = some (.pointer (some ⟨y.tb, 0, none⟩)) := r2'
                  clear r2'
                  have b3 : w10.cell? ⟨y.tb, 2, none⟩ = some (.int .i64 y.l) := (cell_of (h10.prt (yBeg y) hym2) 2).trans rfl
                  have fb3 : w10.frozen? ⟨y.tb, 2, none⟩ = false := frozen_of (h10.prt (yBeg y) hym2) 2
                  have hsub : IntKind.i64.wrap (y.l - 1) = y.l - 1 := by
                    obtain ⟨_, k2, k3, _, _, _⟩ := H9.out.pok y HY.out.2.2.2.2
                    have h4 := V_hi s7.c.burst
                    have k3 : y.l ≤ V s7.c.burst := k3
                    have h5 := HYL.out.2.1
                    exact IntWalk.i64_in _ (by omega)
                  obtain ⟨h11, st11⟩ := h10.tok (w6 := w10.setCell ⟨y.tb, 2, none⟩ (.int .i64 (y.l - 1))) hym2 HYL.out.2.1 rfl
                  have HSP := Lib.hid (show (fQ (fQ (fE s7 Ps' col') (yBeg y)) (yTok (yBeg y))).Ps = (fQ (fE s7 Ps' col') (yTok (yBeg y))).Ps from psub_twice rfl)
                  have HX10 := Lib.hid (HX9.out.next st10 rfl)
                  have HR10 := Lib.hid (HR9.out.next st10 rfl)
                  have HST10 := Lib.hid (HST9.out.trans st10)
                  have x0 : w10.cell? ⟨b15, 0, none⟩ = some (.int .i64 x.id) := (cell_of HX10.out.cells 0).trans rfl
                  have x1 : w10.cell? ⟨b15, 1, none⟩ = some (.int .i64 x.rc) := (cell_of HX10.out.cells 1).trans rfl
                  have x4 : w10.cell? ⟨b15, 4, none⟩ = some (.string x.dom) := (cell_of HX10.out.cells 4).trans rfl
                  have hbt : ¬ b15 = y.tb := fun e => by
                    have h1 := (h10.cols.prs (yBeg y) hym2).2
                    have h2 := HX10.out.no
                    rw [e] at h2
                    exact absurd (h1.symm.trans h2) (fun h => by cases h)
                  have hbt' : ¬ y.tb = b15 := fun e => hbt e.symm
                  have lx := lt_of_block HX10.out.cells
                  clear h10 hyi2 hym2
                  go_upto_region 29 with fail
                  have hn12 := heap_new (w := w10.setCell ⟨y.tb, 2, none⟩ (.int .i64 (y.l - 1))) (.cells #[.int .i64 x.id, .int .i64 x.rc, .string x.dom] 66)
                  have hk12 : Kp (fun _ => False) (w10.setCell ⟨y.tb, 2, none⟩ (.int .i64 (y.l - 1))) ((w10.setCell ⟨y.tb, 2, none⟩ (.int .i64 (y.l - 1))).alloc (.cells #[.int .i64 x.id, .int .i64 x.rc, .string x.dom] 66)) := (by repeat (first | exact Kp.refl _ _ | apply Kp.drew | apply Kp.drewN | refine Kp.setCell ?_ _ _ (Or.inl rfl) | apply Kp.alloc))
                  rw [World.size_setCell] at hn12
                  obtain ⟨w12, hw12⟩ : ∃ w12, w12 = (w10.setCell ⟨y.tb, 2, none⟩ (.int .i64 (y.l - 1))).alloc (.cells #[.int .i64 x.id, .int .i64 x.rc, .string x.dom] 66) := ⟨_, rfl⟩
                  obtain ⟨b17, hb17⟩ : ∃ b, b = w10.heap.size := ⟨_, rfl⟩
                  rw [← hb17] at hn12 ⊢
                  rw [← hw12] at hk12 hn12 ⊢
                  obtain ⟨s12, hs12⟩ : ∃ s12, s12 = fQ (fQ (fE s7 Ps' col') (yBeg y)) (yTok (yBeg y)) := ⟨_, rfl⟩
                  rw [← hs12] at h11 st11
                  have HVB := Lib.hid (show Vb now x.dom s s12 from by
                    have h1 := Vb.begun (y' := yTok (yBeg y)) H9.out.doms (show y ∈ (fE s7 Ps' col').Ps from HY.out.2.2.2.2) rfl rfl rfl (by rw [HY.out.1, HV9.out.t now x.dom (Int.le_refl _) hn2, ← HYL.out.2.2]; rfl) HY.out.2.2.2.1 HV9.out.le
                    rw [HY.out.1] at h1
                    exact (Vb.of_vq HV9.out h1 HC7.out hn2).then (by rw [hs12]; exact HSP.out) (by rw [hs12]; rfl))
                  have HS12 := Lib.hid (show s12.Ws = s.Ws.set bn (Gox x) ∧ s12.D = s.D ∧ s12.c = s.c ∧ ab s12 = { ab s3 with W := (s3.Ws.set bn (Gox x)).map wx, last := lc } from by
                    refine ⟨by rw [hs12]; exact HS7.out.1, by rw [hs12]; exact HS7.out.2.1, by rw [hs12]; exact HC7.out, ?_⟩
                    rw [HS3.out.1]
                    rw [show ab s12 = ab s7 by rw [hs12]; rfl, HS7.out.2.2.2.2, HS6.out.2.2.2])
                  have h12 := h11.calm hk12
                  have HST12 := Lib.hid ((HST10.out.trans st11).calm hk12)
                  have HR12 := Lib.hid ((HR10.out.next st11 (by rw [hs12]; rfl)).calm hk12)
                  have HX12 := Lib.hid (h11.local (by rw [World.size_setCell]; exact Nat.le_of_eq hb17.symm) hn12)
                  obtain ⟨vo, vc, hvg⟩ := h12.gng.slice
                  have hgng := h12.gng
                  obtain ⟨T, hT⟩ : ∃ T, T = aStarts (ab s12) := ⟨_, rfl⟩
                  have hTl : T.length = s12.G.length := by rw [hT]; unfold aStarts; rw [List.length_map]; rfl
                  rw [hvg, ← hT] at hgng
                  have hnone : vo = none → s12.G.length = 0 ∧ vc = 0 := fun e => by
                    subst e
                    rcases hgng.shape with ⟨h1, h2, _⟩ | ⟨g, c, h1, _⟩
                    · simp only [Value.slice.injEq] at h1; exact ⟨h2, h1.2.2⟩
                    · simp only [Value.slice.injEq] at h1; cases h1.1
                  have hgl : s12.G.length ≤ 1000000 := Nat.le_trans h12.glen hN
                  have HNONE := Lib.hid hnone; have HTL := Lib.hid (show (Stc T).length = s12.G.length * 3 from by rw [Stc_len, hTl])
                  have HF := Lib.hid (show ∀ w', Kp (fun _ => False) w12 w' → w'.cell? ⟨q, 13, none⟩ = some (.slice vo s12.G.length vc) ∧ w'.cell? ⟨b17, 0, none⟩ = some (.int .i64 x.id) ∧ w'.cell? ⟨b17, 1, none⟩ = some (.int .i64 x.rc) ∧ w'.cell? ⟨b17, 2, none⟩ = some (.string x.dom) from fun w' hk => by
                    have hb := hk.keep HX12.out.cells (fun h => h)
                    exact ⟨(cell_of (hk.keep h12.head (fun h => h)) 13).trans (by show some s12.vg = _; rw [hvg]), (cell_of hb 0).trans rfl, (cell_of hb 1).trans rfl, (cell_of hb 2).trans rfl⟩)
                  have HNW := Lib.hid (show ∀ w', Kp (fun _ => False) w12 w' → ∀ ad, vo = some ad → ∀ j u, (Stc T)[j]? = some u → w'.cell? (ad.add j) = some u from fun w' hk => src_cells3 hgng rfl hk)
                  have HQ5 := Lib.hid (show q < w12.heap.size ∧ w12.frozen? ⟨q, 13, none⟩ = false from ⟨lt_of_block h12.head, frozen_of h12.head 13⟩)
                  have H12 := Lib.hid h12; have HT := Lib.hid hT
                  clear h12 hn12 hk12 hw12 hb17 hs12 h11 st11 st10 hvg hgng hT hTl hnone x0 x1 x4 hbt hbt' lx b3 fb3 hsub
                  go_cut [] from 217 (fun wx => ∃ (z : World) (a9 : Option Addr) (c9 : Nat), wx = z.setCell ⟨q, 13, none⟩ (.slice a9 (s12.G.length + 1) c9) ∧ Kp (fun _ => False) w12 z ∧ z.ownsRow w12.heap.size 66 3 (.slice a9 (s12.G.length + 1) c9) (s12.G.length + 1) (Stc T ++ [.int .i64 x.id, .int .i64 x.rc, .string x.dom]))
                  case first => as_aux_lemma =>
                    obtain ⟨i0, hi, hi0, hi1, hi2⟩ := info_parts st_info
                    refine region_E 12 (fun w' => Kp (fun _ => False) w12 w') (by kernel_rfl) (Kp.refl _ _).drew (fun hS => ?_)
                    refine takeE (i := 0) (v := ?_) rfl (by kernel_rfl) (by kernel_rfl) (by kernel_rfl) (by kernel_rfl) (fun _ _ _ h => h) hS (Or.inl ⟨by rfl, ?_⟩) ?_
                    rotate_left
                    · intro w hSw; obtain ⟨f12, g0, g1, g2⟩ := HF.out w hSw; go_simp <;> with_reducible rfl
                    try simp only [Act.put, List.setIfInBounds_toArray, List.set_cons_zero, List.set_cons_succ]
                    refine takeE (i := 2) (v := ?_) rfl (by kernel_rfl) (by kernel_rfl) (by kernel_rfl) (by kernel_rfl) (fun _ _ _ h => h) hS (Or.inl ⟨by rfl, ?_⟩) ?_
                    rotate_left
                    · intro w hSw; obtain ⟨f12, g0, g1, g2⟩ := HF.out w hSw; go_simp <;> with_reducible rfl
                    try simp only [Act.put, List.setIfInBounds_toArray, List.set_cons_zero, List.set_cons_succ]
                    refine takeE (i := 3) (v := ?_) rfl (by kernel_rfl) (by kernel_rfl) (by kernel_rfl) (by kernel_rfl) (fun _ _ _ h => h) hS (Or.inl ⟨by rfl, ?_⟩) ?_
                    rotate_left
                    · intro w hSw; obtain ⟨f12, g0, g1, g2⟩ := HF.out w hSw; go_simp <;> with_reducible rfl
                    try simp only [Act.put, List.setIfInBounds_toArray, List.set_cons_zero, List.set_cons_succ]
                    refine takeE (i := 4) (v := ?_) rfl (by kernel_rfl) (by kernel_rfl) (by kernel_rfl) (by kernel_rfl) (fun _ _ _ h => h) hS (Or.inl ⟨by rfl, ?_⟩) ?_
                    rotate_left
                    · intro w hSw; obtain ⟨f12, g0, g1, g2⟩ := HF.out w hSw; go_simp <;> with_reducible rfl
                    try simp only [Act.put, List.setIfInBounds_toArray, List.set_cons_zero, List.set_cons_succ]
                    refine takeE (i := 5) (v := ?_) rfl (by kernel_rfl) (by kernel_rfl) (by kernel_rfl) (by kernel_rfl) (fun _ _ _ h => h) hS (Or.inl ⟨by rfl, ?_⟩) ?_
                    rotate_left
                    · intro w hSw; obtain ⟨f12, g0, g1, g2⟩ := HF.out w hSw; go_simp <;> with_reducible rfl
                    try simp only [Act.put, List.setIfInBounds_toArray, List.set_cons_zero, List.set_cons_succ]
                    refine takeE (i := 7) (v := ?_) rfl (by kernel_rfl) (by kernel_rfl) (by kernel_rfl) (by kernel_rfl) (fun _ _ _ h => h) hS (Or.inl ⟨by rfl, ?_⟩) ?_
                    rotate_left
                    · intro w hSw; obtain ⟨f12, g0, g1, g2⟩ := HF.out w hSw; go_simp <;> with_reducible rfl
                    try simp only [Act.put, List.setIfInBounds_toArray, List.set_cons_zero, List.set_cons_succ]
                    refine readyE (rs := [1, 8]) (by kernel_rfl) (by simp) ?_
                    refine consE (o := _) rfl (fun K hK => ?_) (consE (o := _) rfl (fun K hK => ?_) nilE)
                    ·
                      -- 1 buildSlice
                      go_simp
                      have hsz1 := hS.size
                      refine allocE hK (hS.alloc _) (fun z1 hz1 hS => ?_)
                      have hO1 : z1.ownsRow w12.heap.size 66 3 (.slice (some ⟨w12.drew.heap.size, 0, none⟩) 0 0) 0 [] := by rw [hz1]; exact World.ownsRow_lit _ #[] 0 hsz1 (by unfold maxLen; omega) rfl
                      have hk1 : Kp (fun _ => False) w12.drew z1 := by rw [hz1]; exact (Kp.refl _ _).alloc _
                      have hd1 : w12.drew.heap.size < z1.heap.size := by rw [hz1, World.size_alloc]; exact Nat.lt_succ_self _
                      have hin1 : ∀ k, In (.slice (some ⟨w12.drew.heap.size, 0, none⟩) 0 0) k → k = w12.drew.heap.size := fun k e => by have e2 : some w12.drew.heap.size = some k := e; cases e2; rfl
                      try (have hC8b := news_keep hk1 hl8 (fun h => h) hC8; have hl8b := Nat.lt_of_lt_of_le hl8 hk1.size; clear hC8 hl8; have hC8 := hC8b; have hl8 := hl8b; clear hC8b hl8b)
                      clear hz1
                      clear hK K
                      try simp only [Act.put, List.setIfInBounds_toArray, List.set_cons_zero, List.set_cons_succ]
                      refine readyE (rs := [6, 8]) (by kernel_rfl) (by simp) ?_
                      refine consE (o := _) rfl (fun K hK => ?_) (consE (o := _) rfl (fun K hK => ?_) nilE)
                      ·
                        -- 6 call
                        refine step_append_src rfl _ _ 52 rfl w12.heap.size 66 i0 _ 3 32 Try.underlying52 hi hi0 hi1 hi2 rfl (by decide) _ 0 [] rfl (by first | exact hO1 | exact own_keep hO1 hk8 (fun _ _ h => h)) vo s12.G.length vc (Stc T) rfl HNONE.out HTL.out (HNW.out _ hS) (Stc_one _) (by unfold maxLen; omega) (by omega) hS.size ?_
                        intro v6 z2 hO6 hk6
                        have hS6 : Kp (fun _ => False) w12 z2 := hS.trans_new hk6 (fun k h1 h2 => by have := hin1 k h2; omega)
                        try (have hC8b := news_keep hk6 hl8 (fun e => by have := hin1 _ e; omega) hC8; have hl8b := Nat.lt_of_lt_of_le hl8 hk6.size; clear hC8 hl8; have hC8 := hC8b; have hl8 := hl8b; clear hC8b hl8b)
                        refine keepE hK hS6 (fun hS => ?_)
                        clear hK K
                        try simp only [Act.put, List.setIfInBounds_toArray, List.set_cons_zero, List.set_cons_succ]
                        refine readyE (rs := [8]) (by kernel_rfl) (by simp) ?_
                        refine consE (o := _) rfl (fun K hK => ?_) nilE
                         -- 8
                        simp (maxSteps := 4000000) [go_sem]
                        have hsz8 := hS.size
                        refine allocE hK (hS.alloc _) (fun z3 hz3 hS => ?_)
                        have hC8 : ∀ j u, ([.int .i64 x.id, .int .i64 x.rc, .string x.dom])[j]? = some u → z3.cell? ((⟨z2.heap.size, 0, none⟩ : Addr).add j) = some u := by rw [hz3]; exact lit_news (cs := [.int .i64 x.id, .int .i64 x.rc, .string x.dom]) _ rfl
                        have hk8 : Kp (fun _ => False) z2 z3 := by rw [hz3]; exact (Kp.refl _ _).alloc _
                        have hd8 : z2.heap.size < z3.heap.size := by rw [hz3, World.size_alloc]; exact Nat.lt_succ_self _
                        have hl8 : z2.heap.size < z3.heap.size := by omega
                        clear hz3
                        clear hK K
                        try simp only [Act.put, List.setIfInBounds_toArray, List.set_cons_zero, List.set_cons_succ]
                        refine readyE (rs := [9]) (by kernel_rfl) (by simp) ?_
                        refine consE (o := _) rfl (fun K hK => ?_) nilE
                        -- 9 call
                        refine step_append_src rfl _ _ 52 rfl w12.heap.size 66 i0 _ 3 32 Try.underlying52 hi hi0 hi1 hi2 rfl (by decide) _ _ _ rfl (by first | exact hO6 | exact own_keep hO6 hk8 (fun _ _ h => h)) (some ⟨_, 0, none⟩) 1 1 ([.int .i64 x.id, .int .i64 x.rc, .string x.dom]) rfl (fun h => by cases h) rfl (by intro ad e; cases e; exact hC8) (Stc_one [(x.id, x.rc, x.dom)]) (by unfold maxLen; omega) (by omega) hS.size ?_
                        intro v9 z4 hO9 hk9
                        obtain ⟨a9, c9, rfl⟩ := (own_weaken hO9).slice
                        have hS9 : Kp (fun _ => False) w12 z4 := hS.trans_new hk9 (fun k h1 h2 => by have := (World.ownsRow.lt hO6 k h2).1; omega)
                        refine keepE hK hS9 (fun hS => ?_)
                        clear hK K
                        try simp only [Act.put, List.setIfInBounds_toArray, List.set_cons_zero, List.set_cons_succ]
                        refine readyE (rs := [10]) (by kernel_rfl) (by simp) ?_
                        refine consE (o := _) rfl (fun K hK => ?_) nilE
                        -- 10 nilCheck
                        go_simp
                        refine keepE hK hS (fun hS => ?_)
                        clear hK K
                        try simp only [Act.put, List.setIfInBounds_toArray, List.set_cons_zero, List.set_cons_succ]
                        refine takeE (i := 11) (v := ?_) rfl (by kernel_rfl) (by kernel_rfl) (by kernel_rfl) (by kernel_rfl) (fun _ _ _ h => h) hS (Or.inl ⟨by rfl, ?_⟩) ?_
                        rotate_left
                        · intro w hSw; obtain ⟨f12, g0, g1, g2⟩ := HF.out w hSw; go_simp <;> with_reducible rfl
                        try simp only [Act.put, List.setIfInBounds_toArray, List.set_cons_zero, List.set_cons_succ]
                        refine readyE (rs := [12]) (by kernel_rfl) (by simp) ?_
                        refine consE (o := _) rfl (fun K hK => ?_) nilE
                        -- 12 store
                        have e12 := (hS.frozen 13 HQ5.out.1 (fun h => h)).trans HQ5.out.2
                        obtain ⟨f12, _⟩ := HF.out _ hS
                        simp (maxSteps := 4000000) [go_sem, f12, e12]
                        refine hK.out _ _ (fun h => absurd rfl h) ?_
                        clear hK K
                        try simp only [Act.put, List.setIfInBounds_toArray, List.set_cons_zero, List.set_cons_succ]
                        refine doneE (by kernel_rfl) ?_ _
                        go_wp2_with fail
                        go_meet
                        exact ⟨_, _, _, rfl, hS, by have h := hO9; rw [List.nil_append, Nat.zero_add] at h; exact h⟩
                      ·
                         -- 8
                        simp (maxSteps := 4000000) [go_sem]
                        have hsz8 := hS.size
                        refine allocE hK (hS.alloc _) (fun z2 hz2 hS => ?_)
                        have hC8 : ∀ j u, ([.int .i64 x.id, .int .i64 x.rc, .string x.dom])[j]? = some u → z2.cell? ((⟨z1.heap.size, 0, none⟩ : Addr).add j) = some u := by rw [hz2]; exact lit_news (cs := [.int .i64 x.id, .int .i64 x.rc, .string x.dom]) _ rfl
                        have hk8 : Kp (fun _ => False) z1 z2 := by rw [hz2]; exact (Kp.refl _ _).alloc _
                        have hd8 : z1.heap.size < z2.heap.size := by rw [hz2, World.size_alloc]; exact Nat.lt_succ_self _
                        have hl8 : z1.heap.size < z2.heap.size := by omega
                        clear hz2
                        clear hK K
                        try simp only [Act.put, List.setIfInBounds_toArray, List.set_cons_zero, List.set_cons_succ]
                        refine readyE (rs := [6]) (by kernel_rfl) (by simp) ?_
                        refine consE (o := _) rfl (fun K hK => ?_) nilE
                        -- 6 call
                        refine step_append_src rfl _ _ 52 rfl w12.heap.size 66 i0 _ 3 32 Try.underlying52 hi hi0 hi1 hi2 rfl (by decide) _ 0 [] rfl (by first | exact hO1 | exact own_keep hO1 hk8 (fun _ _ h => h)) vo s12.G.length vc (Stc T) rfl HNONE.out HTL.out (HNW.out _ hS) (Stc_one _) (by unfold maxLen; omega) (by omega) hS.size ?_
                        intro v6 z3 hO6 hk6
                        have hS6 : Kp (fun _ => False) w12 z3 := hS.trans_new hk6 (fun k h1 h2 => by have := hin1 k h2; omega)
                        try (have hC8b := news_keep hk6 hl8 (fun e => by have := hin1 _ e; omega) hC8; have hl8b := Nat.lt_of_lt_of_le hl8 hk6.size; clear hC8 hl8; have hC8 := hC8b; have hl8 := hl8b; clear hC8b hl8b)
                        refine keepE hK hS6 (fun hS => ?_)
                        clear hK K
                        try simp only [Act.put, List.setIfInBounds_toArray, List.set_cons_zero, List.set_cons_succ]
                        refine readyE (rs := [9]) (by kernel_rfl) (by simp) ?_
                        refine consE (o := _) rfl (fun K hK => ?_) nilE
                        -- 9 call
                        refine step_append_src rfl _ _ 52 rfl w12.heap.size 66 i0 _ 3 32 Try.underlying52 hi hi0 hi1 hi2 rfl (by decide) _ _ _ rfl (by first | exact hO6 | exact own_keep hO6 hk8 (fun _ _ h => h)) (some ⟨_, 0, none⟩) 1 1 ([.int .i64 x.id, .int .i64 x.rc, .string x.dom]) rfl (fun h => by cases h) rfl (by intro ad e; cases e; exact hC8) (Stc_one [(x.id, x.rc, x.dom)]) (by unfold maxLen; omega) (by omega) hS.size ?_
                        intro v9 z4 hO9 hk9
                        obtain ⟨a9, c9, rfl⟩ := (own_weaken hO9).slice
                        have hS9 : Kp (fun _ => False) w12 z4 := hS.trans_new hk9 (fun k h1 h2 => by have := (World.ownsRow.lt hO6 k h2).1; omega)
                        refine keepE hK hS9 (fun hS => ?_)
                        clear hK K
                        try simp only [Act.put, List.setIfInBounds_toArray, List.set_cons_zero, List.set_cons_succ]
                        refine readyE (rs := [10]) (by kernel_rfl) (by simp) ?_
                        refine consE (o := _) rfl (fun K hK => ?_) nilE
                        -- 10 nilCheck
                        go_simp
                        refine keepE hK hS (fun hS => ?_)
                        clear hK K
                        try simp only [Act.put, List.setIfInBounds_toArray, List.set_cons_zero, List.set_cons_succ]
                        refine takeE (i := 11) (v := ?_) rfl (by kernel_rfl) (by kernel_rfl) (by kernel_rfl) (by kernel_rfl) (fun _ _ _ h => h) hS (Or.inl ⟨by rfl, ?_⟩) ?_
                        rotate_left
                        · intro w hSw; obtain ⟨f12, g0, g1, g2⟩ := HF.out w hSw; go_simp <;> with_reducible rfl
                        try simp only [Act.put, List.setIfInBounds_toArray, List.set_cons_zero, List.set_cons_succ]
                        refine readyE (rs := [12]) (by kernel_rfl) (by simp) ?_
                        refine consE (o := _) rfl (fun K hK => ?_) nilE
                        -- 12 store
                        have e12 := (hS.frozen 13 HQ5.out.1 (fun h => h)).trans HQ5.out.2
                        obtain ⟨f12, _⟩ := HF.out _ hS
                        simp (maxSteps := 4000000) [go_sem, f12, e12]
                        refine hK.out _ _ (fun h => absurd rfl h) ?_
                        clear hK K
                        try simp only [Act.put, List.setIfInBounds_toArray, List.set_cons_zero, List.set_cons_succ]
                        refine doneE (by kernel_rfl) ?_ _
                        go_wp2_with fail
                        go_meet
                        exact ⟨_, _, _, rfl, hS, by have h := hO9; rw [List.nil_append, Nat.zero_add] at h; exact h⟩
                    ·
                       -- 8
                      simp (maxSteps := 4000000) [go_sem]
                      have hsz8 := hS.size
                      refine allocE hK (hS.alloc _) (fun z1 hz1 hS => ?_)
                      have hC8 : ∀ j u, ([.int .i64 x.id, .int .i64 x.rc, .string x.dom])[j]? = some u → z1.cell? ((⟨w12.drew.heap.size, 0, none⟩ : Addr).add j) = some u := by rw [hz1]; exact lit_news (cs := [.int .i64 x.id, .int .i64 x.rc, .string x.dom]) _ rfl
                      have hk8 : Kp (fun _ => False) w12.drew z1 := by rw [hz1]; exact (Kp.refl _ _).alloc _
                      have hd8 : w12.drew.heap.size < z1.heap.size := by rw [hz1, World.size_alloc]; exact Nat.lt_succ_self _
                      have hl8 : w12.drew.heap.size < z1.heap.size := by omega
                      clear hz1
                      clear hK K
                      try simp only [Act.put, List.setIfInBounds_toArray, List.set_cons_zero, List.set_cons_succ]
                      refine readyE (rs := [1]) (by kernel_rfl) (by simp) ?_
                      refine consE (o := _) rfl (fun K hK => ?_) nilE
                      -- 1 buildSlice
                      go_simp
                      have hsz1 := hS.size
                      refine allocE hK (hS.alloc _) (fun z2 hz2 hS => ?_)
                      have hO1 : z2.ownsRow w12.heap.size 66 3 (.slice (some ⟨z1.heap.size, 0, none⟩) 0 0) 0 [] := by rw [hz2]; exact World.ownsRow_lit _ #[] 0 hsz1 (by unfold maxLen; omega) rfl
                      have hk1 : Kp (fun _ => False) z1 z2 := by rw [hz2]; exact (Kp.refl _ _).alloc _
                      have hd1 : z1.heap.size < z2.heap.size := by rw [hz2, World.size_alloc]; exact Nat.lt_succ_self _
                      have hin1 : ∀ k, In (.slice (some ⟨z1.heap.size, 0, none⟩) 0 0) k → k = z1.heap.size := fun k e => by have e2 : some z1.heap.size = some k := e; cases e2; rfl
                      try (have hC8b := news_keep hk1 hl8 (fun h => h) hC8; have hl8b := Nat.lt_of_lt_of_le hl8 hk1.size; clear hC8 hl8; have hC8 := hC8b; have hl8 := hl8b; clear hC8b hl8b)
                      clear hz2
                      clear hK K
                      try simp only [Act.put, List.setIfInBounds_toArray, List.set_cons_zero, List.set_cons_succ]
                      refine readyE (rs := [6]) (by kernel_rfl) (by simp) ?_
                      refine consE (o := _) rfl (fun K hK => ?_) nilE
                      -- 6 call
                      refine step_append_src rfl _ _ 52 rfl w12.heap.size 66 i0 _ 3 32 Try.underlying52 hi hi0 hi1 hi2 rfl (by decide) _ 0 [] rfl (by first | exact hO1 | exact own_keep hO1 hk8 (fun _ _ h => h)) vo s12.G.length vc (Stc T) rfl HNONE.out HTL.out (HNW.out _ hS) (Stc_one _) (by unfold maxLen; omega) (by omega) hS.size ?_
                      intro v6 z3 hO6 hk6
                      have hS6 : Kp (fun _ => False) w12 z3 := hS.trans_new hk6 (fun k h1 h2 => by have := hin1 k h2; omega)
                      try (have hC8b := news_keep hk6 hl8 (fun e => by have := hin1 _ e; omega) hC8; have hl8b := Nat.lt_of_lt_of_le hl8 hk6.size; clear hC8 hl8; have hC8 := hC8b; have hl8 := hl8b; clear hC8b hl8b)
                      refine keepE hK hS6 (fun hS => ?_)
                      clear hK K
                      try simp only [Act.put, List.setIfInBounds_toArray, List.set_cons_zero, List.set_cons_succ]
                      refine readyE (rs := [9]) (by kernel_rfl) (by simp) ?_
                      refine consE (o := _) rfl (fun K hK => ?_) nilE
                      -- 9 call
                      refine step_append_src rfl _ _ 52 rfl w12.heap.size 66 i0 _ 3 32 Try.underlying52 hi hi0 hi1 hi2 rfl (by decide) _ _ _ rfl (by first | exact hO6 | exact own_keep hO6 hk8 (fun _ _ h => h)) (some ⟨_, 0, none⟩) 1 1 ([.int .i64 x.id, .int .i64 x.rc, .string x.dom]) rfl (fun h => by cases h) rfl (by intro ad e; cases e; exact hC8) (Stc_one [(x.id, x.rc, x.dom)]) (by unfold maxLen; omega) (by omega) hS.size ?_
                      intro v9 z4 hO9 hk9
                      obtain ⟨a9, c9, rfl⟩ := (own_weaken hO9).slice
                      have hS9 : Kp (fun _ => False) w12 z4 := hS.trans_new hk9 (fun k h1 h2 => by have := (World.ownsRow.lt hO6 k h2).1; omega)
                      refine keepE hK hS9 (fun hS => ?_)
                      clear hK K
                      try simp only [Act.put, List.setIfInBounds_toArray, List.set_cons_zero, List.set_cons_succ]
                      refine readyE (rs := [10]) (by kernel_rfl) (by simp) ?_
                      refine consE (o := _) rfl (fun K hK => ?_) nilE
                      -- 10 nilCheck
                      go_simp
                      refine keepE hK hS (fun hS => ?_)
                      clear hK K
                      try simp only [Act.put, List.setIfInBounds_toArray, List.set_cons_zero, List.set_cons_succ]
                      refine takeE (i := 11) (v := ?_) rfl (by kernel_rfl) (by kernel_rfl) (by kernel_rfl) (by kernel_rfl) (fun _ _ _ h => h) hS (Or.inl ⟨by rfl, ?_⟩) ?_
                      rotate_left
                      · intro w hSw; obtain ⟨f12, g0, g1, g2⟩ := HF.out w hSw; go_simp <;> with_reducible rfl
                      try simp only [Act.put, List.setIfInBounds_toArray, List.set_cons_zero, List.set_cons_succ]
                      refine readyE (rs := [12]) (by kernel_rfl) (by simp) ?_
                      refine consE (o := _) rfl (fun K hK => ?_) nilE
                      -- 12 store
                      have e12 := (hS.frozen 13 HQ5.out.1 (fun h => h)).trans HQ5.out.2
                      obtain ⟨f12, _⟩ := HF.out _ hS
                      simp (maxSteps := 4000000) [go_sem, f12, e12]
                      refine hK.out _ _ (fun h => absurd rfl h) ?_
                      clear hK K
                      try simp only [Act.put, List.setIfInBounds_toArray, List.set_cons_zero, List.set_cons_succ]
                      refine doneE (by kernel_rfl) ?_ _
                      go_wp2_with fail
                      go_meet
                      exact ⟨_, _, _, rfl, hS, by have h := hO9; rw [List.nil_append, Nat.zero_add] at h; exact h⟩
                  case rest => as_aux_lemma =>
                    obtain ⟨z, a9, c9, rfl, hzk, hzo⟩ := hcut
                    have hxm : Gox x ∈ s12.Ws := by rw [HS12.out.1]; exact List.mem_of_getElem? (List.getElem?_set_self (List.getElem?_eq_some_iff.1 HXB.out).1)
                    have hG3 : s3.G = s.G := by
                      have h1 := congrArg Ab.G HS3.out.2.2.2.2
                      cases lc <;> exact h1
                    have hG12 : s12.G = s3.G := congrArg Ab.G HS12.out.2.2.2
                    have hxg : x.go = false := by
                      have h1 := HRX.out
                      unfold rdy at h1
                      simp only [Bool.and_eq_true] at h1
                      simpa using h1.2.1
                    have hng : (x.id, x.rc) ∉ s12.G := by rw [hG12, hG3]; exact not_going H.out.gin H.out.keys (List.mem_of_getElem? HXB.out) hxg
                    obtain ⟨h13, st13⟩ := H12.out.addG (x := Gox x) hzk hxm rfl hng (by rw [← HT.out]; exact hzo) rfl
                    obtain ⟨w13, hw13⟩ : ∃ w13, w13 = z.setCell ⟨q, 13, none⟩ (.slice a9 (s12.G.length + 1) c9) := ⟨_, rfl⟩
                    rw [← hw13] at h13 st13 ⊢
                    obtain ⟨s13, hs13⟩ : ∃ s13, s13 = fG s12 (.slice a9 (s12.G.length + 1) c9) (s12.G ++ [((Gox x).id, (Gox x).rc)]) := ⟨_, rfl⟩
                    rw [← hs13] at h13 st13
                    have HR13 := Lib.hid (HR12.out.next st13 (by rw [hs13]; rfl))
                    have HX13 := Lib.hid (HX12.out.next st13 (by rw [hs13]; rfl))
                    have hab : ab s13 = { ab s3 with W := (s3.Ws.set bn (Gox x)).map wx, G := s3.G ++ [(x.id, x.rc)], last := lc } := by
                      have h1 : ab s13 = { ab s12 with G := s12.G ++ [(x.id, x.rc)] } := by rw [hs13]; rfl
                      rw [h1, HS12.out.2.2.2, hG12]
                    have HFIN := Lib.hid (show ∀ wz, Kp (fun k => k = b4) w13 wz → FPick q N s now w (.returned (.tuple #[.agg #[.int .i64 x.id, .int .i64 x.rc, .string x.dom], .bool true])) wz from fun wz hkz => by
                      have hpk2 : pk s now (!s.last) ∨ pk s now s.last := by
                        have h1 := HPKL.out
                        unfold pkl at h1
                        by_cases e : pk s now (!s.last)
                        · exact Or.inl e
                        · rw [if_neg e] at h1; exact Or.inr (by rw [h1]; exact HPK.out)
                      refine ⟨fun h => absurd hpk2 (fun h2 => h2.elim h.1 h.2), fun _ => ?_⟩
                      rw [HPKL.out, ← HNM1.out]
                      exact ⟨x, s13, _, _, HBST.out, rfl, h13.past HR13.out hkz, (((HST3.out.trans HP4.out.st).trans HST12.out).trans st13).past hkz (fun k e => by have e2 : k = b4 := e; rw [e2, HB4.out]; exact Nat.le_refl _), begin_ab HS3.out.2.2.2.2 hG3.symm (by rw [HS3.out.1]; exact H.out.keys) (by rw [HS3.out.1]; exact HXB.out) hab, HVB.out.then (by rw [hs13]; rfl) (by rw [hs13]; rfl), by rw [hs13]; exact HS12.out.2.1⟩)
                    have r1 := cell_of HR13.out.cells 0
                    have r2 := cell_of HR13.out.cells 1
                    have r3 := cell_of HR13.out.cells 2
                    simp only [List.getElem?_toArray, List.getElem?_cons_zero, List.getElem?_cons_succ] at r1 r2 r3
                    have e1 := frozen_of HR13.out.cells 0
                    have e2 := frozen_of HR13.out.cells 1
                    have e3 := frozen_of HR13.out.cells 2
                    have v0 : w13.cell? ⟨b17, 0, none⟩ = some (.int .i64 x.id) := (cell_of HX13.out.cells 0).trans rfl
                    have v1 : w13.cell? ⟨b17, 1, none⟩ = some (.int .i64 x.rc) := (cell_of HX13.out.cells 1).trans rfl
                    have v2 : w13.cell? ⟨b17, 2, none⟩ = some (.string x.dom) := (cell_of HX13.out.cells 2).trans rfl
                    clear h13 st13 hs13 hw13 hzk hzo hxm hng hxg hG3 hG12 hab
                    go_wp2_with fail
                    refine bodyPost_ret (v := .tuple #[.agg #[.int .i64 x.id, .int .i64 x.rc, .string x.dom], .bool true]) ?_ rfl (HFIN.out _ ?_)
                    · rw [results_cell_tmp rfl]
                      go_simp
                    · exact (by repeat (first | exact Kp.refl _ _ | apply Kp.drew | apply Kp.drewN | refine Kp.setCell ?_ _ _ (Or.inl rfl) | apply Kp.alloc))
          · unfold Gnext at hq
            rw [if_neg (show ¬ Fx (rsn s lc now) (rgA s lc) < (rgA s lc).length from hpk)] at hq
            obtain ⟨rfl, rfl⟩ := hq
            have HPK := Lib.hid hpk
            clear hpk
            go_wp2_with fail
            go_roundg (2 - (j + 1))
            case measure => rw [HKk.out]; omega
            case rel => exact ⟨j + 1, s2, vp2, rfl, by omega, by congr 1, HPI2.out, fun _ => by
                by_cases e : j = 0
                · have h1 := HLC.out; rw [if_pos e] at h1; rw [← h1]; exact HPK.out
                · exact HP1.out (by omega), fun h => by
                have h1 := HLC.out; rw [if_neg (by omega)] at h1; rw [← h1]; exact HPK.out⟩
    · as_aux_lemma =>
        have hj2 : j = 2 := by omega
        have HNO := Lib.hid (show ¬ pk s now (!s.last) ∧ ¬ pk s now s.last from ⟨HP1.out (by omega), HP2.out (by omega)⟩)
        have q1 : ¬ ((j : Int) + 1 ≤ 2) := by omega
        have q1' : (2 : Int) < (j : Int) + 1 := by omega
        have HZ := Lib.hid (show ∀ wz, Kp (fun k => k = b4) wr wz → FPick q N s now w (.returned (.tuple #[z3, .bool false])) wz from fun wz hkz =>
          ⟨fun _ => ⟨rfl, s1, _, vp1, HPI.out.mi.past HPI.out.lo hkz, HPI.out.st.past hkz (fun k e => by have e2 : k = b4 := e; rw [e2, HB4.out]; exact Nat.le_refl _), HPI.out.ab, HPI.out.vq, HPI.out.dd⟩, fun h => absurd h (fun h => h.elim HNO.out.1 HNO.out.2)⟩)
        have r1 := cell_of HPI.out.lo.cells 0
        have r2 := cell_of HPI.out.lo.cells 1
        have r3 := cell_of HPI.out.lo.cells 2
        simp only [List.getElem?_toArray, List.getElem?_cons_zero, List.getElem?_cons_succ] at r1 r2 r3
        have e1 := frozen_of HPI.out.lo.cells 0
        have e2 := frozen_of HPI.out.lo.cells 1
        have e3 := frozen_of HPI.out.lo.cells 2
        clear hj2
        go_wp2_with fail
        refine bodyPost_ret (v := .tuple #[z3, .bool false]) ?_ rfl (HZ.out _ ?_)
        · rw [results_cell_tmp rfl]
          go_simp
          rfl
        · exact (by repeat (first | exact Kp.refl _ _ | apply Kp.drew | apply Kp.drewN | refine Kp.setCell ?_ _ _ (Or.inl rfl) | apply Kp.alloc))
end Go.Proofs.Ytbiahndpfbmoeaa
