/- What the methods Push and Pop of package due's heap do. Condition: it holds no more alarms than fit into memory. -/
import Derived.Test.YtjipppejcpokkaaDue
namespace Go.Proofs.Ytjipppejcpokkaa
open Go.RowKit

theorem Own.cut {w : World} {e : TypeId} {g n cap k : Nat} {xs : List Value} (h : Own w e 1 (.slice (some ⟨g, 0, none⟩) n cap) n xs) (hk : k ≤ n) : Own w e 1 (.slice (some ⟨g, 0, none⟩) k cap) k (xs.take k) := by
  obtain ⟨h1, h2⟩ := h
  rw [Nat.mul_one] at h1
  refine ⟨by rw [List.length_take]; omega, ?_⟩
  rcases h2 with ⟨h2, _⟩ | ⟨g', cap', cur, hv, hg, hh, hn, hm, hc, ht⟩
  · cases h2
  · cases hv
    refine Or.inr ⟨g, cap, cur, rfl, hg, hh, by omega, hm, hc, ?_⟩
    rw [← ht, List.take_take]
    congr 1
    omega
theorem G_take {L : List Al} {n k : Nat} (h : k < n) : G (L.take n) k = G L k := by
  unfold G
  rw [List.getD_eq_getElem?_getD, List.getD_eq_getElem?_getD, List.getElem?_take_of_lt h]
theorem G_app {L M : List Al} {k : Nat} (h : k < L.length) : G (L ++ M) k = G L k := by
  unfold G
  rw [List.getD_eq_getElem?_getD, List.getD_eq_getElem?_getD, List.getElem?_append_left h]
theorem G_last {L : List Al} {a : Al} : G (L ++ [a]) L.length = a := by
  unfold G
  rw [List.getD_eq_getElem?_getD, List.getElem?_append_right (Nat.le_refl _)]
  simp

def Popped (p : Nat) (v m : Value) (L : List Al) (w : World) (e : Ending) (w' : World) : Prop :=
  e = .returned (.iface 51 (.pointer (some ⟨(G L (L.length - 1)).blk, 0, none⟩))) ∧ (∃ v', AlAt w' p v' m (L.take (L.length - 1)) ∧ v'.ownBlock = v.ownBlock) ∧ Kp (· = p) w w'
theorem pop_close {w : World} {p g cap n : Nat} {m : Value} {L : List Al} (h : AlAt w p (.slice (some ⟨g, 0, none⟩) L.length cap) m L) (hn : n = L.length - 1) :
    AlAt (w.setCell ⟨p, 0, none⟩ (.slice (some ⟨g, 0, none⟩) n cap)) p (.slice (some ⟨g, 0, none⟩) n cap) m (L.take n) := by
  have hl : (L.take n).length = n := by rw [List.length_take]; omega
  have hgp : g ≠ p := by have := h.apart; simpa [Value.ownBlock] using this
  have hk : Kp (· = p) w (w.setCell ⟨p, 0, none⟩ (.slice (some ⟨g, 0, none⟩) n cap)) := (by repeat (first | exact Kp.refl _ _ | apply Kp.drew | apply Kp.drewN | refine Kp.setCell ?_ _ _ (Or.inl rfl) | apply Kp.alloc))
  refine ⟨heap_set h.head _, ?_, by simpa [Value.ownBlock] using hgp, fun i hi => ?_, fun a ha => ?_, fun i j hi hj e => ?_⟩
  · rw [hl]
    have := Own.cut h.row (k := n) (by omega)
    rw [show Pc (L.take n) = (Pc L).take n by unfold Pc; rw [List.map_take]]
    exact this.keep hk (fun k hk => by
      have : g = k := by simpa [Value.ownBlock] using hk
      subst this; exact hgp)
  · rw [hl] at hi
    rw [G_take hi]
    exact hk.keep (h.each i (by omega)) (h.own _ (G_mem (by omega))).1
  · have := h.own a (List.mem_of_mem_take ha)
    exact ⟨this.1, by simpa [Value.ownBlock] using this.2⟩
  · rw [hl] at hi hj
    rw [G_take hi, G_take hj] at e
    exact h.nodup i j (by omega) (by omega) e
theorem apop_any (p : Nat) (v m : Value) (L : List Al) (w : World) (h : AlAt w p v m L) (h0 : 0 < L.length) (hL : L.length ≤ 1000000000) :
    Calls Try.prog 41 #[.pointer (some ⟨p, 0, none⟩)] w (Popped p v m L w) := by
  rcases h.row.shape with ⟨_, h1, _⟩ | ⟨g, cap, rfl, hcap, hcm, hg⟩
  · omega
  obtain ⟨n, hn⟩ : ∃ n, n = L.length - 1 := ⟨_, rfl⟩
  have c0 := cell_of h.head 0
  simp only [List.getElem?_toArray, List.getElem?_cons_zero] at c0
  have f0 := frozen_of h.head 0
  have cl : w.cell? ⟨g, n, none⟩ = some (.pointer (some ⟨(G L n).blk, 0, none⟩)) := h.row.cell (Pc_get (by omega))
  have hw1 : IntKind.i64.wrap ((L.length : Int) - 1) = (n : Int) := by rw [show ((L.length : Int) - 1) = (n : Int) by omega]; exact IntWalk.i64_in _ (by omega)
  have hq : ((L.length : Int) - 1) = (n : Int) := by omega
  have q1 : (0 : Int) ≤ (n : Int) := by omega
  have q2 : (n : Int) < (L.length : Int) := by omega
  have q3 : (n : Int) ≤ (cap : Int) := by omega
  obtain ⟨b, hb⟩ : ∃ b, b = (G L n).blk := ⟨_, rfl⟩
  rw [← hb] at cl
  have HH := Lib.hid h; have HB := Lib.hid hb; have HN := Lib.hid hn; have HQ := Lib.hid hq
  clear h hb hn hq
  go_enter Try.func41, Try.ntmps41
  go_wp2_with fail
  go_ret
  refine ⟨by rw [← HN.out, ← HB.out]; rfl, ⟨.slice (some ⟨g, 0, none⟩) n cap, ?_, rfl⟩, (by repeat (first | exact Kp.refl _ _ | apply Kp.drew | apply Kp.drewN | refine Kp.setCell ?_ _ _ (Or.inl rfl) | apply Kp.alloc))⟩
  rw [← HN.out]
  exact pop_close HH.out HN.out

/-- the heap with one more at its end -/
def Pushed (p : Nat) (v m : Value) (L : List Al) (a : Al) (w : World) (e : Ending) (w' : World) : Prop :=
  e = .returned (.tuple #[]) ∧ (∃ v', AlAt w' p v' m (L ++ [a]) ∧ SameOrNew w v v') ∧ Kp (fun k => k = p ∨ In v k ∨ k = a.blk) w w'
theorem push_close {w w3 : World} {p : Nat} {v v' m : Value} {L : List Al} {a : Al} {z : Int} (h : AlAt w p v m L) (hb : w.heap[a.blk]? = some (.cells #[.int .i64 a.id, .int .i64 a.at', .int .i64 z] 54 (0, 0))) (hbp : a.blk ≠ p) (hbv : v.ownBlock ≠ some a.blk) (hbl : ∀ x ∈ L, x.blk ≠ a.blk)
    (ho : Own w3 51 1 v' (L.length + 1) (Pc L ++ [.pointer (some ⟨a.blk, 0, none⟩)])) (hk : Kp (In v) (w.setCell ⟨a.blk, 2, none⟩ (.int .i64 L.length)) w3) (hs : SameOrNew w v v') :
    (∃ u, AlAt (w3.setCell ⟨p, 0, none⟩ v') p u m (L ++ [a]) ∧ SameOrNew w v u) ∧ Kp (fun k => k = p ∨ In v k ∨ k = a.blk) w (w3.setCell ⟨p, 0, none⟩ v') := by
  have hl : (L ++ [a]).length = L.length + 1 := by simp
  have hp := lt_of_block h.head
  have hba := lt_of_block hb
  have k1 : Kp (· = a.blk) w (w.setCell ⟨a.blk, 2, none⟩ (.int .i64 L.length)) := (by repeat (first | exact Kp.refl _ _ | apply Kp.drew | apply Kp.drewN | refine Kp.setCell ?_ _ _ (Or.inl rfl) | apply Kp.alloc))
  have k3 : Kp (· = p) w3 (w3.setCell ⟨p, 0, none⟩ v') := (by repeat (first | exact Kp.refl _ _ | apply Kp.drew | apply Kp.drewN | refine Kp.setCell ?_ _ _ (Or.inl rfl) | apply Kp.alloc))
  have hall : Kp (fun k => k = p ∨ In v k ∨ k = a.blk) w (w3.setCell ⟨p, 0, none⟩ v') :=
    ((k1.mono (fun k _ e => Or.inr (Or.inr e))).trans (hk.mono (fun k _ e => Or.inr (Or.inl e)))).trans (k3.mono (fun k _ e => Or.inl e))
  have hvp : v'.ownBlock ≠ some p := hs.ne hp h.apart
  refine ⟨⟨v', ⟨?_, ?_, hvp, fun i hi => ?_, fun x hx => ?_, fun i j hi hj e => ?_⟩, hs⟩, hall⟩
  · exact heap_set (hk.keep (k1.keep h.head (fun e => hbp e.symm)) h.apart) _
  · rw [hl, show Pc (L ++ [a]) = Pc L ++ [.pointer (some ⟨a.blk, 0, none⟩)] by simp [Pc]]
    exact ho.keep k3 (fun k hk' e => hvp (by rw [hk']; exact congrArg some e))
  · rw [hl] at hi
    by_cases e : i = L.length
    · subst e
      rw [G_last]
      have := heap_set hb (i := 2) (.int .i64 L.length)
      exact k3.keep (hk.keep this hbv) hbp
    · rw [G_app (by omega)]
      have ho := h.own _ (G_mem (show i < L.length by omega))
      exact k3.keep (hk.keep (k1.keep (h.each i (by omega)) (hbl _ (G_mem (by omega)))) ho.2) ho.1
  · rw [List.mem_append, List.mem_singleton] at hx
    rcases hx with hx | rfl
    · have ho := h.own _ hx
      obtain ⟨k, hk, rfl⟩ := mem_G hx
      exact ⟨ho.1, hs.ne (lt_of_block (h.each k hk)) ho.2⟩
    · exact ⟨hbp, hs.ne hba hbv⟩
  · rw [hl] at hi hj
    by_cases e1 : i = L.length
    · by_cases e2 : j = L.length
      · omega
      · subst e1
        rw [G_last, G_app (by omega)] at e
        exact absurd e.symm (hbl _ (G_mem (by omega)))
    · by_cases e2 : j = L.length
      · subst e2
        rw [G_last, G_app (by omega)] at e
        exact absurd e (hbl _ (G_mem (by omega)))
      · rw [G_app (by omega), G_app (by omega)] at e
        exact h.nodup i j (by omega) (by omega) e
theorem lit_news_at {w : World} {cs : List Value} {T : TypeId} {b : Nat} (hb : w.heap.size = b) : ∀ ad, some (⟨b, 0, none⟩ : Addr) = some ad → ∀ j u, cs[j]? = some u → (w.alloc (.cells cs.toArray T)).cell? (ad.add j) = some u := by
  subst hb; exact lit_news
theorem assert_alarm (a : Addr) (w : World) : (Instr.typeAssert (.iface 51 (.pointer (some a))) 20 51 false).run Try.prog w = .ok (.pointer (some a)) w := by kernel_rfl
set_option maxRecDepth 100000 in
theorem apush_any (p : Nat) (v m : Value) (L : List Al) (a : Al) (z : Int) (w : World) (h : AlAt w p v m L) (hb : w.heap[a.blk]? = some (.cells #[.int .i64 a.id, .int .i64 a.at', .int .i64 z] 54 (0, 0))) (hbp : a.blk ≠ p) (hbv : v.ownBlock ≠ some a.blk) (hbl : ∀ x ∈ L, x.blk ≠ a.blk) (hL : L.length ≤ 1000000000) :
    Calls Try.prog 42 #[.pointer (some ⟨p, 0, none⟩), .iface 51 (.pointer (some ⟨a.blk, 0, none⟩))] w (Pushed p v m L a w) := by
  obtain ⟨i0, hi, hz0, hz1, hz2⟩ := info_parts ptr_info
  obtain ⟨ao, cap, rfl⟩ := h.row.slice
  have c0 := cell_of h.head 0
  simp only [List.getElem?_toArray, List.getElem?_cons_zero] at c0
  have f0 := frozen_of h.head 0
  have b2 := cell_of hb 2
  simp only [List.getElem?_toArray, List.getElem?_cons_zero, List.getElem?_cons_succ] at b2
  have g2 := frozen_of hb 2
  have hp := lt_of_block h.head
  obtain ⟨ba, ia, ta⟩ := a
  simp only at b2 g2 hbp hbv hbl hb
  have hpb : ¬ p = ba := fun e => hbp e.symm
  have HH := Lib.hid h; have HB := Lib.hid hb; have HBL := Lib.hid hbl; have HBV := Lib.hid hbv
  have k1 : Kp (· = ba) w (w.setCell ⟨ba, 2, none⟩ (.int .i64 L.length)) := (by repeat (first | exact Kp.refl _ _ | apply Kp.drew | apply Kp.drewN | refine Kp.setCell ?_ _ _ (Or.inl rfl) | apply Kp.alloc))
  have hrow := Lib.hid (h.row.keep k1 (fun k hk e => hbv (by rw [hk]; exact congrArg some e)))
  have c0b := (k1.cell 0 hp hpb).trans c0
  have f0b := (k1.frozen 0 hp hpb).trans f0
  clear h hb hbl hbv k1
  have hta := assert_alarm
  go_enter Try.func42, Try.ntmps42
  go_wp2_with (at_builtin; go_loud (refine wpList_append_prec _ rfl _ _ 25 rfl 51 i0 _ 1 8 Try.underlying25 hi hz0 hz1 hz2 rfl (by decide) _ L.length (Pc L) rfl (by exact hrow.out.alloc _) _ 1 1 [.pointer (some ⟨ba, 0, none⟩)] rfl (fun h => by cases h) rfl (lit_news_at (by simp [World.setCell])) (Pc_one [⟨ba, 0, 0⟩]) (by unfold maxLen; omega) (by omega) ?_; intro v' w2 hown1 hk1' hsn' _; have hk1 : Kp (In (.slice ao L.length cap)) _ w2 := hk1'; have hsn : SameOrNew _ (.slice ao L.length cap) v' := hsn'; have HO1 := Lib.hid hown1; have HK1 := Lib.hid hk1; have HSN := Lib.hid hsn; have k0 := (HK1.out.cell 0 (show p < (World.alloc _ _).heap.size by simp; omega) (HH.out.apart)).trans ((World.cell?_alloc_past _ _ _ (by simp; omega)).trans c0b); have e0 := (HK1.out.frozen 0 (show p < (World.alloc _ _).heap.size by simp; omega) (HH.out.apart)).trans ((World.frozen?_alloc_past _ _ _ (by simp; omega)).trans f0b); obtain ⟨ao1, cap1, rfl⟩ := HO1.out.slice; clear hown1 hk1 hsn hk1' hsn'))
  (first | go_end0 | refine bodyPost_ret (results_none rfl _ _ _) rfl ?_)
  exact ⟨rfl, push_close (a := ⟨ba, ia, ta⟩) HH.out HB.out hbp HBV.out HBL.out HO1.out (((Kp.refl _ _).alloc _).trans HK1.out) (HSN.out.mono (by simp [World.setCell]))⟩
end Go.Proofs.Ytjipppejcpokkaa
