/- What stays of a scheduler while its recipients, what is on its way, and its head are written. No condition. -/
import Derived.Test.YtbiahndpfbmoeaaSd4
namespace Go.Proofs.Ytbiahndpfbmoeaa
open Go.RowKit Go.Maps SatAid Go.MapKept Go.ChangeMaps Go.WideShapes
section
variable {w w' : World} {p N : Nat} {s : Sd} {S : Nat → Prop}
def colW (s : Sd) (x : Wt) : Nat → Option (Nat × (Int × Int) × ByteArray) := fun k => if k = x.blk then some (cWait (x.id, x.rc)) else s.col k
def addW (s : Sd) (x : Wt) : Sd := { s with Ws := s.Ws ++ [x], D := s.D ++ [x.dom], col := colW s x }
theorem SIn.addWait {x : Wt} (h : SIn w p s N) (hk : Kp (· = s.bm) w w') (hs : x.dom.size ≤ maxLen) (hwf : (Lit.int .i64 x.id).wf = true ∧ (Lit.int .i64 x.rc).wf = true) (h1 : w.heap.size ≤ x.blk)
    (hm : MapAt w' Try.prog 95 s.bm (s.Ws.length + 1) (Wm s.Ws ++ [(Kx x.id x.rc, .pointer (some ⟨x.blk, 0, none⟩))])) (hb : w'.heap[x.blk]? = some (.cells (Wc x) 99 (0, 0))) :
    SIn w' p (addW s x) (N + 1) ∧ St w w' s (addW s x) := by
  have hc : ∀ k, (s.col k).isSome → colW s x k = s.col k := fun k e => by
    have := h.lt k e
    unfold colW
    rw [if_neg (by omega)]
  have K := h.kept hk (fun c => c = cBy) (fun k c hc e => by
    subst e; rw [h.cols.bym] at hc; exact (Option.some.inj hc).symm)
  have hC := h.cols.keep hc
  refine ⟨⟨⟨hC.head, hC.bym, hC.prm, hC.rgm, hC.rg0, hC.rg1, hC.nm0, hC.nm1, hC.gng, hC.loc, fun z hz => ?_, hC.prs⟩, fun k e => ?_, K.head (by intro h; first | exact Nat.ne_of_beq_eq_false rfl (congrArg Prod.fst h) | (rcases h with h | h <;> exact Nat.ne_of_beq_eq_false rfl (congrArg Prod.fst h))), K.loc (by intro h; first | exact Nat.ne_of_beq_eq_false rfl (congrArg Prod.fst h) | (rcases h with h | h <;> exact Nat.ne_of_beq_eq_false rfl (congrArg Prod.fst h))), ?_, K.prm (by intro h; first | exact Nat.ne_of_beq_eq_false rfl (congrArg Prod.fst h) | (rcases h with h | h <;> exact Nat.ne_of_beq_eq_false rfl (congrArg Prod.fst h))), K.rgm (by intro h; first | exact Nat.ne_of_beq_eq_false rfl (congrArg Prod.fst h) | (rcases h with h | h <;> exact Nat.ne_of_beq_eq_false rfl (congrArg Prod.fst h))), K.rg0 (by intro h; first | exact Nat.ne_of_beq_eq_false rfl (congrArg Prod.fst h) | (rcases h with h | h <;> exact Nat.ne_of_beq_eq_false rfl (congrArg Prod.fst h))) (by intro h; first | exact Nat.ne_of_beq_eq_false rfl (congrArg Prod.fst h) | (rcases h with h | h <;> exact Nat.ne_of_beq_eq_false rfl (congrArg Prod.fst h))), K.rg1 (by intro h; first | exact Nat.ne_of_beq_eq_false rfl (congrArg Prod.fst h) | (rcases h with h | h <;> exact Nat.ne_of_beq_eq_false rfl (congrArg Prod.fst h))) (by intro h; first | exact Nat.ne_of_beq_eq_false rfl (congrArg Prod.fst h) | (rcases h with h | h <;> exact Nat.ne_of_beq_eq_false rfl (congrArg Prod.fst h))), K.gng (by intro h; first | exact Nat.ne_of_beq_eq_false rfl (congrArg Prod.fst h) | (rcases h with h | h <;> exact Nat.ne_of_beq_eq_false rfl (congrArg Prod.fst h))), fun z hz => ?_, fun z hz => ⟨K.prb z hz (by intro h; first | exact Nat.ne_of_beq_eq_false rfl (congrArg Prod.fst h) | (rcases h with h | h <;> exact Nat.ne_of_beq_eq_false rfl (congrArg Prod.fst h))), K.prw z hz (by intro h; first | exact Nat.ne_of_beq_eq_false rfl (congrArg Prod.fst h) | (rcases h with h | h <;> exact Nat.ne_of_beq_eq_false rfl (congrArg Prod.fst h))), K.prt z hz (by intro h; first | exact Nat.ne_of_beq_eq_false rfl (congrArg Prod.fst h) | (rcases h with h | h <;> exact Nat.ne_of_beq_eq_false rfl (congrArg Prod.fst h)))⟩, fun z hz => ?_, fun z hz => ?_, fun d hd => ?_, fun k hk => ?_, h.gnd, Nat.le_succ_of_le h.ll, ?_, ?_, Nat.le_succ_of_le h.l0, Nat.le_succ_of_le h.l1⟩, ⟨hc, fun k e => ?_, hk.mono (fun k _ e => ?_)⟩⟩
  · rcases List.mem_append.1 hz with hz | hz
    · exact hC.wts z hz
    · obtain rfl := List.mem_singleton.1 hz
      show colW s z z.blk = _
      unfold colW; rw [if_pos rfl]
  · have e' : (colW s x k).isSome := e
    unfold colW at e'
    split at e'
    · rename_i h1; subst h1; exact lt_of_block hb
    · exact K.lt k e'
  · show MapAt w' Try.prog 95 s.bm (s.Ws ++ [x]).length (Wm (s.Ws ++ [x]))
    rw [List.length_append, show Wm (s.Ws ++ [x]) = Wm s.Ws ++ [(Kx x.id x.rc, .pointer (some ⟨x.blk, 0, none⟩))] by simp [Wm]]
    exact hm
  · rcases List.mem_append.1 hz with hz | hz
    · exact K.wts z hz (by intro h; first | exact Nat.ne_of_beq_eq_false rfl (congrArg Prod.fst h) | (rcases h with h | h <;> exact Nat.ne_of_beq_eq_false rfl (congrArg Prod.fst h)))
    · obtain rfl := List.mem_singleton.1 hz; exact hb
  · rcases List.mem_append.1 hz with hz | hz
    · obtain ⟨a, b, c⟩ := h.wfs z hz
      exact ⟨a, b, List.mem_append_left _ c⟩
    · obtain rfl := List.mem_singleton.1 hz
      exact ⟨hwf.1, hwf.2, List.mem_append_right _ (List.mem_singleton_self _)⟩
  · obtain ⟨a, b, c, d, e, g⟩ := h.pok z hz
    exact ⟨a, b, c, d, e, List.mem_append_left _ g⟩
  · rcases List.mem_append.1 hd with hd | hd
    · exact h.dok d hd
    · obtain rfl := List.mem_singleton.1 hd; exact hs
  · obtain ⟨x', h1, h2, h3⟩ := h.gin k hk
    exact ⟨x', List.mem_append_left _ h1, h2, h3⟩
  · have := h.lw; simp [addW]; omega
  · have := h.ld; simp [addW]; omega
  · have e' : (colW s x k).isSome := e
    unfold colW at e'
    split at e'
    · rename_i h2; subst h2; exact Or.inr h1
    · exact Or.inl e'
  · subst e; rw [h.cols.bym]; rfl

def delW (s : Sd) (k : Int × Int) : Sd := { s with Ws := s.Ws.filter fun z => !decide ((z.id, z.rc) = k) }
theorem wm_filter (h : SIn w p s N) {x : Wt} (hx : x ∈ s.Ws) : (Wm s.Ws).filter (fun q => !q.1.sameKey (Kx x.id x.rc)) = Wm (delW s (x.id, x.rc)).Ws := by
  have hk : ∀ q ∈ Wm s.Ws, WideAt.IsKeyLit q.1 := (h.bym.keyed key_keyed).2
  unfold Wm delW
  rw [List.filter_map]
  congr 1
  refine List.filter_congr fun z hz => ?_
  simp only [Function.comp]
  congr 1
  obtain ⟨a, b, _⟩ := h.wfs z hz
  obtain ⟨c, d, _⟩ := h.wfs x hx
  by_cases e : (z.id, z.rc) = (x.id, x.rc)
  · rw [decide_eq_true e]
    simp only [Prod.mk.injEq] at e
    rw [e.1, e.2]
    exact WideAt.sameKey_self (hk _ (List.mem_map.2 ⟨x, hx, rfl⟩))
  · rw [decide_eq_false e]
    exact same_not (fun e2 => e (by obtain ⟨e3, e4⟩ := key_inj a b c d e2; rw [e3, e4]))
theorem SIn.delWait {x : Wt} (h : SIn w p s N) (hx : x ∈ s.Ws) (hg : (x.id, x.rc) ∉ s.G) (hk : Kp (· = s.bm) w w') (hm : MapAt w' Try.prog 95 s.bm s.Ws.length ((Wm s.Ws).filter (fun q => !q.1.sameKey (Kx x.id x.rc)))) :
    SIn w' p (delW s (x.id, x.rc)) N ∧ St w w' s (delW s (x.id, x.rc)) := by
  have K := h.kept hk (fun c => c = cBy) (fun k c hc e => by
    subst e; rw [h.cols.bym] at hc; exact (Option.some.inj hc).symm)
  have hC := h.cols
  have hm' := hm.tight
  rw [wm_filter h hx] at hm'
  have hsub : ∀ z ∈ (delW s (x.id, x.rc)).Ws, z ∈ s.Ws := fun z hz => (List.mem_filter.1 hz).1
  refine ⟨⟨⟨hC.head, hC.bym, hC.prm, hC.rgm, hC.rg0, hC.rg1, hC.nm0, hC.nm1, hC.gng, hC.loc, fun z hz => hC.wts z (hsub z hz), hC.prs⟩, K.lt, K.head (by intro h; first | exact Nat.ne_of_beq_eq_false rfl (congrArg Prod.fst h) | (rcases h with h | h <;> exact Nat.ne_of_beq_eq_false rfl (congrArg Prod.fst h))), K.loc (by intro h; first | exact Nat.ne_of_beq_eq_false rfl (congrArg Prod.fst h) | (rcases h with h | h <;> exact Nat.ne_of_beq_eq_false rfl (congrArg Prod.fst h))), ?_, K.prm (by intro h; first | exact Nat.ne_of_beq_eq_false rfl (congrArg Prod.fst h) | (rcases h with h | h <;> exact Nat.ne_of_beq_eq_false rfl (congrArg Prod.fst h))), K.rgm (by intro h; first | exact Nat.ne_of_beq_eq_false rfl (congrArg Prod.fst h) | (rcases h with h | h <;> exact Nat.ne_of_beq_eq_false rfl (congrArg Prod.fst h))), K.rg0 (by intro h; first | exact Nat.ne_of_beq_eq_false rfl (congrArg Prod.fst h) | (rcases h with h | h <;> exact Nat.ne_of_beq_eq_false rfl (congrArg Prod.fst h))) (by intro h; first | exact Nat.ne_of_beq_eq_false rfl (congrArg Prod.fst h) | (rcases h with h | h <;> exact Nat.ne_of_beq_eq_false rfl (congrArg Prod.fst h))), K.rg1 (by intro h; first | exact Nat.ne_of_beq_eq_false rfl (congrArg Prod.fst h) | (rcases h with h | h <;> exact Nat.ne_of_beq_eq_false rfl (congrArg Prod.fst h))) (by intro h; first | exact Nat.ne_of_beq_eq_false rfl (congrArg Prod.fst h) | (rcases h with h | h <;> exact Nat.ne_of_beq_eq_false rfl (congrArg Prod.fst h))), K.gng (by intro h; first | exact Nat.ne_of_beq_eq_false rfl (congrArg Prod.fst h) | (rcases h with h | h <;> exact Nat.ne_of_beq_eq_false rfl (congrArg Prod.fst h))), fun z hz => K.wts z (hsub z hz) (by intro h; first | exact Nat.ne_of_beq_eq_false rfl (congrArg Prod.fst h) | (rcases h with h | h <;> exact Nat.ne_of_beq_eq_false rfl (congrArg Prod.fst h))), fun z hz => ⟨K.prb z hz (by intro h; first | exact Nat.ne_of_beq_eq_false rfl (congrArg Prod.fst h) | (rcases h with h | h <;> exact Nat.ne_of_beq_eq_false rfl (congrArg Prod.fst h))), K.prw z hz (by intro h; first | exact Nat.ne_of_beq_eq_false rfl (congrArg Prod.fst h) | (rcases h with h | h <;> exact Nat.ne_of_beq_eq_false rfl (congrArg Prod.fst h))), K.prt z hz (by intro h; first | exact Nat.ne_of_beq_eq_false rfl (congrArg Prod.fst h) | (rcases h with h | h <;> exact Nat.ne_of_beq_eq_false rfl (congrArg Prod.fst h)))⟩, fun z hz => h.wfs z (hsub z hz), h.pok, h.dok, fun k hk => ?_, h.gnd, h.ll, ?_, h.ld, h.l0, h.l1⟩, St.of hk (fun k _ e => by subst e; rw [hC.bym]; rfl) rfl⟩
  · have e : (Wm (delW s (x.id, x.rc)).Ws).length = (delW s (x.id, x.rc)).Ws.length := by unfold Wm; rw [List.length_map]
    rw [e] at hm'
    exact hm'
  · obtain ⟨x', h1, h2, h3⟩ := h.gin k hk
    refine ⟨x', List.mem_filter.2 ⟨h1, ?_⟩, h2, h3⟩
    have : ¬ (x'.id, x'.rc) = (x.id, x.rc) := fun e => hg (by rw [← e, h2]; exact hk)
    simp only [decide_eq_false this, Bool.not_false]
  · exact Nat.le_trans (List.length_filter_le _ _) h.lw

def setW (s : Sd) (x' : Wt) : Sd := { s with Ws := s.Ws.map fun z => if (z.id, z.rc) = (x'.id, x'.rc) then x' else z }
theorem setW_mem {x' z : Wt} (h : z ∈ (setW s x').Ws) : (z = x' ∧ ∃ u ∈ s.Ws, (u.id, u.rc) = (x'.id, x'.rc)) ∨ (z ∈ s.Ws ∧ (z.id, z.rc) ≠ (x'.id, x'.rc)) := by
  obtain ⟨u, hu, e⟩ := List.mem_map.1 h
  split at e
  · rename_i h'; exact Or.inl ⟨e.symm, u, hu, h'⟩
  · rename_i h'; subst e; exact Or.inr ⟨hu, h'⟩
/-- what x turns to -/
def Go1 (x : Wt) (g : Bool) (n : Int) : Wt := { x with go := g, nx := n }
theorem SIn.setWait {x : Wt} {g : Bool} {n : Int} (h : SIn w p s N) (hx : x ∈ s.Ws) (hg : g = false → (x.id, x.rc) ∉ s.G) (hk : Kp (· = x.blk) w w') (hb : w'.heap[x.blk]? = some (.cells (Wc (Go1 x g n)) 99 (0, 0))) :
    SIn w' p (setW s (Go1 x g n)) N ∧ St w w' s (setW s (Go1 x g n)) := by
  have cx := h.cols.wts x hx
  have K := h.kept hk (fun c => c = cWait (x.id, x.rc)) (fun k c hc e => by
    subst e; rw [cx] at hc; exact (Option.some.inj hc).symm)
  have hC := h.cols
  have hWm : Wm (setW s (Go1 x g n)).Ws = Wm s.Ws := by
    unfold Wm setW
    rw [List.map_map]
    refine List.map_congr_left fun z hz => ?_
    simp only [Function.comp]
    split
    · rename_i hd
      obtain rfl := h.key_eq hz hx hd
      rfl
    · rfl
  refine ⟨⟨⟨hC.head, hC.bym, hC.prm, hC.rgm, hC.rg0, hC.rg1, hC.nm0, hC.nm1, hC.gng, hC.loc, fun z hz => ?_, hC.prs⟩, K.lt, K.head (by intro h; first | exact Nat.ne_of_beq_eq_false rfl (congrArg Prod.fst h) | (rcases h with h | h <;> exact Nat.ne_of_beq_eq_false rfl (congrArg Prod.fst h))), K.loc (by intro h; first | exact Nat.ne_of_beq_eq_false rfl (congrArg Prod.fst h) | (rcases h with h | h <;> exact Nat.ne_of_beq_eq_false rfl (congrArg Prod.fst h))), ?_, K.prm (by intro h; first | exact Nat.ne_of_beq_eq_false rfl (congrArg Prod.fst h) | (rcases h with h | h <;> exact Nat.ne_of_beq_eq_false rfl (congrArg Prod.fst h))), K.rgm (by intro h; first | exact Nat.ne_of_beq_eq_false rfl (congrArg Prod.fst h) | (rcases h with h | h <;> exact Nat.ne_of_beq_eq_false rfl (congrArg Prod.fst h))), K.rg0 (by intro h; first | exact Nat.ne_of_beq_eq_false rfl (congrArg Prod.fst h) | (rcases h with h | h <;> exact Nat.ne_of_beq_eq_false rfl (congrArg Prod.fst h))) (by intro h; first | exact Nat.ne_of_beq_eq_false rfl (congrArg Prod.fst h) | (rcases h with h | h <;> exact Nat.ne_of_beq_eq_false rfl (congrArg Prod.fst h))), K.rg1 (by intro h; first | exact Nat.ne_of_beq_eq_false rfl (congrArg Prod.fst h) | (rcases h with h | h <;> exact Nat.ne_of_beq_eq_false rfl (congrArg Prod.fst h))) (by intro h; first | exact Nat.ne_of_beq_eq_false rfl (congrArg Prod.fst h) | (rcases h with h | h <;> exact Nat.ne_of_beq_eq_false rfl (congrArg Prod.fst h))), K.gng (by intro h; first | exact Nat.ne_of_beq_eq_false rfl (congrArg Prod.fst h) | (rcases h with h | h <;> exact Nat.ne_of_beq_eq_false rfl (congrArg Prod.fst h))), fun z hz => ?_, fun z hz => ⟨K.prb z hz (by intro h; first | exact Nat.ne_of_beq_eq_false rfl (congrArg Prod.fst h) | (rcases h with h | h <;> exact Nat.ne_of_beq_eq_false rfl (congrArg Prod.fst h))), K.prw z hz (by intro h; first | exact Nat.ne_of_beq_eq_false rfl (congrArg Prod.fst h) | (rcases h with h | h <;> exact Nat.ne_of_beq_eq_false rfl (congrArg Prod.fst h))), K.prt z hz (by intro h; first | exact Nat.ne_of_beq_eq_false rfl (congrArg Prod.fst h) | (rcases h with h | h <;> exact Nat.ne_of_beq_eq_false rfl (congrArg Prod.fst h)))⟩, fun z hz => ?_, h.pok, h.dok, fun k hk => ?_, h.gnd, h.ll, ?_, h.ld, h.l0, h.l1⟩, St.of hk (fun k _ e => by subst e; rw [cx]; rfl) rfl⟩
  · rcases setW_mem hz with ⟨rfl, _⟩ | ⟨hz, _⟩
    · exact cx
    · exact hC.wts z hz
  · show MapAt w' Try.prog 95 s.bm (setW s (Go1 x g n)).Ws.length (Wm (setW s (Go1 x g n)).Ws)
    rw [hWm, show (setW s (Go1 x g n)).Ws.length = s.Ws.length by simp [setW]]
    exact K.bym (by intro h; first | exact Nat.ne_of_beq_eq_false rfl (congrArg Prod.fst h) | (rcases h with h | h <;> exact Nat.ne_of_beq_eq_false rfl (congrArg Prod.fst h)))
  · rcases setW_mem hz with ⟨rfl, _⟩ | ⟨hz, hne⟩
    · exact hb
    · exact K.wts z hz (fun e => hne (congrArg (fun c => c.2.1) e))
  · rcases setW_mem hz with ⟨rfl, _⟩ | ⟨hz, _⟩
    · exact h.wfs x hx
    · exact h.wfs z hz
  · obtain ⟨x', h1, h2, h3⟩ := h.gin k hk
    by_cases e : (x'.id, x'.rc) = (x.id, x.rc)
    · refine ⟨Go1 x g n, List.mem_map.2 ⟨x', h1, by rw [if_pos]; exact e⟩, e.symm.trans h2, ?_⟩
      cases g with
      | true => rfl
      | false => exact absurd (by rw [← e, h2]; exact hk) (hg rfl)
    · exact ⟨x', List.mem_map.2 ⟨x', h1, by rw [if_neg]; exact e⟩, h2, h3⟩
  · simp [setW]; exact h.lw

/-- what is on its way, and who was last -/
def setG (s : Sd) (vg : Value) (G : List (Int × Int)) : Sd := { s with vg := vg, G := G, col := colN s vg cGoing }
theorem SIn.setGoing {vg : Value} {G : List (Int × Int)} (h : SIn w p s N) (hh : w'.heap[p]? = some (.cells (Hd (setG s vg G)) 93 (0, 0))) (hr : Own w' 95 2 vg G.length (Gc G)) (hsn : SameOrNew w s.vg vg) (hk : Kp (fun k => k = p ∨ In s.vg k) w w')
    (hin : ∀ k ∈ G, ∃ x ∈ s.Ws, (x.id, x.rc) = k ∧ x.go = true) (hnd : G.Nodup) : SIn w' p (setG s vg G) N ∧ St w w' s (setG s vg G) := by
  have hc : ∀ k, (s.col k).isSome → colN s vg cGoing k = s.col k := fun k e => by
    unfold colN
    split
    · rename_i h1
      rcases hsn with h2 | h2
      · rw [h2] at h1; exact (h.cols.gng k h1).symm
      · have := h2 k h1; have := h.lt k e; omega
    · rfl
  have K := h.kept hk (fun c => c = cHead ∨ c = cGoing) (fun k c hc e => by
    rcases e with rfl | e
    · rw [h.cols.head] at hc; exact Or.inl (Option.some.inj hc).symm
    · rw [h.cols.gng k e] at hc; exact Or.inr (Option.some.inj hc).symm)
  have hC := h.cols.keep hc
  refine ⟨⟨⟨hC.head, hC.bym, hC.prm, hC.rgm, hC.rg0, hC.rg1, hC.nm0, hC.nm1, fun k e => ?_, hC.loc, hC.wts, hC.prs⟩, fun k e => ?_, hh, K.loc (by intro h; first | exact Nat.ne_of_beq_eq_false rfl (congrArg Prod.fst h) | (rcases h with h | h <;> exact Nat.ne_of_beq_eq_false rfl (congrArg Prod.fst h))), K.bym (by intro h; first | exact Nat.ne_of_beq_eq_false rfl (congrArg Prod.fst h) | (rcases h with h | h <;> exact Nat.ne_of_beq_eq_false rfl (congrArg Prod.fst h))), K.prm (by intro h; first | exact Nat.ne_of_beq_eq_false rfl (congrArg Prod.fst h) | (rcases h with h | h <;> exact Nat.ne_of_beq_eq_false rfl (congrArg Prod.fst h))), K.rgm (by intro h; first | exact Nat.ne_of_beq_eq_false rfl (congrArg Prod.fst h) | (rcases h with h | h <;> exact Nat.ne_of_beq_eq_false rfl (congrArg Prod.fst h))), K.rg0 (by intro h; first | exact Nat.ne_of_beq_eq_false rfl (congrArg Prod.fst h) | (rcases h with h | h <;> exact Nat.ne_of_beq_eq_false rfl (congrArg Prod.fst h))) (by intro h; first | exact Nat.ne_of_beq_eq_false rfl (congrArg Prod.fst h) | (rcases h with h | h <;> exact Nat.ne_of_beq_eq_false rfl (congrArg Prod.fst h))), K.rg1 (by intro h; first | exact Nat.ne_of_beq_eq_false rfl (congrArg Prod.fst h) | (rcases h with h | h <;> exact Nat.ne_of_beq_eq_false rfl (congrArg Prod.fst h))) (by intro h; first | exact Nat.ne_of_beq_eq_false rfl (congrArg Prod.fst h) | (rcases h with h | h <;> exact Nat.ne_of_beq_eq_false rfl (congrArg Prod.fst h))), hr, fun x hx => K.wts x hx (by intro h; first | exact Nat.ne_of_beq_eq_false rfl (congrArg Prod.fst h) | (rcases h with h | h <;> exact Nat.ne_of_beq_eq_false rfl (congrArg Prod.fst h))), fun z hz => ⟨K.prb z hz (by intro h; first | exact Nat.ne_of_beq_eq_false rfl (congrArg Prod.fst h) | (rcases h with h | h <;> exact Nat.ne_of_beq_eq_false rfl (congrArg Prod.fst h))), K.prw z hz (by intro h; first | exact Nat.ne_of_beq_eq_false rfl (congrArg Prod.fst h) | (rcases h with h | h <;> exact Nat.ne_of_beq_eq_false rfl (congrArg Prod.fst h))), K.prt z hz (by intro h; first | exact Nat.ne_of_beq_eq_false rfl (congrArg Prod.fst h) | (rcases h with h | h <;> exact Nat.ne_of_beq_eq_false rfl (congrArg Prod.fst h)))⟩, h.wfs, h.pok, h.dok, hin, hnd, h.ll, h.lw, h.ld, h.l0, h.l1⟩,
    ⟨hc, fun k e => ?_, hk.mono (fun k _ e => ?_)⟩⟩
  · show colN s vg cGoing k = some cGoing
    have e2 : vg.ownBlock = some k := e
    unfold colN; rw [if_pos e2]
  · have e' : (colN s vg cGoing k).isSome := e
    unfold colN at e'
    split at e'
    · rename_i h1; exact hr.lt h1
    · exact K.lt k e'
  · have e' : (colN s vg cGoing k).isSome := e
    unfold colN at e'
    split at e'
    · rename_i h1
      rcases hsn with h2 | h2
      · rw [h2] at h1; rw [h.cols.gng k h1]; exact Or.inl rfl
      · exact Or.inr (h2 k h1)
    · exact Or.inl e'
  · rcases e with rfl | e
    · rw [h.cols.head]; rfl
    · rw [h.cols.gng k e]; rfl
theorem SIn.setLast {l : Bool} (h : SIn w p s N) (hk : Kp (· = p) w w') (hh : w'.heap[p]? = some (.cells (Hd { s with last := l }) 93 (0, 0))) : SIn w' p { s with last := l } N ∧ St w w' s { s with last := l } := by
  have K := h.kept hk (fun c => c = cHead) (fun k c hc e => by
    subst e; rw [h.cols.head] at hc; exact (Option.some.inj hc).symm)
  have hC := h.cols
  exact ⟨⟨⟨hC.head, hC.bym, hC.prm, hC.rgm, hC.rg0, hC.rg1, hC.nm0, hC.nm1, hC.gng, hC.loc, hC.wts, hC.prs⟩, K.lt, hh, K.loc (by intro h; first | exact Nat.ne_of_beq_eq_false rfl (congrArg Prod.fst h) | (rcases h with h | h <;> exact Nat.ne_of_beq_eq_false rfl (congrArg Prod.fst h))), K.bym (by intro h; first | exact Nat.ne_of_beq_eq_false rfl (congrArg Prod.fst h) | (rcases h with h | h <;> exact Nat.ne_of_beq_eq_false rfl (congrArg Prod.fst h))), K.prm (by intro h; first | exact Nat.ne_of_beq_eq_false rfl (congrArg Prod.fst h) | (rcases h with h | h <;> exact Nat.ne_of_beq_eq_false rfl (congrArg Prod.fst h))), K.rgm (by intro h; first | exact Nat.ne_of_beq_eq_false rfl (congrArg Prod.fst h) | (rcases h with h | h <;> exact Nat.ne_of_beq_eq_false rfl (congrArg Prod.fst h))), K.rg0 (by intro h; first | exact Nat.ne_of_beq_eq_false rfl (congrArg Prod.fst h) | (rcases h with h | h <;> exact Nat.ne_of_beq_eq_false rfl (congrArg Prod.fst h))) (by intro h; first | exact Nat.ne_of_beq_eq_false rfl (congrArg Prod.fst h) | (rcases h with h | h <;> exact Nat.ne_of_beq_eq_false rfl (congrArg Prod.fst h))), K.rg1 (by intro h; first | exact Nat.ne_of_beq_eq_false rfl (congrArg Prod.fst h) | (rcases h with h | h <;> exact Nat.ne_of_beq_eq_false rfl (congrArg Prod.fst h))) (by intro h; first | exact Nat.ne_of_beq_eq_false rfl (congrArg Prod.fst h) | (rcases h with h | h <;> exact Nat.ne_of_beq_eq_false rfl (congrArg Prod.fst h))), K.gng (by intro h; first | exact Nat.ne_of_beq_eq_false rfl (congrArg Prod.fst h) | (rcases h with h | h <;> exact Nat.ne_of_beq_eq_false rfl (congrArg Prod.fst h))), fun x hx => K.wts x hx (by intro h; first | exact Nat.ne_of_beq_eq_false rfl (congrArg Prod.fst h) | (rcases h with h | h <;> exact Nat.ne_of_beq_eq_false rfl (congrArg Prod.fst h))), fun z hz => ⟨K.prb z hz (by intro h; first | exact Nat.ne_of_beq_eq_false rfl (congrArg Prod.fst h) | (rcases h with h | h <;> exact Nat.ne_of_beq_eq_false rfl (congrArg Prod.fst h))), K.prw z hz (by intro h; first | exact Nat.ne_of_beq_eq_false rfl (congrArg Prod.fst h) | (rcases h with h | h <;> exact Nat.ne_of_beq_eq_false rfl (congrArg Prod.fst h))), K.prt z hz (by intro h; first | exact Nat.ne_of_beq_eq_false rfl (congrArg Prod.fst h) | (rcases h with h | h <;> exact Nat.ne_of_beq_eq_false rfl (congrArg Prod.fst h)))⟩, h.wfs, h.pok, h.dok, h.gin, h.gnd, h.ll, h.lw, h.ld, h.l0, h.l1⟩, St.of hk (fun k _ e => by subst e; rw [hC.head]; rfl) rfl⟩
end
end Go.Proofs.Ytbiahndpfbmoeaa
