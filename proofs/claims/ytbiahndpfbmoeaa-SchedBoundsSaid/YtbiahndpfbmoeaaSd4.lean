/- What stays of a scheduler while a part of it is written. No condition. -/
import Derived.Test.YtbiahndpfbmoeaaSd3
namespace Go.Proofs.Ytbiahndpfbmoeaa
open Go.RowKit Go.Maps SatAid Go.MapKept Go.ChangeMaps Go.WideShapes

structure Kept (w' : World) (p : Nat) (s : Sd) (P : Nat × (Int × Int) × ByteArray → Prop) : Prop where
  head : ¬ P cHead → w'.heap[p]? = some (.cells (Hd s) 93 (0, 0))
  loc : ¬ P cLoc → Own w' 9 1 s.c.lv s.c.L.length (Sc s.c.L)
  bym : ¬ P cBy → MapAt w' Try.prog 95 s.bm s.Ws.length (Wm s.Ws)
  prm : ¬ P cPeers → MapAt w' Try.prog 9 s.bp s.Ps.length (Pm s.Ps)
  rgm : ¬ P cRings → MapAt w' Try.prog 4 s.br 2 (Rm s.r0 s.r1)
  rg0 : ¬ P (cRing false) → ¬ P (cNames false) → RgAt w' s.r0 s.v0 s.A0
  rg1 : ¬ P (cRing true) → ¬ P (cNames true) → RgAt w' s.r1 s.v1 s.A1
  gng : ¬ P cGoing → Own w' 95 2 s.vg s.G.length (Gc s.G)
  wts : ∀ x ∈ s.Ws, ¬ P (cWait (x.id, x.rc)) → w'.heap[x.blk]? = some (.cells (Wc x) 99 (0, 0))
  prb : ∀ y ∈ s.Ps, ¬ P (cPeer y.dom) → w'.heap[y.blk]? = some (.cells #[.pointer (some ⟨y.wb, 0, none⟩), .pointer (some ⟨y.tb, 0, none⟩)] 111 (0, 0))
  prw : ∀ y ∈ s.Ps, ¬ P (cWin y.dom) → w'.heap[y.wb]? = some (.cells (Wd (V8 s.c.win) y.now y.busy) 139 (0, 0))
  prt : ∀ y ∈ s.Ps, ¬ P (cBuck y.dom) → w'.heap[y.tb]? = some (.cells (Bk (V s.c.rate) (V s.c.burst) y.l y.t) 141 (0, 0))
  lt : ∀ k, (s.col k).isSome → k < w'.heap.size
theorem SIn.kept {w w' : World} {p N : Nat} {s : Sd} {S : Nat → Prop} (h : SIn w p s N) (hk : Kp S w w') (P : Nat × (Int × Int) × ByteArray → Prop) (hS : ∀ k c, s.col k = some c → S k → P c) : Kept w' p s P where
  head := fun n => hk.keep h.head (fun e => n (hS _ _ h.cols.head e))
  loc := fun n => h.loc.keep hk (fun k e e2 => n (hS _ _ (h.cols.loc k e) e2))
  bym := fun n => h.bym.keep hk (fun e => n (hS _ _ h.cols.bym e))
  prm := fun n => h.prm.keep hk (fun e => n (hS _ _ h.cols.prm e))
  rgm := fun n => h.rgm.keep hk (fun e => n (hS _ _ h.cols.rgm e))
  rg0 := fun n m => h.rg0.keep hk (fun e => n (hS _ _ h.cols.rg0 e)) (fun k e e2 => m (hS _ _ (h.cols.nm0 k e) e2))
  rg1 := fun n m => h.rg1.keep hk (fun e => n (hS _ _ h.cols.rg1 e)) (fun k e e2 => m (hS _ _ (h.cols.nm1 k e) e2))
  gng := fun n => h.gng.keep hk (fun k e e2 => n (hS _ _ (h.cols.gng k e) e2))
  wts := fun x hx n => hk.keep (h.wts x hx) (fun e => n (hS _ _ (h.cols.wts x hx) e))
  prb := fun y hy n => hk.keep (h.prs y hy).1 (fun e => n (hS _ _ (h.cols.prs y hy).1 e))
  prw := fun y hy n => hk.keep (h.prs y hy).2.1 (fun e => n (hS _ _ (h.cols.prs y hy).2.1 e))
  prt := fun y hy n => hk.keep (h.prs y hy).2.2 (fun e => n (hS _ _ (h.cols.prs y hy).2.2 e))
  lt := fun k e => Nat.lt_of_lt_of_le (h.lt k e) hk.size

/-- from here to there: blocks outside stay, new ones are new -/
structure St (w w' : World) (s s' : Sd) : Prop where
  old : ∀ k, (s.col k).isSome → s'.col k = s.col k
  new : ∀ k, (s'.col k).isSome → (s.col k).isSome ∨ w.heap.size ≤ k
  kp : Kp (fun k => (s.col k).isSome) w w'
theorem St.refl (w : World) (s : Sd) : St w w s s := ⟨fun _ _ => rfl, fun _ e => Or.inl e, Kp.refl _ _⟩
theorem St.trans {w w1 w2 : World} {s s1 s2 : Sd} (h : St w w1 s s1) (g : St w1 w2 s1 s2) : St w w2 s s2 where
  old := fun k e => (g.old k (by rw [h.old k e]; exact e)).trans (h.old k e)
  new := fun k e => by
    rcases g.new k e with e | e
    · exact h.new k e
    · exact Or.inr (Nat.le_trans h.kp.size e)
  kp := h.kp.trans_new g.kp (fun k hk e => by
    rcases h.new k e with e | e
    · exact e
    · omega)
/-- a part of it is written -/
theorem St.of {w w' : World} {s s' : Sd} {S : Nat → Prop} (hk : Kp S w w') (hS : ∀ k, k < w.heap.size → S k → (s.col k).isSome) (hc : s'.col = s.col) : St w w' s s' := ⟨fun k _ => by rw [hc], fun k e => Or.inl (by rw [← hc]; exact e), hk.mono hS⟩
theorem St.calm {w w' w1 : World} {s s' : Sd} (h : St w w' s s') (hk : Kp (fun _ => False) w' w1) : St w w1 s s' := h.trans (St.of hk (fun _ _ h => h.elim) rfl)

theorem nodup_len {α : Type} {l m : List α} (h : l.Pairwise (fun a b => a ≠ b)) (hs : ∀ a ∈ l, a ∈ m) : l.length ≤ m.length := by
  induction l generalizing m with
  | nil => exact Nat.zero_le _
  | cons a l ih =>
    obtain ⟨h1, h2⟩ := List.pairwise_cons.1 h
    obtain ⟨s, t, rfl⟩ := List.append_of_mem (hs a (List.mem_cons_self ..))
    have := ih h2 (m := s ++ t) (fun b hb => by
      have hb' := hs b (List.mem_cons_of_mem _ hb)
      rcases List.mem_append.1 hb' with h | h
      · exact List.mem_append_left _ h
      · rcases List.mem_cons.1 h with h | h
        · exact absurd h.symm (h1 b hb)
        · exact List.mem_append_right _ h)
    simp at this ⊢
    omega
section
variable {w w' : World} {p N : Nat} {s : Sd} {S : Nat → Prop}
theorem SIn.doms (h : SIn w p s N) : s.Ps.Pairwise (fun a b => a.dom ≠ b.dom) := by
  have h1 := (h.prm.keyed str_law).1
  unfold Pm at h1
  rw [List.pairwise_map] at h1
  exact h1.imp (fun {a b} n e => n (by simp only [e]))
theorem SIn.pslen (h : SIn w p s N) : s.Ps.length ≤ s.D.length := by
  have := nodup_len (l := s.Ps.map Pe.dom) (m := s.D) (by rw [List.pairwise_map]; exact h.doms) (fun a ha => by
    obtain ⟨y, hy, rfl⟩ := List.mem_map.1 ha
    exact (h.pok y hy).2.2.2.2.2)
  simpa using this
theorem pw_eq {α β : Type} {f : α → β} {l : List α} (h : l.Pairwise (fun a b => f a ≠ f b)) {a b : α} (ha : a ∈ l) (hb : b ∈ l) (e : f a = f b) : a = b := by
  induction l with
  | nil => cases ha
  | cons c l ih =>
    obtain ⟨h1, h2⟩ := List.pairwise_cons.1 h
    rcases List.mem_cons.1 ha with rfl | ha'
    · rcases List.mem_cons.1 hb with rfl | hb'
      · rfl
      · exact absurd e (h1 b hb')
    · rcases List.mem_cons.1 hb with rfl | hb'
      · exact absurd e.symm (h1 a ha')
      · exact ih h2 ha' hb'
theorem SIn.dom_eq (h : SIn w p s N) {y z : Pe} (hy : y ∈ s.Ps) (hz : z ∈ s.Ps) (e : y.dom = z.dom) : y = z := pw_eq h.doms hy hz e
theorem SIn.keys (h : SIn w p s N) : s.Ws.Pairwise (fun a b => (a.id, a.rc) ≠ (b.id, b.rc)) := by
  have h1 := (h.bym.keyed key_keyed).1
  unfold Wm at h1
  rw [List.pairwise_map] at h1
  exact h1.imp (fun {a b} n e => n (by simp only [Prod.mk.injEq] at e; rw [e.1, e.2]))
theorem SIn.key_eq (h : SIn w p s N) {x z : Wt} (hx : x ∈ s.Ws) (hz : z ∈ s.Ws) (e : (x.id, x.rc) = (z.id, z.rc)) : x = z := pw_eq h.keys hx hz e
theorem SIn.glen (h : SIn w p s N) : s.G.length ≤ s.Ws.length := by
  have := nodup_len (l := s.G) (m := s.Ws.map fun x => (x.id, x.rc)) (List.nodup_iff_pairwise_ne.1 h.gnd) (fun k hk => by
    obtain ⟨x, hx, e, _⟩ := h.gin k hk
    exact List.mem_map.2 ⟨x, hx, e⟩)
  simpa using this

/-- the domain's state is another -/
def Psub (Ps : List Pe) (y' : Pe) : List Pe := Ps.map fun z => if z.dom = y'.dom then y' else z
theorem Psub_mem {Ps : List Pe} {y' z : Pe} (h : z ∈ Psub Ps y') : (z = y' ∧ ∃ u ∈ Ps, u.dom = y'.dom) ∨ (z ∈ Ps ∧ z.dom ≠ y'.dom) := by
  obtain ⟨u, hu, e⟩ := List.mem_map.1 h
  split at e
  · rename_i h'; exact Or.inl ⟨e.symm, u, hu, h'⟩
  · rename_i h'; subst e; exact Or.inr ⟨hu, h'⟩
theorem Psub_in {Ps : List Pe} {y y' : Pe} (hy : y ∈ Ps) (e : y.dom = y'.dom) : y' ∈ Psub Ps y' := List.mem_map.2 ⟨y, hy, by rw [if_pos e]⟩
theorem SIn.setPeer (h : SIn w p s N) {y y' : Pe} (hy : y ∈ s.Ps) (e1 : y'.blk = y.blk) (e2 : y'.wb = y.wb) (e3 : y'.tb = y.tb) (e4 : y'.dom = y.dom) (hk : Kp (fun k => k = y.wb ∨ k = y.tb) w w')
    (b2 : w'.heap[y.wb]? = some (.cells (Wd (V8 s.c.win) y'.now y'.busy) 139 (0, 0))) (b3 : w'.heap[y.tb]? = some (.cells (Bk (V s.c.rate) (V s.c.burst) y'.l y'.t) 141 (0, 0)))
    (hok : WOk (V8 s.c.win) y'.now y'.busy ∧ 0 ≤ y'.l ∧ y'.l ≤ V s.c.burst ∧ 0 ≤ y'.t ∧ y'.t ≤ 1099511627776) : SIn w' p { s with Ps := Psub s.Ps y' } N ∧ St w w' s { s with Ps := Psub s.Ps y' } := by
  obtain ⟨cy1, cy2, cy3⟩ := h.cols.prs y hy
  have K := h.kept hk (fun c => c = cWin y.dom ∨ c = cBuck y.dom) (fun k c hc e => by
    rcases e with rfl | rfl
    · rw [cy2] at hc; exact Or.inl (Option.some.inj hc).symm
    · rw [cy3] at hc; exact Or.inr (Option.some.inj hc).symm)
  have hPm : Pm (Psub s.Ps y') = Pm s.Ps := by
    unfold Pm Psub
    rw [List.map_map]
    refine List.map_congr_left fun z hz => ?_
    simp only [Function.comp]
    split
    · rename_i hd
      obtain rfl := h.dom_eq hz hy (hd.trans e4)
      rw [e1, e4]
    · rfl
  refine ⟨⟨⟨h.cols.head, h.cols.bym, h.cols.prm, h.cols.rgm, h.cols.rg0, h.cols.rg1, h.cols.nm0, h.cols.nm1, h.cols.gng, h.cols.loc, h.cols.wts, fun z hz => ?_⟩, K.lt, K.head (by intro h; first | exact Nat.ne_of_beq_eq_false rfl (congrArg Prod.fst h) | (rcases h with h | h <;> exact Nat.ne_of_beq_eq_false rfl (congrArg Prod.fst h))), K.loc (by intro h; first | exact Nat.ne_of_beq_eq_false rfl (congrArg Prod.fst h) | (rcases h with h | h <;> exact Nat.ne_of_beq_eq_false rfl (congrArg Prod.fst h))), K.bym (by intro h; first | exact Nat.ne_of_beq_eq_false rfl (congrArg Prod.fst h) | (rcases h with h | h <;> exact Nat.ne_of_beq_eq_false rfl (congrArg Prod.fst h))), ?_, K.rgm (by intro h; first | exact Nat.ne_of_beq_eq_false rfl (congrArg Prod.fst h) | (rcases h with h | h <;> exact Nat.ne_of_beq_eq_false rfl (congrArg Prod.fst h))), K.rg0 (by intro h; first | exact Nat.ne_of_beq_eq_false rfl (congrArg Prod.fst h) | (rcases h with h | h <;> exact Nat.ne_of_beq_eq_false rfl (congrArg Prod.fst h))) (by intro h; first | exact Nat.ne_of_beq_eq_false rfl (congrArg Prod.fst h) | (rcases h with h | h <;> exact Nat.ne_of_beq_eq_false rfl (congrArg Prod.fst h))), K.rg1 (by intro h; first | exact Nat.ne_of_beq_eq_false rfl (congrArg Prod.fst h) | (rcases h with h | h <;> exact Nat.ne_of_beq_eq_false rfl (congrArg Prod.fst h))) (by intro h; first | exact Nat.ne_of_beq_eq_false rfl (congrArg Prod.fst h) | (rcases h with h | h <;> exact Nat.ne_of_beq_eq_false rfl (congrArg Prod.fst h))), K.gng (by intro h; first | exact Nat.ne_of_beq_eq_false rfl (congrArg Prod.fst h) | (rcases h with h | h <;> exact Nat.ne_of_beq_eq_false rfl (congrArg Prod.fst h))), fun x hx => K.wts x hx (by intro h; first | exact Nat.ne_of_beq_eq_false rfl (congrArg Prod.fst h) | (rcases h with h | h <;> exact Nat.ne_of_beq_eq_false rfl (congrArg Prod.fst h))), fun z hz => ?_, h.wfs, fun z hz => ?_, h.dok, h.gin, h.gnd, h.ll, h.lw, h.ld, h.l0, h.l1⟩, St.of hk (fun k _ e => ?_) rfl⟩
  · rcases Psub_mem hz with ⟨rfl, _⟩ | ⟨hz, _⟩
    · rw [e1, e2, e3, e4]; exact h.cols.prs y hy
    · exact h.cols.prs z hz
  · show MapAt w' Try.prog 9 s.bp (Psub s.Ps y').length (Pm (Psub s.Ps y'))
    rw [hPm, show (Psub s.Ps y').length = s.Ps.length by simp [Psub]]
    exact K.prm (by intro h; first | exact Nat.ne_of_beq_eq_false rfl (congrArg Prod.fst h) | (rcases h with h | h <;> exact Nat.ne_of_beq_eq_false rfl (congrArg Prod.fst h)))
  · rcases Psub_mem hz with ⟨rfl, _⟩ | ⟨hz, hne⟩
    · rw [e1, e2, e3]; exact ⟨K.prb y hy (by intro h; first | exact Nat.ne_of_beq_eq_false rfl (congrArg Prod.fst h) | (rcases h with h | h <;> exact Nat.ne_of_beq_eq_false rfl (congrArg Prod.fst h))), b2, b3⟩
    · rw [e4] at hne
      exact ⟨K.prb z hz (by intro h; first | exact Nat.ne_of_beq_eq_false rfl (congrArg Prod.fst h) | (rcases h with h | h <;> exact Nat.ne_of_beq_eq_false rfl (congrArg Prod.fst h))), K.prw z hz (by simp [cWin, cBuck, hne]), K.prt z hz (by simp [cWin, cBuck, hne])⟩
  · rcases Psub_mem hz with ⟨rfl, _⟩ | ⟨hz, _⟩
    · exact ⟨hok.1, hok.2.1, hok.2.2.1, hok.2.2.2.1, hok.2.2.2.2, by rw [e4]; exact (h.pok y hy).2.2.2.2.2⟩
    · exact h.pok z hz
  · rcases e with rfl | rfl
    · rw [cy2]; rfl
    · rw [cy3]; rfl

/-- a ring is another -/
def colN (s : Sd) (v' : Value) (c : Nat × (Int × Int) × ByteArray) : Nat → Option (Nat × (Int × Int) × ByteArray) := fun k => if v'.ownBlock = some k then some c else s.col k
theorem SIn.setRing0 (h : SIn w p s N) {v' : Value} {A' : List ByteArray} {M : Nat} (hNM : N ≤ M) (hr : RgAt w' s.r0 v' A') (hsn : SameOrNew w s.v0 v') (hk : Kp (fun k => k = s.r0 ∨ In s.v0 k) w w') (hl : A'.length ≤ M) :
    SIn w' p { s with v0 := v', A0 := A', col := colN s v' (cNames false) } M ∧ St w w' s { s with v0 := v', A0 := A', col := colN s v' (cNames false) } := by
  have hc : ∀ k, (s.col k).isSome → colN s v' (cNames false) k = s.col k := fun k e => by
    unfold colN
    split
    · rename_i h1
      rcases hsn with h2 | h2
      · rw [h2] at h1; exact (h.cols.nm0 k h1).symm
      · have := h2 k h1; have := h.lt k e; omega
    · rfl
  have K := h.kept hk (fun c => c = cRing false ∨ c = cNames false) (fun k c hc e => by
    rcases e with rfl | e
    · rw [h.cols.rg0] at hc; exact Or.inl (Option.some.inj hc).symm
    · rw [h.cols.nm0 k e] at hc; exact Or.inr (Option.some.inj hc).symm)
  have hC := h.cols.keep hc
  refine ⟨⟨⟨hC.head, hC.bym, hC.prm, hC.rgm, hC.rg0, hC.rg1, fun k e => ?_, hC.nm1, hC.gng, hC.loc, hC.wts, hC.prs⟩, fun k e => ?_, K.head (by intro h; first | exact Nat.ne_of_beq_eq_false rfl (congrArg Prod.fst h) | (rcases h with h | h <;> exact Nat.ne_of_beq_eq_false rfl (congrArg Prod.fst h))), K.loc (by intro h; first | exact Nat.ne_of_beq_eq_false rfl (congrArg Prod.fst h) | (rcases h with h | h <;> exact Nat.ne_of_beq_eq_false rfl (congrArg Prod.fst h))), K.bym (by intro h; first | exact Nat.ne_of_beq_eq_false rfl (congrArg Prod.fst h) | (rcases h with h | h <;> exact Nat.ne_of_beq_eq_false rfl (congrArg Prod.fst h))), K.prm (by intro h; first | exact Nat.ne_of_beq_eq_false rfl (congrArg Prod.fst h) | (rcases h with h | h <;> exact Nat.ne_of_beq_eq_false rfl (congrArg Prod.fst h))), K.rgm (by intro h; first | exact Nat.ne_of_beq_eq_false rfl (congrArg Prod.fst h) | (rcases h with h | h <;> exact Nat.ne_of_beq_eq_false rfl (congrArg Prod.fst h))), hr, K.rg1 (by intro h; first | exact Nat.ne_of_beq_eq_false rfl (congrArg Prod.fst h) | (rcases h with h | h <;> exact Nat.ne_of_beq_eq_false rfl (congrArg Prod.fst h))) (by intro h; first | exact Nat.ne_of_beq_eq_false rfl (congrArg Prod.fst h) | (rcases h with h | h <;> exact Nat.ne_of_beq_eq_false rfl (congrArg Prod.fst h))), K.gng (by intro h; first | exact Nat.ne_of_beq_eq_false rfl (congrArg Prod.fst h) | (rcases h with h | h <;> exact Nat.ne_of_beq_eq_false rfl (congrArg Prod.fst h))), fun x hx => K.wts x hx (by intro h; first | exact Nat.ne_of_beq_eq_false rfl (congrArg Prod.fst h) | (rcases h with h | h <;> exact Nat.ne_of_beq_eq_false rfl (congrArg Prod.fst h))), fun z hz => ⟨K.prb z hz (by intro h; first | exact Nat.ne_of_beq_eq_false rfl (congrArg Prod.fst h) | (rcases h with h | h <;> exact Nat.ne_of_beq_eq_false rfl (congrArg Prod.fst h))), K.prw z hz (by intro h; first | exact Nat.ne_of_beq_eq_false rfl (congrArg Prod.fst h) | (rcases h with h | h <;> exact Nat.ne_of_beq_eq_false rfl (congrArg Prod.fst h))), K.prt z hz (by intro h; first | exact Nat.ne_of_beq_eq_false rfl (congrArg Prod.fst h) | (rcases h with h | h <;> exact Nat.ne_of_beq_eq_false rfl (congrArg Prod.fst h)))⟩, h.wfs, h.pok, h.dok, h.gin, h.gnd, Nat.le_trans h.ll hNM, Nat.le_trans h.lw hNM, Nat.le_trans h.ld hNM, hl, Nat.le_trans h.l1 hNM⟩,
    ⟨hc, fun k e => ?_, hk.mono (fun k _ e => ?_)⟩⟩
  · show colN s v' (cNames false) k = some (cNames false)
    unfold colN; rw [if_pos e]
  · have e' : (colN s v' (cNames false) k).isSome := e
    unfold colN at e'
    split at e'
    · rename_i h1; exact hr.row.lt h1
    · exact K.lt k e'
  · have e' : (colN s v' (cNames false) k).isSome := e
    unfold colN at e'
    split at e'
    · rename_i h1
      rcases hsn with h2 | h2
      · rw [h2] at h1; rw [h.cols.nm0 k h1]; exact Or.inl rfl
      · exact Or.inr (h2 k h1)
    · exact Or.inl e'
  · rcases e with rfl | e
    · rw [h.cols.rg0]; rfl
    · rw [h.cols.nm0 k e]; rfl
theorem SIn.setRing1 (h : SIn w p s N) {v' : Value} {A' : List ByteArray} {M : Nat} (hNM : N ≤ M) (hr : RgAt w' s.r1 v' A') (hsn : SameOrNew w s.v1 v') (hk : Kp (fun k => k = s.r1 ∨ In s.v1 k) w w') (hl : A'.length ≤ M) :
    SIn w' p { s with v1 := v', A1 := A', col := colN s v' (cNames true) } M ∧ St w w' s { s with v1 := v', A1 := A', col := colN s v' (cNames true) } := by
  have hc : ∀ k, (s.col k).isSome → colN s v' (cNames true) k = s.col k := fun k e => by
    unfold colN
    split
    · rename_i h1
      rcases hsn with h2 | h2
      · rw [h2] at h1; exact (h.cols.nm1 k h1).symm
      · have := h2 k h1; have := h.lt k e; omega
    · rfl
  have K := h.kept hk (fun c => c = cRing true ∨ c = cNames true) (fun k c hc e => by
    rcases e with rfl | e
    · rw [h.cols.rg1] at hc; exact Or.inl (Option.some.inj hc).symm
    · rw [h.cols.nm1 k e] at hc; exact Or.inr (Option.some.inj hc).symm)
  have hC := h.cols.keep hc
  refine ⟨⟨⟨hC.head, hC.bym, hC.prm, hC.rgm, hC.rg0, hC.rg1, hC.nm0, fun k e => ?_, hC.gng, hC.loc, hC.wts, hC.prs⟩, fun k e => ?_, K.head (by intro h; first | exact Nat.ne_of_beq_eq_false rfl (congrArg Prod.fst h) | (rcases h with h | h <;> exact Nat.ne_of_beq_eq_false rfl (congrArg Prod.fst h))), K.loc (by intro h; first | exact Nat.ne_of_beq_eq_false rfl (congrArg Prod.fst h) | (rcases h with h | h <;> exact Nat.ne_of_beq_eq_false rfl (congrArg Prod.fst h))), K.bym (by intro h; first | exact Nat.ne_of_beq_eq_false rfl (congrArg Prod.fst h) | (rcases h with h | h <;> exact Nat.ne_of_beq_eq_false rfl (congrArg Prod.fst h))), K.prm (by intro h; first | exact Nat.ne_of_beq_eq_false rfl (congrArg Prod.fst h) | (rcases h with h | h <;> exact Nat.ne_of_beq_eq_false rfl (congrArg Prod.fst h))), K.rgm (by intro h; first | exact Nat.ne_of_beq_eq_false rfl (congrArg Prod.fst h) | (rcases h with h | h <;> exact Nat.ne_of_beq_eq_false rfl (congrArg Prod.fst h))), K.rg0 (by intro h; first | exact Nat.ne_of_beq_eq_false rfl (congrArg Prod.fst h) | (rcases h with h | h <;> exact Nat.ne_of_beq_eq_false rfl (congrArg Prod.fst h))) (by intro h; first | exact Nat.ne_of_beq_eq_false rfl (congrArg Prod.fst h) | (rcases h with h | h <;> exact Nat.ne_of_beq_eq_false rfl (congrArg Prod.fst h))), hr, K.gng (by intro h; first | exact Nat.ne_of_beq_eq_false rfl (congrArg Prod.fst h) | (rcases h with h | h <;> exact Nat.ne_of_beq_eq_false rfl (congrArg Prod.fst h))), fun x hx => K.wts x hx (by intro h; first | exact Nat.ne_of_beq_eq_false rfl (congrArg Prod.fst h) | (rcases h with h | h <;> exact Nat.ne_of_beq_eq_false rfl (congrArg Prod.fst h))), fun z hz => ⟨K.prb z hz (by intro h; first | exact Nat.ne_of_beq_eq_false rfl (congrArg Prod.fst h) | (rcases h with h | h <;> exact Nat.ne_of_beq_eq_false rfl (congrArg Prod.fst h))), K.prw z hz (by intro h; first | exact Nat.ne_of_beq_eq_false rfl (congrArg Prod.fst h) | (rcases h with h | h <;> exact Nat.ne_of_beq_eq_false rfl (congrArg Prod.fst h))), K.prt z hz (by intro h; first | exact Nat.ne_of_beq_eq_false rfl (congrArg Prod.fst h) | (rcases h with h | h <;> exact Nat.ne_of_beq_eq_false rfl (congrArg Prod.fst h)))⟩, h.wfs, h.pok, h.dok, h.gin, h.gnd, Nat.le_trans h.ll hNM, Nat.le_trans h.lw hNM, Nat.le_trans h.ld hNM, Nat.le_trans h.l0 hNM, hl⟩,
    ⟨hc, fun k e => ?_, hk.mono (fun k _ e => ?_)⟩⟩
  · show colN s v' (cNames true) k = some (cNames true)
    unfold colN; rw [if_pos e]
  · have e' : (colN s v' (cNames true) k).isSome := e
    unfold colN at e'
    split at e'
    · rename_i h1; exact hr.row.lt h1
    · exact K.lt k e'
  · have e' : (colN s v' (cNames true) k).isSome := e
    unfold colN at e'
    split at e'
    · rename_i h1
      rcases hsn with h2 | h2
      · rw [h2] at h1; rw [h.cols.nm1 k h1]; exact Or.inl rfl
      · exact Or.inr (h2 k h1)
    · exact Or.inl e'
  · rcases e with rfl | e
    · rw [h.cols.rg1]; rfl
    · rw [h.cols.nm1 k e]; rfl
end
end Go.Proofs.Ytbiahndpfbmoeaa
