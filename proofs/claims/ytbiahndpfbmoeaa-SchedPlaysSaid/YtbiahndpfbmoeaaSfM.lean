/- The two schedulers side by side: what holds of both, and what each call does to it. No program in sight but for the contracts. -/
import Derived.Test.YtbiahndpfbmoeaaSfB
import Derived.Test.YtbiahndpfbmoeaaSf9
import Derived.Test.YtbiahndpfbmoeaaSfA
import Derived.Test.YtbiahndpfbmoeaaSd22
namespace Go.Proofs.Ytbiahndpfbmoeaa
open Go.RowKit SatAid

/-- the program's and the reference's, in one memory, apart from each other -/
structure SJ (W w : World) (p : Nat) (s : Sd) (q : Nat) (r : Sd) (N : Nat) : Prop where
  si : SI W w p s N
  mi : ∃ vl vp, MIn w q r vl vp N
  fresh : ∀ k, (r.col k).isSome → W.heap.size ≤ k
  lofr : ∀ ao cap, r.c.lv = .slice ao r.c.L.length cap → r.c.L ≠ [] → ∀ bb off, ao = some ⟨bb, off, none⟩ → bb < W.heap.size
  sep : ∀ k, (s.col k).isSome → r.col k = none
  dsz : ∀ d ∈ r.D, d.size ≤ maxLen
/-- a block of neither -/
structure Kb (w : World) (s r : Sd) (b : Nat) (O : Obj) : Prop where
  at_ : w.heap[b]? = some O
  bs : s.col b = none
  br : r.col b = none
/-- what was a block of neither still is one, and holds what it held -/
def Nx (w w' : World) (s s' r r' : Sd) : Prop := ∀ b O, Kb w s r b O → Kb w' s' r' b O
section
variable {W w w' w1 : World} {p q N N' b : Nat} {s s' s1 r r' r1 : Sd} {O : Obj}
theorem Nx.refl : Nx w w s s r r := fun _ _ h => h
theorem Nx.trans (h : Nx w w' s s' r r') (g : Nx w' w1 s' s1 r' r1) : Nx w w1 s s1 r r1 := fun b O k => g b O (h b O k)
theorem Kb.calm (h : Kb w s r b O) (hk : Kp (fun _ => False) w w') : Kb w' s r b O := ⟨hk.keep h.at_ (fun h => h), h.bs, h.br⟩
theorem Nx.calm (hk : Kp (fun _ => False) w w') : Nx w w' s s r r := fun _ _ k => k.calm hk
theorem Kb.past {b2 : Nat} (h : Kb w s r b O) (hk : Kp (fun k => k = b2) w w') (hb : b ≠ b2) : Kb w' s r b O := ⟨hk.keep h.at_ hb, h.bs, h.br⟩
theorem Nx.stepS (st : St w w' s s') : Nx w w' s s' r r := fun _ _ k => ⟨st.kp.keep k.at_ (by rw [k.bs]; exact Bool.false_ne_true), st.none (lt_of_block k.at_) k.bs, k.br⟩
theorem Nx.stepM (st : St w w' r r') : Nx w w' s s r r' := fun _ _ k => ⟨st.kp.keep k.at_ (by rw [k.br]; exact Bool.false_ne_true), k.bs, st.none (lt_of_block k.at_) k.br⟩
theorem SIn.more {M : Nat} (h : SIn w p s N) (hM : N ≤ M) : SIn w p s M := { h with ll := Nat.le_trans h.ll hM, lw := Nat.le_trans h.lw hM, ld := Nat.le_trans h.ld hM, l0 := Nat.le_trans h.l0 hM, l1 := Nat.le_trans h.l1 hM }
theorem SI.more {M : Nat} (h : SI W w p s N) (hM : N ≤ M) : SI W w p s M := ⟨h.si.more hM, h.fresh, h.kp⟩
theorem SJ.more {M : Nat} (h : SJ W w p s q r N) (hM : N ≤ M) : SJ W w p s q r M := by
  obtain ⟨vl, vp, hm⟩ := h.mi
  exact ⟨h.si.more hM, ⟨vl, vp, hm.more hM⟩, h.fresh, h.lofr, h.sep, h.dsz⟩
theorem SJ.calm (h : SJ W w p s q r N) (hk : Kp (fun _ => False) w w') : SJ W w' p s q r N := by
  obtain ⟨vl, vp, hm⟩ := h.mi
  exact ⟨h.si.calm hk, ⟨vl, vp, hm.calm hk⟩, h.fresh, h.lofr, h.sep, h.dsz⟩
theorem SJ.past (h : SJ W w p s q r N) (kb : Kb w s r b O) (hb : W.heap.size ≤ b) (hk : Kp (fun k => k = b) w w') : SJ W w' p s q r N := by
  obtain ⟨vl, vp, hm⟩ := h.mi
  refine ⟨h.si.upon hk (fun k e => by have e2 : k = b := e; subst e2; exact ⟨hb, kb.bs⟩), ⟨vl, vp, hm.keep hk (fun k e e2 => ?_) (fun ao cap e1 e2 bb off e3 e4 => ?_)⟩, h.fresh, h.lofr, h.sep, h.dsz⟩
  · have e3 : k = b := e2
    subst e3
    rw [kb.br] at e; cases e
  · have e5 : bb = b := e4
    have := h.lofr ao cap e1 e2 bb off e3
    omega
theorem SJ.stepS (h : SJ W w p s q r N) (hi : SI W w' p s' N') (st : St w w' s s') (hN : N ≤ N') : SJ W w' p s' q r N' := by
  obtain ⟨vl, vp, hm⟩ := h.mi
  refine ⟨hi, ⟨vl, vp, (hm.keep st.kp (fun k e e2 => ?_) (fun ao cap e1 e2 bb off e3 e4 => ?_)).more hN⟩, h.fresh, h.lofr, fun k e => ?_, h.dsz⟩
  · rw [h.sep k e2] at e; cases e
  · have h1 := h.lofr ao cap e1 e2 bb off e3
    have h2 := h.si.fresh bb e4
    omega
  · rcases st.new k e with e1 | e1
    · exact h.sep k e1
    · cases hc : r.col k with
      | none => rfl
      | some c => have := hm.lt k (by rw [hc]; rfl); omega
theorem SJ.stepM {vl vp : Value} (h : SJ W w p s q r N) (hm : MIn w' q r' vl vp N') (st : St w w' r r') (hc : r'.c = r.c) (hD : ∀ d ∈ r'.D, d.size ≤ maxLen) (hN : N ≤ N') : SJ W w' p s q r' N' := by
  have hn : ∀ k, (s.col k).isSome → k < w.heap.size := h.si.si.lt
  refine ⟨(h.si.upon st.kp (fun k e => ⟨h.fresh k e, ?_⟩)).more hN, ⟨vl, vp, hm⟩, fun k e => ?_, by rw [hc]; exact h.lofr, fun k e => ?_, hD⟩
  · cases hs : s.col k with
    | none => rfl
    | some c => rw [h.sep k (by rw [hs]; rfl)] at e; cases e
  · rcases st.new k e with e1 | e1
    · exact h.fresh k e1
    · exact Nat.le_trans h.si.kp.size e1
  · cases hr : r'.col k with
    | none => rfl
    | some c =>
      rcases st.new k (by rw [hr]; rfl) with e1 | e1
      · rw [h.sep k e] at e1; cases e1
      · have := hn k e; omega
/-- a new block is one of neither -/
theorem SJ.newb (h : SJ W w p s q r N) (hb : w.heap.size ≤ b) (hc : w'.heap[b]? = some O) : Kb w' s r b O := by
  obtain ⟨vl, vp, hm⟩ := h.mi
  refine ⟨hc, ?_, ?_⟩
  · cases e : s.col b with
    | none => rfl
    | some c => have := h.si.si.lt b (by rw [e]; rfl); omega
  · cases e : r.col b with
    | none => rfl
    | some c => have := hm.lt b (by rw [e]; rfl); omega
end

/-! the plain side -/
structure Aq (A B : Ab) : Prop where
  W : A.W.Perm B.W
  A0 : A.A0 = B.A0
  A1 : A.A1 = B.A1
  G : A.G = B.G
  last : A.last = B.last
def Uk (L : List Wx) : Prop := ∀ x ∈ L, ∀ y ∈ L, (x.id, x.rc) = (y.id, y.rc) → x = y
theorem Uk.of {W : List Wt} (h : W.Pairwise (fun a b => (a.id, a.rc) ≠ (b.id, b.rc))) : Uk (W.map wx) := by
  intro x hx y hy e
  obtain ⟨a, ha, rfl⟩ := List.mem_map.1 hx
  obtain ⟨c, hc, rfl⟩ := List.mem_map.1 hy
  rw [pw_eq (f := fun z : Wt => (z.id, z.rc)) h ha hc e]
def dupA (A : Ab) (k : Int × Int) : Bool := A.W.any fun z => decide ((z.id, z.rc) = k)
def aPut' (A : Ab) (x : Wx) : Ab := if dupA A (x.id, x.rc) then A else aPut A x
def fdA (A : Ab) (k : Int × Int) : Option Wx := A.W.find? fun z => decide ((z.id, z.rc) = k) && !z.go
def aDrop (A : Ab) (k : Int × Int) : Ab := match fdA A k with | some x => aGone A x | none => A
theorem any_perm {α : Type} {f : α → Bool} {L M : List α} (h : L.Perm M) : L.any f = M.any f := by
  rw [Bool.eq_iff_iff, List.any_eq_true, List.any_eq_true]
  exact ⟨fun ⟨x, hx, e⟩ => ⟨x, h.mem_iff.1 hx, e⟩, fun ⟨x, hx, e⟩ => ⟨x, h.mem_iff.2 hx, e⟩⟩
theorem all_perm {α : Type} {f : α → Bool} {L M : List α} (h : L.Perm M) : L.all f = M.all f := by
  rw [Bool.eq_iff_iff, List.all_eq_true, List.all_eq_true]
  exact ⟨fun g x hx => g x (h.mem_iff.2 hx), fun g x hx => g x (h.mem_iff.1 hx)⟩
theorem find_perm {f : Wx → Bool} {k : Int × Int} {L M : List Wx} (h : L.Perm M) (hu : Uk L) (hf : ∀ x, f x = true → (x.id, x.rc) = k) : L.find? f = M.find? f := by
  cases e : L.find? f with
  | none =>
    rw [List.find?_eq_none] at e
    exact ((List.find?_eq_none).2 fun x hx => e x (h.mem_iff.2 hx)).symm
  | some x =>
    have hx := List.mem_of_find?_eq_some e
    have hfx := List.find?_some e
    cases e2 : M.find? f with
    | none =>
      rw [List.find?_eq_none] at e2
      exact absurd hfx (e2 x (h.mem_iff.1 hx))
    | some y =>
      have hy := h.mem_iff.2 (List.mem_of_find?_eq_some e2)
      have hfy := List.find?_some e2
      rw [hu x hx y hy ((hf x hfx).trans (hf y hfy).symm)]
section
variable {A B : Ab} {k : Int × Int} {x : Wx}
theorem Aq.dup (h : Aq A B) : dupA A k = dupA B k := any_perm h.W
theorem Aq.put (h : Aq A B) : Aq (aPut A x) (aPut B x) :=
  ⟨h.W.append_right [x], by show (if x.loc then A.A0 else _) = if x.loc then B.A0 else _; rw [h.A0], by show (if x.loc then _ else A.A1) = if x.loc then _ else B.A1; rw [h.A1], h.G, h.last⟩
theorem Aq.put' (h : Aq A B) : Aq (aPut' A x) (aPut' B x) := by
  unfold aPut'
  rw [h.dup]
  split
  · exact h
  · exact h.put
theorem Aq.go {g : Bool} {n : Int → Int} (h : Aq A B) : Aq (aGo A k g n) (aGo B k g n) := ⟨h.W.map _, h.A0, h.A1, h.G, h.last⟩
theorem Aq.turn {l : Bool} {i : Nat} (h : Aq A B) : Aq (aTurn A l i) (aTurn B l i) := by
  cases l
  · exact ⟨h.W, by show Turn i A.A0 = Turn i B.A0; rw [h.A0], h.A1, h.G, h.last⟩
  · exact ⟨h.W, h.A0, by show Turn i A.A1 = Turn i B.A1; rw [h.A1], h.G, h.last⟩
theorem Aq.begin {l : Bool} {i : Nat} (h : Aq A B) : Aq (aBegin A l i k) (aBegin B l i k) := by
  have h1 := (h.turn (l := l) (i := i)).go (k := k) (g := true) (n := fun n => n)
  exact ⟨h1.W, h1.A0, h1.A1, by show A.G ++ [k] = B.G ++ [k]; rw [h.G], rfl⟩
theorem Aq.del (h : Aq A B) : Aq (aDel A k) (aDel B k) := ⟨h.W.filter _, h.A0, h.A1, h.G, h.last⟩
theorem Aq.gone (h : Aq A B) : Aq (aGone A x) (aGone B x) := by
  have h1 := h.del (k := (x.id, x.rc))
  have h2 : aLast (aDel A (x.id, x.rc)) x = aLast (aDel B (x.id, x.rc)) x := all_perm h1.W
  unfold aGone
  dsimp only
  rw [h2]
  split
  · exact ⟨h1.W, by rw [h1.A0], by rw [h1.A1], h1.G, h1.last⟩
  · exact h1
theorem Aq.ends {i : Nat} {st : Bool} {n : Int} (h : Aq A B) : Aq (aEnd A i x st n) (aEnd B i x st n) := by
  have h0 : Aq { A with G := CutG i A.G } { B with G := CutG i B.G } := ⟨h.W, h.A0, h.A1, by rw [h.G], h.last⟩
  have h1 := h0.go (k := (x.id, x.rc)) (g := false) (n := fun _ => n)
  unfold aEnd
  cases st
  · exact h1.gone
  · exact h1
theorem Aq.fd (h : Aq A B) (hu : Uk A.W) : fdA A k = fdA B k := find_perm (k := k) h.W hu (fun x e => by simp only [Bool.and_eq_true, decide_eq_true_eq] at e; exact e.1)
theorem Aq.drop (h : Aq A B) (hu : Uk A.W) : Aq (aDrop A k) (aDrop B k) := by
  unfold aDrop
  rw [h.fd hu]
  split
  · exact h.gone
  · exact h
theorem Aq.of (h : Aeq A B) : Aq A B := ⟨h.2.1, h.2.2.1, h.2.2.2.1, h.2.2.2.2.1, h.2.2.2.2.2⟩
theorem Aq.trans {D : Ab} (h : Aq A B) (g : Aq B D) : Aq A D := ⟨h.W.trans g.W, h.A0.trans g.A0, h.A1.trans g.A1, h.G.trans g.G, h.last.trans g.last⟩
theorem Aq.symm (h : Aq A B) : Aq B A := ⟨h.W.symm, h.A0.symm, h.A1.symm, h.G.symm, h.last.symm⟩
theorem Aq.dm (h : Aq A B) (hu : Uk A.W) : dmA A.W k = dmA B.W k := by
  unfold dmA
  rw [find_perm (k := k) h.W hu (fun x e => of_decide_eq_true e)]
theorem Aq.starts (h : Aq A B) (hu : Uk A.W) : aStarts A = aStarts B := by
  unfold aStarts
  rw [h.G]
  exact List.map_congr_left fun k _ => by rw [h.dm hu]
theorem Aq.rg (h : Aq A B) (l : Bool) : rgB A l = rgB B l := by unfold rgB; rw [h.A0, h.A1]
theorem Aq.fx (h : Aq A B) (f : ByteArray → Bool) (l : Bool) (now : Int) (L : List ByteArray) : Fx (rsA A f l now) L = Fx (rsA B f l now) L :=
  Fx_congr fun _ => ((h.W.filter _).map _).mem_iff
theorem Aq.pk (h : Aq A B) (f : ByteArray → Bool) (now : Int) (l : Bool) : PkA A f now l ↔ PkA B f now l := by
  unfold PkA
  rw [h.rg, h.fx]
theorem Aq.lc (h : Aq A B) (f : ByteArray → Bool) (now : Int) : LcA A f now = LcA B f now := by
  unfold LcA
  rw [h.last]
  by_cases e : PkA A f now (!B.last)
  · rw [if_pos e, if_pos ((h.pk f now _).1 e)]
  · rw [if_neg e, if_neg (fun e2 => e ((h.pk f now _).2 e2))]
theorem Aq.fi (h : Aq A B) (f : ByteArray → Bool) (now : Int) : FiA A f now = FiA B f now := by
  unfold FiA
  rw [h.lc, h.rg, h.fx]
theorem Aq.any (h : Aq A B) (f : ByteArray → Bool) (now : Int) : AnyA A f now ↔ AnyA B f now :=
  ⟨fun ⟨x, hx, e⟩ => ⟨x, h.W.mem_iff.1 hx, e⟩, fun ⟨x, hx, e⟩ => ⟨x, h.W.mem_iff.2 hx, e⟩⟩
theorem Aq.inv (h : Aq A B) (g : InvA A) : InvA B := fun x hx => by rw [← h.rg]; exact g x (h.W.mem_iff.2 hx)
theorem BestA.to {f : ByteArray → Bool} {now : Int} (h : Aq A B) (g : BestA A f now x) : BestA B f now x :=
  ⟨h.W.mem_iff.1 g.mem, by rw [← h.lc]; exact g.rd, by rw [← h.lc, ← h.rg, ← h.fi]; exact g.sd, fun z hz => by rw [← h.lc]; exact g.le z (h.W.mem_iff.2 hz)⟩
theorem BestA.uniq {f : ByteArray → Bool} {now : Int} {y : Wx} (g : BestA A f now x) (k : BestA A f now y) (hu : Uk A.W) : x = y := by
  have e : x.snd = y.snd := g.sd.trans k.sd.symm
  have h1 := g.le y k.mem k.rd e.symm
  have h2 := k.le x g.mem g.rd e
  refine hu x g.mem y k.mem ?_
  have e1 : x.id = y.id := by omega
  have e2 : x.rc = y.rc := by omega
  rw [e1, e2]
end
structure Cq (c d : Cf) : Prop where
  L : c.L = d.L
  win : c.win = d.win
  rate : c.rate = d.rate
  burst : c.burst = d.burst
/-- alike at a time -/
structure Alk (now : Int) (s r : Sd) : Prop where
  aq : Aq (ab s) (ab r)
  cq : Cq s.c r.c
  inv : InvA (ab s)
  tS : Tik s now
  tR : Tik r now
  n : ∀ d, vN s d = vN r d
  b : ∀ d, vB s d = vB r d
  t : ∀ m d, now ≤ m → m ≤ 1099511627776 → vT s m d = vT r m d
section
variable {now : Int} {s s' r r' : Sd}
theorem Alk.later {m : Int} (h : Alk now s r) (hm : now ≤ m) : Alk m s r :=
  ⟨h.aq, h.cq, h.inv, fun y hy => Int.le_trans (h.tS y hy) hm, fun y hy => Int.le_trans (h.tR y hy) hm, h.n, h.b, fun m' d h1 h2 => h.t m' d (Int.le_trans hm h1) h2⟩
theorem Alk.step (h : Alk now s r) (vs : Vq now s s') (vr : Vq now r r') (ha : Aq (ab s') (ab r')) (hc : s'.c = s.c) (hd : r'.c = r.c) (hi : InvA (ab s')) : Alk now s' r' :=
  ⟨ha, by rw [hc, hd]; exact h.cq, hi, vs.le, vr.le, fun d => by rw [vs.n, vr.n, h.n], fun d => by rw [vs.b, vr.b, h.b], fun m d h1 h2 => by rw [vs.t m d h1 h2, vr.t m d h1 h2, h.t m d h1 h2]⟩
theorem Alk.stepB {d0 : ByteArray} (h : Alk now s r) (hn2 : now ≤ 1099511627776) (vs : Vb now d0 s s') (vr : Vb now d0 r r') (ha : Aq (ab s') (ab r')) (hc : s'.c = s.c) (hd : r'.c = r.c) (hi : InvA (ab s')) : Alk now s' r' :=
  ⟨ha, by rw [hc, hd]; exact h.cq, hi, vs.le, vr.le, fun d => by rw [vs.n, vr.n, h.n], fun d => by rw [vs.b, vr.b, h.b], fun m d h1 h2 => by
    rw [vs.t m d h1 h2, vr.t m d h1 h2, h.t m d h1 h2, h.t now d0 (Int.le_refl _) hn2, h.cq.rate, h.cq.burst]⟩
theorem Alk.stepE {d0 : ByteArray} {g : Bool} (h : Alk now s r) (vs : Ve now d0 g s s') (vr : Ve now d0 g r r') (ha : Aq (ab s') (ab r')) (hc : s'.c = s.c) (hd : r'.c = r.c) (hi : InvA (ab s')) : Alk now s' r' :=
  ⟨ha, by rw [hc, hd]; exact h.cq, hi, vs.le, vr.le, fun d => by rw [vs.n, vr.n, h.n, h.b, h.cq.win], fun d => by rw [vs.b, vr.b, h.b], fun m d h1 h2 => by rw [vs.t m d h1 h2, vr.t m d h1 h2, h.t m d h1 h2]⟩
theorem Alk.may (h : Alk now s r) (hn2 : now ≤ 1099511627776) : fr s now = fr r now := by
  funext d
  unfold fr
  rw [h.n, h.b, h.t now d (Int.le_refl _) hn2]
theorem aPut'_c {A : Ab} {x : Wx} : (aPut' A x).c = A.c := by unfold aPut'; split <;> rfl
theorem aDrop_c {A : Ab} {k : Int × Int} : (aDrop A k).c = A.c := by
  unfold aDrop
  split
  · exact aGone_c _ _
  · rfl
theorem Alk.put {x : Wx} (h : Alk now s r) (hs : ab s' = aPut' (ab s) x) (ps : s'.Ps = s.Ps) (hr : ab r' = aPut' (ab r) x) (pr : r'.Ps = r.Ps) : Alk now s' r' := by
  have c1 : s'.c = s.c := (congrArg Ab.c hs).trans aPut'_c
  have c2 : r'.c = r.c := (congrArg Ab.c hr).trans aPut'_c
  refine h.step (Vq.of ps c1 h.tS) (Vq.of pr c2 h.tR) (by rw [hs, hr]; exact h.aq.put') c1 c2 ?_
  rw [hs]
  unfold aPut'
  split
  · exact h.inv
  · exact h.inv.put
theorem Alk.drop {k : Int × Int} (h : Alk now s r) (hu : Uk (ab s).W) (hs : ab s' = aDrop (ab s) k) (ps : s'.Ps = s.Ps) (hr : ab r' = aDrop (ab r) k) (pr : r'.Ps = r.Ps) : Alk now s' r' := by
  have c1 : s'.c = s.c := (congrArg Ab.c hs).trans aDrop_c
  have c2 : r'.c = r.c := (congrArg Ab.c hr).trans aDrop_c
  refine h.step (Vq.of ps c1 h.tS) (Vq.of pr c2 h.tR) (by rw [hs, hr]; exact h.aq.drop hu) c1 c2 ?_
  rw [hs]
  unfold aDrop
  split
  · exact h.inv.gone
  · exact h.inv
theorem Alk.begun {l : Bool} {i : Nat} {x : Wx} (h : Alk now s r) (hn2 : now ≤ 1099511627776) (hi : i < (rgB (ab s) l).length) (hs : ab s' = aBegin (ab s) l i (x.id, x.rc)) (vs : Vb now x.dom s s') (hr : ab r' = aBegin (ab r) l i (x.id, x.rc)) (vr : Vb now x.dom r r') : Alk now s' r' :=
  h.stepB hn2 vs vr (by rw [hs, hr]; exact h.aq.begin) ((congrArg Ab.c hs).trans (aBegin_c _ _ _ _)) ((congrArg Ab.c hr).trans (aBegin_c _ _ _ _)) (by rw [hs]; exact h.inv.begin hi)
theorem Alk.ended {i : Nat} {x : Wx} {g st : Bool} {n : Int} (h : Alk now s r) (hs : ab s' = aEnd (ab s) i x st n) (vs : Ve now x.dom g s s') (hr : Aeq (ab r') (aEnd (ab r) i x st n)) (vr : Ve now x.dom g r r') : Alk now s' r' :=
  h.stepE vs vr (by rw [hs]; exact h.aq.ends.trans (Aq.of hr).symm) ((congrArg Ab.c hs).trans (aEnd_c _ _ _ _ _)) (hr.1.trans (aEnd_c _ _ _ _ _)) (by rw [hs]; exact h.inv.ends)
end
end Go.Proofs.Ytbiahndpfbmoeaa

/- What each call does to the two schedulers side by side. Condition: there are no more recipients than fit into memory. -/
namespace Go.Proofs.Ytbiahndpfbmoeaa
open Go.RowKit SatAid

section
variable {W w : World} {p q N : Nat} {s r : Sd}
theorem SJ.uk (h : SJ W w p s q r N) : Uk (ab s).W := Uk.of h.si.si.keys
theorem SJ.ukM (h : SJ W w p s q r N) : Uk (ab r).W := by
  obtain ⟨vl, vp, hm⟩ := h.mi
  exact Uk.of hm.keys
theorem dup_iff {A : Ab} {k : Int × Int} : dupA A k = true ↔ ∃ z ∈ A.W, (z.id, z.rc) = k := by
  unfold dupA
  rw [List.any_eq_true]
  exact ⟨fun ⟨x, hx, e⟩ => ⟨x, hx, of_decide_eq_true e⟩, fun ⟨x, hx, e⟩ => ⟨x, hx, decide_eq_true e⟩⟩
/-- Put, the program's -/
theorem putS (h : SJ W w p s q r N) (id rc n : Int) (a b : ByteArray) (dd : Bool) (hd : dupA (ab s) (id, rc) = dd) (h1 : (Lit.int .i64 id).wf = true) (h2 : (Lit.int .i64 rc).wf = true) (hb : b.size ≤ maxLen) (hN : N ≤ 1000000) :
    Calls Try.prog 25 #[.pointer (some ⟨p, 0, none⟩), .int .i64 id, .int .i64 rc, .string a, .string b, .int .i64 n] w fun e w' =>
      e = .returned (.bool (!dd)) ∧ ∃ s', SJ W w' p s' q r (N + 1) ∧ Nx w w' s s' r r ∧ ab s' = aPut' (ab s) ⟨id, rc, a, b, Has b s.c.L, false, C n⟩ ∧ s'.Ps = s.Ps := by
  refine (putA id rc n a b h.si h1 h2 hb hN).mono ?_
  rintro e w' ⟨g1, g2⟩
  cases dd with
  | true =>
    obtain ⟨e1, hi, hk⟩ := g1 (dup_iff.1 hd)
    exact ⟨e1, s, (h.calm hk).more (Nat.le_succ N), Nx.calm hk, by unfold aPut'; rw [if_pos (show dupA (ab s) (id, rc) = true from hd)], rfl⟩
  | false =>
    obtain ⟨e1, s', hi, st, ha, hp⟩ := g2 (fun hn => by rw [dup_iff.2 hn] at hd; cases hd)
    exact ⟨e1, s', h.stepS hi st (Nat.le_succ N), Nx.stepS st, by unfold aPut'; rw [if_neg (by show ¬ dupA (ab s) (id, rc) = true; rw [hd]; exact Bool.false_ne_true)]; exact ha, hp⟩
/-- Put, the reference's -/
theorem putM (h : SJ W w p s q r N) (id rc n : Int) (a b : ByteArray) (dd : Bool) (hd : dupA (ab r) (id, rc) = dd) (hb : b.size ≤ maxLen) (hN : N ≤ 1000000) :
    Calls Try.prog 26 #[.pointer (some ⟨q, 0, none⟩), .agg #[.int .i64 id, .int .i64 rc, .int .i64 n, .string a, .string b, .bool false, .bool false]] w fun e w' =>
      e = .returned (.bool (!dd)) ∧ ∃ r', SJ W w' p s q r' (N + 1) ∧ Nx w w' s s r r' ∧ ab r' = aPut' (ab r) ⟨id, rc, a, b, Has b r.c.L, false, C n⟩ ∧ r'.Ps = r.Ps := by
  obtain ⟨vl, vp, hm⟩ := h.mi
  refine (fput_any q N r vl vp id rc n a b false false w hm hN).mono ?_
  rintro e w' ⟨g1, g2⟩
  cases dd with
  | true =>
    obtain ⟨e1, _, hk⟩ := g1 (dup_iff.1 hd)
    exact ⟨e1, r, (h.calm hk).more (Nat.le_succ N), Nx.calm hk, by unfold aPut'; rw [if_pos (show dupA (ab r) (id, rc) = true from hd)], rfl⟩
  | false =>
    obtain ⟨e1, r', vl', hm', st, ha, hp, hD⟩ := g2 (fun hn => by rw [dup_iff.2 hn] at hd; cases hd)
    refine ⟨e1, r', h.stepM hm' st (congrArg Ab.c ha) (fun d hd' => ?_) (Nat.le_succ N), Nx.stepM st, by unfold aPut'; rw [if_neg (by show ¬ dupA (ab r) (id, rc) = true; rw [hd]; exact Bool.false_ne_true)]; exact ha, hp⟩
    rw [hD] at hd'
    rcases List.mem_append.1 hd' with e | e
    · exact h.dsz d e
    · rw [List.mem_singleton.1 e]; exact hb
theorem fd_none {A : Ab} {k : Int × Int} (h : (fdA A k).isSome = false) : fdA A k = none ∧ ∀ z ∈ A.W, (z.id, z.rc) = k → z.go = true := by
  have h1 : fdA A k = none := by cases e : fdA A k with | none => rfl | some x => rw [e] at h; cases h
  refine ⟨h1, fun z hz e => ?_⟩
  have h2 := List.find?_eq_none.1 h1 z hz
  cases hg : z.go with
  | true => rfl
  | false => rw [hg] at h2; simp [e] at h2
theorem fd_some {A : Ab} {k : Int × Int} (h : (fdA A k).isSome = true) : ∃ x, fdA A k = some x ∧ x ∈ A.W ∧ (x.id, x.rc) = k ∧ x.go = false := by
  obtain ⟨x, hx⟩ := Option.isSome_iff_exists.1 h
  have h1 := List.find?_some hx
  simp only [Bool.and_eq_true, decide_eq_true_eq, Bool.not_eq_true'] at h1
  exact ⟨x, hx, List.mem_of_find?_eq_some hx, h1.1, h1.2⟩
theorem drop_none {A : Ab} {k : Int × Int} (h : fdA A k = none) : aDrop A k = A := by unfold aDrop; rw [h]
theorem drop_some {A : Ab} {k : Int × Int} {x : Wx} (h : fdA A k = some x) : aDrop A k = aGone A x := by unfold aDrop; rw [h]
/-- Drop, the program's -/
theorem dropS (h : SJ W w p s q r N) (id rc : Int) (dd : Bool) (hd : (fdA (ab s) (id, rc)).isSome = dd) (h1 : (Lit.int .i64 id).wf = true) (h2 : (Lit.int .i64 rc).wf = true) (hN : N ≤ 1000000) :
    Calls Try.prog 27 #[.pointer (some ⟨p, 0, none⟩), .int .i64 id, .int .i64 rc] w fun e w' =>
      e = .returned (.bool dd) ∧ ∃ s', SJ W w' p s' q r N ∧ Nx w w' s s' r r ∧ ab s' = aDrop (ab s) (id, rc) ∧ s'.Ps = s.Ps := by
  cases dd with
  | false =>
    obtain ⟨e1, e2⟩ := fd_none hd
    by_cases hm : ∃ z ∈ s.Ws, (z.id, z.rc) = (id, rc)
    · obtain ⟨z, hz, e⟩ := hm
      have hg := e2 (wx z) (List.mem_map.2 ⟨z, hz, rfl⟩) e
      obtain ⟨rfl, rfl⟩ := Prod.mk.inj e
      refine (sdrop_going p N s z w h.si.si hz hg).mono ?_
      rintro e w' ⟨rfl, rfl⟩
      exact ⟨rfl, s, h, Nx.refl, (drop_none e1).symm, rfl⟩
    · refine (sdrop_miss p N s id rc w h.si.si h1 h2 (fun z hz e => hm ⟨z, hz, e⟩)).mono ?_
      rintro e w' ⟨rfl, rfl⟩
      exact ⟨rfl, s, h, Nx.refl, (drop_none e1).symm, rfl⟩
  | true =>
    obtain ⟨x, e1, hx, e, hg⟩ := fd_some hd
    obtain ⟨z, hz, rfl⟩ := List.mem_map.1 hx
    obtain ⟨rfl, rfl⟩ := Prod.mk.inj e
    refine (sdrop_yes p N s z w h.si.si hz hg hN).mono ?_
    rintro e w' ⟨rfl, s', hi, st, ha, hp⟩
    exact ⟨rfl, s', h.stepS (h.si.next hi st) st (Nat.le_refl N), Nx.stepS st, by rw [drop_some e1]; exact ha, hp⟩
/-- Drop, the reference's -/
theorem dropM (h : SJ W w p s q r N) (id rc : Int) (dd : Bool) (hd : (fdA (ab r) (id, rc)).isSome = dd) (hN : N ≤ 1000000) :
    Calls Try.prog 28 #[.pointer (some ⟨q, 0, none⟩), .int .i64 id, .int .i64 rc] w fun e w' =>
      e = .returned (.bool dd) ∧ ∃ r', SJ W w' p s q r' N ∧ Nx w w' s s r r' ∧ ab r' = aDrop (ab r) (id, rc) ∧ r'.Ps = r.Ps := by
  obtain ⟨vl, vp, hm⟩ := h.mi
  refine (fdropS_any q N r vl vp id rc w hm hN).mono ?_
  rintro e w' ⟨g1, g2, g3⟩
  cases dd with
  | false =>
    obtain ⟨e1, e2⟩ := fd_none hd
    by_cases hx : ∃ z ∈ r.Ws, (z.id, z.rc) = (id, rc)
    · obtain ⟨z, hz, e⟩ := hx
      have hg := e2 (wx z) (List.mem_map.2 ⟨z, hz, rfl⟩) e
      obtain ⟨r1, r2⟩ := Prod.mk.inj e
      obtain ⟨e3, _, hk⟩ := g2 z hz r1 r2 hg
      exact ⟨e3, r, h.calm hk, Nx.calm hk, (drop_none e1).symm, rfl⟩
    · obtain ⟨e3, _, hk⟩ := g1 (fun z hz e => hx ⟨z, hz, by rw [e.1, e.2]⟩)
      exact ⟨e3, r, h.calm hk, Nx.calm hk, (drop_none e1).symm, rfl⟩
  | true =>
    obtain ⟨x, e1, hx, e, hg⟩ := fd_some hd
    obtain ⟨z, hz, rfl⟩ := List.mem_map.1 hx
    obtain ⟨r1, r2⟩ := Prod.mk.inj e
    obtain ⟨e3, r', vl', hm', st, ha, hp, hD⟩ := g3 z hz r1 r2 hg
    exact ⟨e3, r', h.stepM hm' st ((congrArg Ab.c ha).trans (aGone_c _ _)) (by rw [hD]; exact h.dsz) (Nat.le_refl N), Nx.stepM st, by rw [drop_some e1]; exact ha, hp⟩
def PkR (A A' : Ab) (f : ByteArray → Bool) (now : Int) (s s' : Sd) (e : Ending) : Prop :=
  (¬ AnyA A f now → e = .returned (.tuple #[z3, .bool false]) ∧ A' = A ∧ Vq now s s') ∧
  (AnyA A f now → ∃ x, BestA A f now x ∧ FiA A f now < (rgB A (LcA A f now)).length ∧ e = .returned (.tuple #[.agg #[.int .i64 x.id, .int .i64 x.rc, .string x.dom], .bool true]) ∧ A' = aBegin A (LcA A f now) (FiA A f now) (x.id, x.rc) ∧ Vb now x.dom s s')
/-- Pick, the program's -/
theorem pickS {now : Int} (h : SJ W w p s q r N) (hv : InvA (ab s)) (ht : Tik s now) (hC : C now = now) (hN : N ≤ 1000000) :
    Calls Try.prog 30 #[.pointer (some ⟨p, 0, none⟩), .int .i64 now] w fun e w' => ∃ s', SJ W w' p s' q r N ∧ Nx w w' s s' r r ∧ PkR (ab s) (ab s') (fr s now) now s s' e := by
  refine (pickA h.si hv ht hC hN).mono ?_
  rintro e w' ⟨g1, g2⟩
  by_cases hA : AnyA (ab s) (fr s now) now
  · obtain ⟨x, s', hx, hf, e1, hi, st, ha, vb, _⟩ := g2 hA
    exact ⟨s', h.stepS hi st (Nat.le_refl N), Nx.stepS st, fun hn => absurd hA hn, fun _ => ⟨x, hx, hf, e1, ha, vb⟩⟩
  · obtain ⟨e1, s', hi, st, ha, vq, _⟩ := g1 hA
    exact ⟨s', h.stepS hi st (Nat.le_refl N), Nx.stepS st, fun _ => ⟨e1, ha, vq⟩, fun hn => absurd hn hA⟩
/-- Pick, the reference's -/
theorem pickM {now : Int} (h : SJ W w p s q r N) (hv : InvA (ab r)) (hpick : ∀ vl vp, MIn w q r vl vp N → Calls Try.prog 31 #[.pointer (some ⟨q, 0, none⟩), .int .i64 now] w (FPick q N r now w)) :
    Calls Try.prog 31 #[.pointer (some ⟨q, 0, none⟩), .int .i64 now] w fun e w' => ∃ r', SJ W w' p s q r' N ∧ Nx w w' s s r r' ∧ PkR (ab r) (ab r') (fr r now) now r r' e := by
  obtain ⟨vl, vp, hm⟩ := h.mi
  refine (hpick vl vp hm).mono ?_
  rintro e w' ⟨g1, g2⟩
  have e0 : r.last = (ab r).last := rfl
  rw [pk_wx, pk_wx, e0] at g1 g2
  by_cases hA : AnyA (ab r) (fr r now) now
  · have hA' := (any_iff hv).2 hA
    obtain ⟨m, r', vl', vp', r1, r2, hm', st, r5, vb, hD⟩ := g2 hA'
    rw [pkl_wx, rsn_wx, rgA_wx] at r1 r5
    have eF : Fx (rsA (ab r) (fr r now) (LcA (ab r) (fr r now) now) now) (rgB (ab r) (LcA (ab r) (fr r now) now)) = FiA (ab r) (fr r now) now := rfl
    rw [eF] at r1 r5
    refine ⟨r', h.stepM hm' st ((congrArg Ab.c r5).trans (aBegin_c _ _ _ _)) (by rw [hD]; exact h.dsz) (Nat.le_refl N), Nx.stepM st, fun hn => absurd hA hn, fun _ => ⟨wx m, ⟨List.mem_map.2 ⟨m, r1.mem, rfl⟩, r1.rd, r1.sd, fun z hz h3 h4 => ?_⟩, fi_lt hA', r2, r5, vb⟩⟩
    obtain ⟨z', hz', rfl⟩ := List.mem_map.1 hz
    exact (Le2_nn z' m).1 (r1.le z' hz' h3 (h4.trans r1.sd))
  · obtain ⟨e1, r', vl', vp', hm', st, ha, vq, hD⟩ := g1 ⟨fun h => hA ((any_iff hv).1 (Or.inl h)), fun h => hA ((any_iff hv).1 (Or.inr h))⟩
    exact ⟨r', h.stepM hm' st (congrArg Ab.c ha) (by rw [hD]; exact h.dsz) (Nat.le_refl N), Nx.stepM st, fun _ => ⟨e1, ha, vq⟩, fun hn => absurd hn hA⟩
/-- End, where there is no such place: both -/
theorem endNS (h : SJ W w p s q r N) {i n now : Int} {good stays : Bool} (hi : i < 0 ∨ (s.G.length : Int) ≤ i) (ht : Tik s now) (hn : 0 ≤ now) (hn2 : now ≤ 1099511627776) (hN : N ≤ 1000000) :
    Calls Try.prog 32 #[.pointer (some ⟨p, 0, none⟩), .int .i64 i, .bool good, .bool stays, .int .i64 n] w fun e w' => e = .returned (.tuple #[z3, .bool false]) ∧ SJ W w' p s q r N ∧ Nx w w' s s r r := by
  refine (endA h.si ht hn hn2 hN).mono ?_
  rintro e w' ⟨g1, _⟩
  obtain ⟨e1, _, hk⟩ := g1 hi
  exact ⟨e1, h.calm hk, Nx.calm hk⟩
theorem endNM (h : SJ W w p s q r N) {i n : Int} {good stays : Bool} (hi : i < 0 ∨ (r.G.length : Int) ≤ i) :
    Calls Try.prog 33 #[.pointer (some ⟨q, 0, none⟩), .int .i64 i, .bool good, .bool stays, .int .i64 n] w fun e w' => e = .returned (.tuple #[z3, .bool false]) ∧ SJ W w' p s q r N ∧ Nx w w' s s r r := by
  obtain ⟨vl, vp, hm⟩ := h.mi
  refine (fend_no q N r vl vp i good stays n w hm hi).mono ?_
  rintro e w' ⟨e1, hk⟩
  exact ⟨e1, h.calm hk, Nx.calm hk⟩
/-- End, where there is one: it is x -/
theorem endYS (h : SJ W w p s q r N) {i : Nat} {n now : Int} {good stays : Bool} {x : Wx} (hx : x ∈ (ab s).W) (hi : (ab s).G[i]? = some (x.id, x.rc)) (ht : Tik s now) (hn : 0 ≤ now) (hn2 : now ≤ 1099511627776) (hN : N ≤ 1000000) :
    Calls Try.prog 32 #[.pointer (some ⟨p, 0, none⟩), .int .i64 i, .bool good, .bool stays, .int .i64 n] w fun e w' => e = .returned (.tuple #[.agg #[.int .i64 x.id, .int .i64 x.rc, .string x.dom], .bool true]) ∧ ∃ s', SJ W w' p s' q r N ∧ Nx w w' s s' r r ∧ ab s' = aEnd (ab s) i x stays (C n) ∧ Ve now x.dom good s s' := by
  refine (endA h.si ht hn hn2 hN).mono ?_
  rintro e w' ⟨_, g2⟩
  have hl := (List.getElem?_eq_some_iff.1 hi).1
  obtain ⟨y, s', hy, e1, e2, hi', st, ha, ve⟩ := g2 ⟨by omega, by omega⟩
  rw [Int.toNat_natCast] at e1 ha
  rw [hi] at e1
  have e3 := h.uk x hx y hy (Option.some.inj e1)
  subst e3
  exact ⟨e2, s', h.stepS hi' st (Nat.le_refl N), Nx.stepS st, ha, ve⟩
theorem endYM (h : SJ W w p s q r N) {i : Nat} {n now : Int} {good stays : Bool} {x : Wx} (hx : x ∈ (ab r).W) (hi : (ab r).G[i]? = some (x.id, x.rc)) (ht : Tik r now) (hn : 0 ≤ now) (hn2 : now ≤ 1099511627776) (hN : N ≤ 1000000) :
    Calls Try.prog 33 #[.pointer (some ⟨q, 0, none⟩), .int .i64 i, .bool good, .bool stays, .int .i64 n] w fun e w' => e = .returned (.tuple #[.agg #[.int .i64 x.id, .int .i64 x.rc, .string x.dom], .bool true]) ∧ ∃ r', SJ W w' p s q r' N ∧ Nx w w' s s r r' ∧ Aeq (ab r') (aEnd (ab r) i x stays (C n)) ∧ Ve now x.dom good r r' := by
  obtain ⟨vl, vp, hm⟩ := h.mi
  have hl := (List.getElem?_eq_some_iff.1 hi).1
  refine (fend_yes q N r vl vp i good stays n now w hm hl ht hn hn2 hN).mono ?_
  rintro e w' ⟨y, r', vl', vp', hy, e1, e2, hm', st, ha, ve, hD⟩
  rw [hi] at e1
  have e3 := h.ukM x hx y hy (Option.some.inj e1)
  subst e3
  exact ⟨e2, r', h.stepM hm' st (ha.1.trans (aEnd_c _ _ _ _ _)) (by rw [hD]; exact h.dsz) (Nat.le_refl N), Nx.stepM st, ha, ve⟩
/-- who is at a place on the way -/
theorem SJ.atG (h : SJ W w p s q r N) {now : Int} (ha : Alk now s r) {i : Nat} (hi : i < s.G.length) : ∃ x, x ∈ (ab s).W ∧ x ∈ (ab r).W ∧ (ab s).G[i]? = some (x.id, x.rc) ∧ (ab r).G[i]? = some (x.id, x.rc) := by
  obtain ⟨vl, vp, hm⟩ := h.mi
  have hg : (ab s).G = (ab r).G := ha.aq.G
  have hi' : i < (ab r).G.length := by rw [← hg]; exact hi
  obtain ⟨k, hk⟩ : ∃ k, (ab r).G[i]? = some k := ⟨_, List.getElem?_eq_getElem hi'⟩
  obtain ⟨z, hz, e, _⟩ := hm.gin k (List.mem_of_getElem? hk)
  have hw : wx z ∈ (ab r).W := List.mem_map.2 ⟨z, hz, rfl⟩
  refine ⟨wx z, ha.aq.W.mem_iff.2 hw, hw, ?_, ?_⟩
  · rw [hg, hk, ← e]; rfl
  · rw [hk, ← e]; rfl
end
end Go.Proofs.Ytbiahndpfbmoeaa
