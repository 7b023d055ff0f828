/- What the reference's scheduler holds in memory, and what stays of it while a part is written. No condition. -/
import Derived.Test.YtbiahndpfbmoeaaSd22
namespace Go.Proofs.Ytbiahndpfbmoeaa
open Go.RowKit SatAid

section
variable {α : Type} {f : α → List Value} {n : Nat}
theorem flat_len (hf : ∀ x, (f x).length = n) (l : List α) : (l.flatMap f).length = l.length * n := by
  induction l with
  | nil => simp
  | cons x r ih => rw [List.flatMap_cons, List.length_append, ih, hf, List.length_cons, Nat.add_mul, Nat.one_mul, Nat.add_comm]
theorem flat_get (hf : ∀ x, (f x).length = n) {l : List α} {i j : Nat} {x : α} (h : l[i]? = some x) (hj : j < n) : (l.flatMap f)[i * n + j]? = (f x)[j]? := by
  induction l generalizing i with
  | nil => simp at h
  | cons y r ih =>
    rw [List.flatMap_cons]
    cases i with
    | zero =>
      simp at h; subst h
      rw [Nat.zero_mul, Nat.zero_add, List.getElem?_append_left (by rw [hf]; exact hj)]
    | succ i =>
      have h' : r[i]? = some x := by simpa using h
      rw [List.getElem?_append_right (by rw [hf, Nat.add_mul]; omega), hf, show (i + 1) * n + j - n = i * n + j by rw [Nat.add_mul]; omega]
      exact ih h'
theorem flat_take (hf : ∀ x, (f x).length = n) (l : List α) (k : Nat) : (l.take k).flatMap f = (l.flatMap f).take (k * n) := by
  induction l generalizing k with
  | nil => simp
  | cons x r ih =>
    cases k with
    | zero => simp
    | succ k =>
      rw [List.take_succ_cons, List.flatMap_cons, List.flatMap_cons, ih, Nat.add_mul, Nat.one_mul, List.take_append, hf, List.take_of_length_le (l := f x) (by rw [hf]; omega), show k * n + n - n = k * n by omega]
theorem flat_drop (hf : ∀ x, (f x).length = n) (l : List α) (k : Nat) : (l.drop k).flatMap f = (l.flatMap f).drop (k * n) := by
  induction l generalizing k with
  | nil => simp
  | cons x r ih =>
    cases k with
    | zero => simp
    | succ k =>
      rw [List.drop_succ_cons, List.flatMap_cons, ih, Nat.add_mul, Nat.one_mul, List.drop_append, hf, List.drop_eq_nil_of_le («as» := f x) (by rw [hf]; omega), List.nil_append, show k * n + n - n = k * n by omega]
end
/-- recipients, as the reference has them in memory -/
def Wf (x : Wt) : List Value := [.int .i64 x.id, .int .i64 x.rc, .int .i64 x.nx, .string x.snd, .string x.dom, .bool x.loc, .bool x.go]
def Wl (W : List Wt) : List Value := W.flatMap Wf
def Pf (y : Pe) : List Value := [.string y.dom, .pointer (some ⟨y.wb, 0, none⟩), .pointer (some ⟨y.tb, 0, none⟩)]
def Pl (P : List Pe) : List Value := P.flatMap Pf
theorem Wl_app (S T : List Wt) : Wl (S ++ T) = Wl S ++ Wl T := by unfold Wl; rw [List.flatMap_append]
theorem Pl_app (S T : List Pe) : Pl (S ++ T) = Pl S ++ Pl T := by unfold Pl; rw [List.flatMap_append]
theorem Wl_len (W : List Wt) : (Wl W).length = W.length * 7 := flat_len (f := Wf) (n := 7) (fun _ => rfl) W
theorem Pl_len (P : List Pe) : (Pl P).length = P.length * 3 := flat_len (f := Pf) (n := 3) (fun _ => rfl) P
theorem Wl_get {W : List Wt} {i j : Nat} {x : Wt} (h : W[i]? = some x) (hj : j < 7) : (Wl W)[i * 7 + j]? = (Wf x)[j]? := flat_get (f := Wf) (n := 7) (fun _ => rfl) h hj
theorem Pl_get {P : List Pe} {i j : Nat} {y : Pe} (h : P[i]? = some y) (hj : j < 3) : (Pl P)[i * 3 + j]? = (Pf y)[j]? := flat_get (f := Pf) (n := 3) (fun _ => rfl) h hj
theorem Wl_one (W : List Wt) : ∀ u ∈ Wl W, u.oneCell' = true := by
  intro u hu
  obtain ⟨x, _, hx⟩ := List.mem_flatMap.1 hu
  simp [Wf] at hx
  rcases hx with rfl | rfl | rfl | rfl | rfl | rfl | rfl <;> rfl
theorem Stc_one (T : List (Int × Int × ByteArray)) : ∀ u ∈ Stc T, u.oneCell' = true := by
  intro u hu
  obtain ⟨x, _, hx⟩ := List.mem_flatMap.1 hu
  simp at hx
  rcases hx with rfl | rfl | rfl <;> rfl
def sI (b : Bool) : Int := if b then 1 else 0
def Hm (s : Sd) (vl vp : Value) : Array Value := #[.string s.c.host, s.c.lv, .int .i64 s.c.act, .int .i64 s.c.win, .int .i64 s.c.rate, .int .i64 s.c.burst, .int .i64 s.c.base, .int .i64 s.c.cap, .int .i64 s.c.life, .int .i64 s.c.crash, .int .i64 s.c.quota, .int .i64 s.c.size, vl, s.vg, vp, s.v0, s.v1, .int .i64 (sI s.last), .int .i64 0]
structure MCols (s : Sd) (vl vp : Value) (q : Nat) : Prop where
  head : s.col q = some cHead
  lst : ∀ k, vl.ownBlock = some k → s.col k = some cBy
  gng : ∀ k, s.vg.ownBlock = some k → s.col k = some cGoing
  prr : ∀ k, vp.ownBlock = some k → s.col k = some cPeers
  nm0 : ∀ k, s.v0.ownBlock = some k → s.col k = some (cNames false)
  nm1 : ∀ k, s.v1.ownBlock = some k → s.col k = some (cNames true)
  prs : ∀ y ∈ s.Ps, s.col y.wb = some (cWin y.dom) ∧ s.col y.tb = some (cBuck y.dom)
structure MIn (w : World) (q : Nat) (s : Sd) (vl vp : Value) (N : Nat) : Prop where
  cols : MCols s vl vp q
  lt : ∀ k, (s.col k).isSome → k < w.heap.size
  head : w.heap[q]? = some (.cells (Hm s vl vp) 56 (0, 0))
  loc : ∃ ao cap, s.c.lv = .slice ao s.c.L.length cap ∧ SRd w ao s.c.L ∧ (s.c.L ≠ [] → ∀ b off, ao = some ⟨b, off, none⟩ → s.col b = none)
  lst : Own w 62 7 vl s.Ws.length (Wl s.Ws)
  gng : Own w 66 3 s.vg s.G.length (Stc (aStarts (ab s)))
  prr : Own w 120 3 vp s.Ps.length (Pl s.Ps)
  rg0 : Own w 9 1 s.v0 s.A0.length (Sc s.A0)
  rg1 : Own w 9 1 s.v1 s.A1.length (Sc s.A1)
  prw : ∀ y ∈ s.Ps, w.heap[y.wb]? = some (.cells (Wd (V8 s.c.win) y.now y.busy) 128 (0, 0))
  prt : ∀ y ∈ s.Ps, w.heap[y.tb]? = some (.cells (Bk (V s.c.rate) (V s.c.burst) y.l y.t) 122 (0, 0))
  wfs : ∀ x ∈ s.Ws, x.dom ∈ s.D
  pok : ∀ y ∈ s.Ps, WOk (V8 s.c.win) y.now y.busy ∧ 0 ≤ y.l ∧ y.l ≤ V s.c.burst ∧ 0 ≤ y.t ∧ y.t ≤ 1099511627776 ∧ y.dom ∈ s.D
  doms : s.Ps.Pairwise (fun a b => a.dom ≠ b.dom)
  keys : s.Ws.Pairwise (fun a b => (a.id, a.rc) ≠ (b.id, b.rc))
  gin : ∀ k ∈ s.G, ∃ x ∈ s.Ws, (x.id, x.rc) = k ∧ x.go = true
  gnd : s.G.Nodup
  n0 : s.A0.Nodup
  n1 : s.A1.Nodup
  ll : s.c.L.length ≤ N
  lw : s.Ws.length ≤ N
  ld : s.D.length ≤ N
  l0 : s.A0.length ≤ N
  l1 : s.A1.length ≤ N
structure MKept (w' : World) (q : Nat) (s : Sd) (vl vp : Value) (P : Nat × (Int × Int) × ByteArray → Prop) : Prop where
  head : ¬ P cHead → w'.heap[q]? = some (.cells (Hm s vl vp) 56 (0, 0))
  lst : ¬ P cBy → Own w' 62 7 vl s.Ws.length (Wl s.Ws)
  gng : ¬ P cGoing → Own w' 66 3 s.vg s.G.length (Stc (aStarts (ab s)))
  prr : ¬ P cPeers → Own w' 120 3 vp s.Ps.length (Pl s.Ps)
  rg0 : ¬ P (cNames false) → Own w' 9 1 s.v0 s.A0.length (Sc s.A0)
  rg1 : ¬ P (cNames true) → Own w' 9 1 s.v1 s.A1.length (Sc s.A1)
  prw : ∀ y ∈ s.Ps, ¬ P (cWin y.dom) → w'.heap[y.wb]? = some (.cells (Wd (V8 s.c.win) y.now y.busy) 128 (0, 0))
  prt : ∀ y ∈ s.Ps, ¬ P (cBuck y.dom) → w'.heap[y.tb]? = some (.cells (Bk (V s.c.rate) (V s.c.burst) y.l y.t) 122 (0, 0))
  lt : ∀ k, (s.col k).isSome → k < w'.heap.size
section
variable {w w' : World} {q N : Nat} {s : Sd} {vl vp : Value} {S : Nat → Prop}
theorem MIn.kept (h : MIn w q s vl vp N) (hk : Kp S w w') (P : Nat × (Int × Int) × ByteArray → Prop) (hS : ∀ k c, s.col k = some c → S k → P c) : MKept w' q s vl vp P where
  head := fun n => hk.keep h.head (fun e => n (hS _ _ h.cols.head e))
  lst := fun n => h.lst.keep hk (fun k e e2 => n (hS _ _ (h.cols.lst k e) e2))
  gng := fun n => h.gng.keep hk (fun k e e2 => n (hS _ _ (h.cols.gng k e) e2))
  prr := fun n => h.prr.keep hk (fun k e e2 => n (hS _ _ (h.cols.prr k e) e2))
  rg0 := fun n => h.rg0.keep hk (fun k e e2 => n (hS _ _ (h.cols.nm0 k e) e2))
  rg1 := fun n => h.rg1.keep hk (fun k e e2 => n (hS _ _ (h.cols.nm1 k e) e2))
  prw := fun y hy n => hk.keep (h.prw y hy) (fun e => n (hS _ _ (h.cols.prs y hy).1 e))
  prt := fun y hy n => hk.keep (h.prt y hy) (fun e => n (hS _ _ (h.cols.prs y hy).2 e))
  lt := fun k e => Nat.lt_of_lt_of_le (h.lt k e) hk.size
theorem MCols.keep {col' : Nat → Option (Nat × (Int × Int) × ByteArray)} (h : MCols s vl vp q) (he : ∀ k, (s.col k).isSome → col' k = s.col k) : MCols { s with col := col' } vl vp q where
  head := (he _ (by rw [h.head]; rfl)).trans h.head
  lst := fun k e => (he _ (by rw [h.lst k e]; rfl)).trans (h.lst k e)
  gng := fun k e => (he _ (by rw [h.gng k e]; rfl)).trans (h.gng k e)
  prr := fun k e => (he _ (by rw [h.prr k e]; rfl)).trans (h.prr k e)
  nm0 := fun k e => (he _ (by rw [h.nm0 k e]; rfl)).trans (h.nm0 k e)
  nm1 := fun k e => (he _ (by rw [h.nm1 k e]; rfl)).trans (h.nm1 k e)
  prs := fun y e => ⟨(he _ (by rw [(h.prs y e).1]; rfl)).trans (h.prs y e).1, (he _ (by rw [(h.prs y e).2]; rfl)).trans (h.prs y e).2⟩
theorem locs {col' : Nat → Option (Nat × (Int × Int) × ByteArray)} {c : Cf} (h : ∃ ao cap, c.lv = .slice ao c.L.length cap ∧ SRd w ao c.L ∧ (c.L ≠ [] → ∀ b off, ao = some ⟨b, off, none⟩ → s.col b = none)) (hk : Kp S w w') (hs : ∀ k, k < w.heap.size → S k → (s.col k).isSome)
    (hn : ∀ k, (col' k).isSome → (s.col k).isSome ∨ w.heap.size ≤ k) : ∃ ao cap, c.lv = .slice ao c.L.length cap ∧ SRd w' ao c.L ∧ (c.L ≠ [] → ∀ b off, ao = some ⟨b, off, none⟩ → col' b = none) := by
  obtain ⟨ao, cap, e1, e2, e3⟩ := h
  have hb : c.L ≠ [] → ∀ b off, ao = some ⟨b, off, none⟩ → b < w.heap.size := fun hne b off e => by
    obtain ⟨b', off', e', hb', _⟩ := e2 0 (List.length_pos_iff.2 hne)
    rw [e] at e'; cases e'; exact hb'
  refine ⟨ao, cap, e1, e2.keep hk (fun hne b off e hS => by have := hs b (hb hne b off e) hS; rw [e3 hne b off e] at this; cases this), fun hne b off e => ?_⟩
  cases hc : col' b with
  | none => rfl
  | some c =>
    rcases hn b (by rw [hc]; rfl) with h1 | h1
    · rw [e3 hne b off e] at h1; cases h1
    · have := hb hne b off e; omega
theorem MIn.keep (h : MIn w q s vl vp N) (hk : Kp S w w') (hs : ∀ k, (s.col k).isSome → ¬ S k) (hl : ∀ ao cap, s.c.lv = .slice ao s.c.L.length cap → s.c.L ≠ [] → ∀ b off, ao = some ⟨b, off, none⟩ → ¬ S b) : MIn w' q s vl vp N := by
  have K := h.kept hk (fun _ => False) (fun k c hc e => hs k (by rw [hc]; rfl) e)
  have n : ¬ False := fun h => h
  obtain ⟨ao, cap, e1, e2, e3⟩ := h.loc
  exact ⟨h.cols, K.lt, K.head n, ⟨ao, cap, e1, e2.keep hk (fun hne b off e => hl ao cap e1 hne b off e), e3⟩, K.lst n, K.gng n, K.prr n, K.rg0 n, K.rg1 n, fun y hy => K.prw y hy n, fun y hy => K.prt y hy n, h.wfs, h.pok, h.doms, h.keys, h.gin, h.gnd, h.n0, h.n1, h.ll, h.lw, h.ld, h.l0, h.l1⟩
theorem MIn.calm (h : MIn w q s vl vp N) (hk : Kp (fun _ => False) w w') : MIn w' q s vl vp N := h.keep hk (fun _ _ e => e) (fun _ _ _ _ _ _ _ e => e)
theorem MIn.more (h : MIn w q s vl vp N) {M : Nat} (hM : N ≤ M) : MIn w q s vl vp M := { h with ll := Nat.le_trans h.ll hM, lw := Nat.le_trans h.lw hM, ld := Nat.le_trans h.ld hM, l0 := Nat.le_trans h.l0 hM, l1 := Nat.le_trans h.l1 hM }
theorem MIn.key_eq (h : MIn w q s vl vp N) {x z : Wt} (hx : x ∈ s.Ws) (hz : z ∈ s.Ws) (e : (x.id, x.rc) = (z.id, z.rc)) : x = z := pw_eq h.keys hx hz e
theorem MIn.dom_eq (h : MIn w q s vl vp N) {y z : Pe} (hy : y ∈ s.Ps) (hz : z ∈ s.Ps) (e : y.dom = z.dom) : y = z := pw_eq h.doms hy hz e
theorem MIn.pslen (h : MIn w q s vl vp N) : s.Ps.length ≤ N := by
  have := nodup_len (l := s.Ps.map Pe.dom) (m := s.D) (by rw [List.pairwise_map]; exact h.doms) (fun a ha => by
    obtain ⟨y, hy, rfl⟩ := List.mem_map.1 ha
    exact (h.pok y hy).2.2.2.2.2)
  have h2 := h.ld
  simp at this; omega
theorem MIn.glen (h : MIn w q s vl vp N) : s.G.length ≤ N := by
  have := nodup_len (l := s.G) (m := s.Ws.map fun x => (x.id, x.rc)) (List.nodup_iff_pairwise_ne.1 h.gnd) (fun k hk => by
    obtain ⟨x, hx, e, _⟩ := h.gin k hk
    exact List.mem_map.2 ⟨x, hx, e⟩)
  have h2 := h.lw
  simp at this; omega
end

/-- a new colour, where a row lies -/
theorem colN_old {s : Sd} {v v' : Value} {c : Nat × (Int × Int) × ByteArray} {w : World} (hv : ∀ k, v.ownBlock = some k → s.col k = some c) (hlt : ∀ k, (s.col k).isSome → k < w.heap.size) (hsn : SameOrNew w v v') : ∀ k, (s.col k).isSome → colN s v' c k = s.col k := fun k e => by
  unfold colN
  split
  · rename_i h1
    rcases hsn with h2 | h2
    · rw [h2] at h1; exact (hv k h1).symm
    · have := h2 k h1; have := hlt k e; omega
  · rfl
theorem colN_new {s : Sd} {v v' : Value} {c : Nat × (Int × Int) × ByteArray} {w : World} (hv : ∀ k, v.ownBlock = some k → s.col k = some c) (hsn : SameOrNew w v v') : ∀ k, (colN s v' c k).isSome → (s.col k).isSome ∨ w.heap.size ≤ k := fun k e => by
  unfold colN at e
  split at e
  · rename_i h1
    rcases hsn with h2 | h2
    · rw [h2] at h1; exact Or.inl (by rw [hv k h1]; rfl)
    · exact Or.inr (h2 k h1)
  · exact Or.inl e
theorem colN_lt {s : Sd} {v' : Value} {c : Nat × (Int × Int) × ByteArray} {w' : World} (hlt : ∀ k, (s.col k).isSome → k < w'.heap.size) (ho : ∀ k, v'.ownBlock = some k → k < w'.heap.size) : ∀ k, (colN s v' c k).isSome → k < w'.heap.size := fun k e => by
  unfold colN at e
  split at e
  · rename_i h1; exact ho k h1
  · exact hlt k e
theorem colN_at {s : Sd} {v' : Value} {c : Nat × (Int × Int) × ByteArray} : ∀ k, v'.ownBlock = some k → colN s v' c k = some c := fun k e => by unfold colN; rw [if_pos e]

section
variable {w w' : World} {q N M : Nat} {s : Sd} {vl vp : Value} {S : Nat → Prop}
def fL (s : Sd) (vl' : Value) (Ws' : List Wt) (D' : List ByteArray) : Sd := { s with Ws := Ws', D := D', col := colN s vl' cBy }
theorem MIn.setL (h : MIn w q s vl vp N) {vl' : Value} {Ws' : List Wt} {D' : List ByteArray} (hM : N ≤ M) (hk : Kp (fun k => k = q ∨ In vl k) w w') (hh : w'.heap[q]? = some (.cells (Hm s vl' vp) 56 (0, 0)))
    (ho : Own w' 62 7 vl' Ws'.length (Wl Ws')) (hsn : SameOrNew w vl vl') (hD : ∀ d ∈ s.D, d ∈ D') (hw : ∀ x ∈ Ws', x.dom ∈ D') (hkey : Ws'.Pairwise (fun a b => (a.id, a.rc) ≠ (b.id, b.rc)))
    (hg : ∀ k ∈ s.G, ∃ x ∈ Ws', (x.id, x.rc) = k ∧ x.go = true) (hst : aStarts (ab (fL s vl' Ws' D')) = aStarts (ab s)) (hl : Ws'.length ≤ M) (hl2 : D'.length ≤ M) :
    MIn w' q (fL s vl' Ws' D') vl' vp M ∧ St w w' s (fL s vl' Ws' D') := by
  have hc := colN_old h.cols.lst h.lt hsn
  have hn := colN_new (c := cBy) h.cols.lst hsn
  have hS : ∀ k, k < w.heap.size → (k = q ∨ In vl k) → (s.col k).isSome := fun k _ e => by
    rcases e with rfl | e
    · rw [h.cols.head]; rfl
    · rw [h.cols.lst k e]; rfl
  have K := h.kept hk (fun c => c = cHead ∨ c = cBy) (fun k c hc e => by
    rcases e with rfl | e
    · rw [h.cols.head] at hc; exact Or.inl (Option.some.inj hc).symm
    · rw [h.cols.lst k e] at hc; exact Or.inr (Option.some.inj hc).symm)
  have hC := h.cols.keep hc
  refine ⟨⟨⟨hC.head, colN_at, hC.gng, hC.prr, hC.nm0, hC.nm1, hC.prs⟩, colN_lt K.lt (fun k e => ho.lt e), hh, locs h.loc hk hS hn, ho, ?_, K.prr (by intro h; first | exact Nat.ne_of_beq_eq_false rfl (congrArg Prod.fst h) | (rcases h with h | h <;> exact Nat.ne_of_beq_eq_false rfl (congrArg Prod.fst h))), K.rg0 (by intro h; first | exact Nat.ne_of_beq_eq_false rfl (congrArg Prod.fst h) | (rcases h with h | h <;> exact Nat.ne_of_beq_eq_false rfl (congrArg Prod.fst h))), K.rg1 (by intro h; first | exact Nat.ne_of_beq_eq_false rfl (congrArg Prod.fst h) | (rcases h with h | h <;> exact Nat.ne_of_beq_eq_false rfl (congrArg Prod.fst h))), fun y hy => K.prw y hy (by intro h; first | exact Nat.ne_of_beq_eq_false rfl (congrArg Prod.fst h) | (rcases h with h | h <;> exact Nat.ne_of_beq_eq_false rfl (congrArg Prod.fst h))), fun y hy => K.prt y hy (by intro h; first | exact Nat.ne_of_beq_eq_false rfl (congrArg Prod.fst h) | (rcases h with h | h <;> exact Nat.ne_of_beq_eq_false rfl (congrArg Prod.fst h))), hw, fun y hy => ?_, h.doms, hkey, hg, h.gnd, h.n0, h.n1, Nat.le_trans h.ll hM, hl, hl2, Nat.le_trans h.l0 hM, Nat.le_trans h.l1 hM⟩, ⟨hc, hn, hk.mono hS⟩⟩
  · rw [hst]; exact K.gng (by intro h; first | exact Nat.ne_of_beq_eq_false rfl (congrArg Prod.fst h) | (rcases h with h | h <;> exact Nat.ne_of_beq_eq_false rfl (congrArg Prod.fst h)))
  · obtain ⟨a, b, c, d, e, g⟩ := h.pok y hy
    exact ⟨a, b, c, d, e, hD _ g⟩
def fG (s : Sd) (vg' : Value) (G' : List (Int × Int)) : Sd := { s with vg := vg', G := G', col := colN s vg' cGoing }
theorem MIn.setG (h : MIn w q s vl vp N) {vg' : Value} {G' : List (Int × Int)} (hk : Kp (fun k => k = q ∨ In s.vg k) w w') (hh : w'.heap[q]? = some (.cells (Hm (fG s vg' G') vl vp) 56 (0, 0)))
    (ho : Own w' 66 3 vg' G'.length (Stc (aStarts (ab (fG s vg' G'))))) (hsn : SameOrNew w s.vg vg') (hg : ∀ k ∈ G', ∃ x ∈ s.Ws, (x.id, x.rc) = k ∧ x.go = true) (hnd : G'.Nodup) :
    MIn w' q (fG s vg' G') vl vp N ∧ St w w' s (fG s vg' G') := by
  have hc := colN_old h.cols.gng h.lt hsn
  have hn := colN_new (c := cGoing) h.cols.gng hsn
  have hS : ∀ k, k < w.heap.size → (k = q ∨ In s.vg k) → (s.col k).isSome := fun k _ e => by
    rcases e with rfl | e
    · rw [h.cols.head]; rfl
    · rw [h.cols.gng k e]; rfl
  have K := h.kept hk (fun c => c = cHead ∨ c = cGoing) (fun k c hc e => by
    rcases e with rfl | e
    · rw [h.cols.head] at hc; exact Or.inl (Option.some.inj hc).symm
    · rw [h.cols.gng k e] at hc; exact Or.inr (Option.some.inj hc).symm)
  have hC := h.cols.keep hc
  exact ⟨⟨⟨hC.head, hC.lst, colN_at, hC.prr, hC.nm0, hC.nm1, hC.prs⟩, colN_lt K.lt (fun k e => ho.lt e), hh, locs h.loc hk hS hn, K.lst (by intro h; first | exact Nat.ne_of_beq_eq_false rfl (congrArg Prod.fst h) | (rcases h with h | h <;> exact Nat.ne_of_beq_eq_false rfl (congrArg Prod.fst h))), ho, K.prr (by intro h; first | exact Nat.ne_of_beq_eq_false rfl (congrArg Prod.fst h) | (rcases h with h | h <;> exact Nat.ne_of_beq_eq_false rfl (congrArg Prod.fst h))), K.rg0 (by intro h; first | exact Nat.ne_of_beq_eq_false rfl (congrArg Prod.fst h) | (rcases h with h | h <;> exact Nat.ne_of_beq_eq_false rfl (congrArg Prod.fst h))), K.rg1 (by intro h; first | exact Nat.ne_of_beq_eq_false rfl (congrArg Prod.fst h) | (rcases h with h | h <;> exact Nat.ne_of_beq_eq_false rfl (congrArg Prod.fst h))), fun y hy => K.prw y hy (by intro h; first | exact Nat.ne_of_beq_eq_false rfl (congrArg Prod.fst h) | (rcases h with h | h <;> exact Nat.ne_of_beq_eq_false rfl (congrArg Prod.fst h))), fun y hy => K.prt y hy (by intro h; first | exact Nat.ne_of_beq_eq_false rfl (congrArg Prod.fst h) | (rcases h with h | h <;> exact Nat.ne_of_beq_eq_false rfl (congrArg Prod.fst h))), h.wfs, h.pok, h.doms, h.keys, hg, hnd, h.n0, h.n1, h.ll, h.lw, h.ld, h.l0, h.l1⟩, ⟨hc, hn, hk.mono hS⟩⟩
def fR (s : Sd) (b : Bool) (v' : Value) (A' : List ByteArray) : Sd := if b then { s with v1 := v', A1 := A', col := colN s v' (cNames true) } else { s with v0 := v', A0 := A', col := colN s v' (cNames false) }
theorem MIn.setR (h : MIn w q s vl vp N) (b : Bool) {v' : Value} {A' : List ByteArray} (hk : Kp (fun k => k = q) w w') (hh : w'.heap[q]? = some (.cells (Hm (fR s b v' A') vl vp) 56 (0, 0)))
    (ho : Own w' 9 1 v' A'.length (Sc A')) (hsn : ∀ k, v'.ownBlock = some k → w.heap.size ≤ k) (hnd : A'.Nodup) (hl : A'.length ≤ N) :
    MIn w' q (fR s b v' A') vl vp N ∧ St w w' s (fR s b v' A') := by
  have hS : ∀ k, k < w.heap.size → k = q → (s.col k).isSome := fun k _ e => by subst e; rw [h.cols.head]; rfl
  have K := h.kept hk (fun c => c = cHead) (fun k c hc e => by subst e; rw [h.cols.head] at hc; exact (Option.some.inj hc).symm)
  cases b with
  | false =>
    have hc := colN_old (c := cNames false) h.cols.nm0 h.lt (Or.inr hsn)
    have hn := colN_new (c := cNames false) (v' := v') h.cols.nm0 (Or.inr hsn)
    have hC := h.cols.keep hc
    exact ⟨⟨⟨hC.head, hC.lst, hC.gng, hC.prr, colN_at, hC.nm1, hC.prs⟩, colN_lt K.lt (fun k e => ho.lt e), hh, locs h.loc hk hS hn, K.lst (by intro h; first | exact Nat.ne_of_beq_eq_false rfl (congrArg Prod.fst h) | (rcases h with h | h <;> exact Nat.ne_of_beq_eq_false rfl (congrArg Prod.fst h))), K.gng (by intro h; first | exact Nat.ne_of_beq_eq_false rfl (congrArg Prod.fst h) | (rcases h with h | h <;> exact Nat.ne_of_beq_eq_false rfl (congrArg Prod.fst h))), K.prr (by intro h; first | exact Nat.ne_of_beq_eq_false rfl (congrArg Prod.fst h) | (rcases h with h | h <;> exact Nat.ne_of_beq_eq_false rfl (congrArg Prod.fst h))), ho, K.rg1 (by intro h; first | exact Nat.ne_of_beq_eq_false rfl (congrArg Prod.fst h) | (rcases h with h | h <;> exact Nat.ne_of_beq_eq_false rfl (congrArg Prod.fst h))), fun y hy => K.prw y hy (by intro h; first | exact Nat.ne_of_beq_eq_false rfl (congrArg Prod.fst h) | (rcases h with h | h <;> exact Nat.ne_of_beq_eq_false rfl (congrArg Prod.fst h))), fun y hy => K.prt y hy (by intro h; first | exact Nat.ne_of_beq_eq_false rfl (congrArg Prod.fst h) | (rcases h with h | h <;> exact Nat.ne_of_beq_eq_false rfl (congrArg Prod.fst h))), h.wfs, h.pok, h.doms, h.keys, h.gin, h.gnd, hnd, h.n1, h.ll, h.lw, h.ld, hl, h.l1⟩, ⟨hc, hn, hk.mono hS⟩⟩
  | true =>
    have hc := colN_old (c := cNames true) h.cols.nm1 h.lt (Or.inr hsn)
    have hn := colN_new (c := cNames true) (v' := v') h.cols.nm1 (Or.inr hsn)
    have hC := h.cols.keep hc
    exact ⟨⟨⟨hC.head, hC.lst, hC.gng, hC.prr, hC.nm0, colN_at, hC.prs⟩, colN_lt K.lt (fun k e => ho.lt e), hh, locs h.loc hk hS hn, K.lst (by intro h; first | exact Nat.ne_of_beq_eq_false rfl (congrArg Prod.fst h) | (rcases h with h | h <;> exact Nat.ne_of_beq_eq_false rfl (congrArg Prod.fst h))), K.gng (by intro h; first | exact Nat.ne_of_beq_eq_false rfl (congrArg Prod.fst h) | (rcases h with h | h <;> exact Nat.ne_of_beq_eq_false rfl (congrArg Prod.fst h))), K.prr (by intro h; first | exact Nat.ne_of_beq_eq_false rfl (congrArg Prod.fst h) | (rcases h with h | h <;> exact Nat.ne_of_beq_eq_false rfl (congrArg Prod.fst h))), K.rg0 (by intro h; first | exact Nat.ne_of_beq_eq_false rfl (congrArg Prod.fst h) | (rcases h with h | h <;> exact Nat.ne_of_beq_eq_false rfl (congrArg Prod.fst h))), ho, fun y hy => K.prw y hy (by intro h; first | exact Nat.ne_of_beq_eq_false rfl (congrArg Prod.fst h) | (rcases h with h | h <;> exact Nat.ne_of_beq_eq_false rfl (congrArg Prod.fst h))), fun y hy => K.prt y hy (by intro h; first | exact Nat.ne_of_beq_eq_false rfl (congrArg Prod.fst h) | (rcases h with h | h <;> exact Nat.ne_of_beq_eq_false rfl (congrArg Prod.fst h))), h.wfs, h.pok, h.doms, h.keys, h.gin, h.gnd, h.n0, hnd, h.ll, h.lw, h.ld, h.l0, hl⟩, ⟨hc, hn, hk.mono hS⟩⟩
theorem MIn.setLast (h : MIn w q s vl vp N) {l : Bool} (hk : Kp (fun k => k = q) w w') (hh : w'.heap[q]? = some (.cells (Hm { s with last := l } vl vp) 56 (0, 0))) :
    MIn w' q { s with last := l } vl vp N ∧ St w w' s { s with last := l } := by
  have hS : ∀ k, k < w.heap.size → k = q → (s.col k).isSome := fun k _ e => by subst e; rw [h.cols.head]; rfl
  have K := h.kept hk (fun c => c = cHead) (fun k c hc e => by subst e; rw [h.cols.head] at hc; exact (Option.some.inj hc).symm)
  exact ⟨⟨⟨h.cols.head, h.cols.lst, h.cols.gng, h.cols.prr, h.cols.nm0, h.cols.nm1, h.cols.prs⟩, K.lt, hh, locs h.loc hk hS (fun k e => Or.inl e), K.lst (by intro h; first | exact Nat.ne_of_beq_eq_false rfl (congrArg Prod.fst h) | (rcases h with h | h <;> exact Nat.ne_of_beq_eq_false rfl (congrArg Prod.fst h))), K.gng (by intro h; first | exact Nat.ne_of_beq_eq_false rfl (congrArg Prod.fst h) | (rcases h with h | h <;> exact Nat.ne_of_beq_eq_false rfl (congrArg Prod.fst h))), K.prr (by intro h; first | exact Nat.ne_of_beq_eq_false rfl (congrArg Prod.fst h) | (rcases h with h | h <;> exact Nat.ne_of_beq_eq_false rfl (congrArg Prod.fst h))), K.rg0 (by intro h; first | exact Nat.ne_of_beq_eq_false rfl (congrArg Prod.fst h) | (rcases h with h | h <;> exact Nat.ne_of_beq_eq_false rfl (congrArg Prod.fst h))), K.rg1 (by intro h; first | exact Nat.ne_of_beq_eq_false rfl (congrArg Prod.fst h) | (rcases h with h | h <;> exact Nat.ne_of_beq_eq_false rfl (congrArg Prod.fst h))), fun y hy => K.prw y hy (by intro h; first | exact Nat.ne_of_beq_eq_false rfl (congrArg Prod.fst h) | (rcases h with h | h <;> exact Nat.ne_of_beq_eq_false rfl (congrArg Prod.fst h))), fun y hy => K.prt y hy (by intro h; first | exact Nat.ne_of_beq_eq_false rfl (congrArg Prod.fst h) | (rcases h with h | h <;> exact Nat.ne_of_beq_eq_false rfl (congrArg Prod.fst h))), h.wfs, h.pok, h.doms, h.keys, h.gin, h.gnd, h.n0, h.n1, h.ll, h.lw, h.ld, h.l0, h.l1⟩, St.of hk hS rfl⟩
theorem MIn.setPeer (h : MIn w q s vl vp N) {y y' : Pe} (hy : y ∈ s.Ps) (e2 : y'.wb = y.wb) (e3 : y'.tb = y.tb) (e4 : y'.dom = y.dom) (hk : Kp (fun k => k = y.wb ∨ k = y.tb) w w')
    (b2 : w'.heap[y.wb]? = some (.cells (Wd (V8 s.c.win) y'.now y'.busy) 128 (0, 0))) (b3 : w'.heap[y.tb]? = some (.cells (Bk (V s.c.rate) (V s.c.burst) y'.l y'.t) 122 (0, 0)))
    (hok : WOk (V8 s.c.win) y'.now y'.busy ∧ 0 ≤ y'.l ∧ y'.l ≤ V s.c.burst ∧ 0 ≤ y'.t ∧ y'.t ≤ 1099511627776) : MIn w' q { s with Ps := Psub s.Ps y' } vl vp N ∧ St w w' s { s with Ps := Psub s.Ps y' } := by
  obtain ⟨cy2, cy3⟩ := h.cols.prs y hy
  have hS : ∀ k, k < w.heap.size → (k = y.wb ∨ k = y.tb) → (s.col k).isSome := fun k _ e => by
    rcases e with rfl | rfl
    · rw [cy2]; rfl
    · rw [cy3]; rfl
  have K := h.kept hk (fun c => c = cWin y.dom ∨ c = cBuck y.dom) (fun k c hc e => by
    rcases e with rfl | rfl
    · rw [cy2] at hc; exact Or.inl (Option.some.inj hc).symm
    · rw [cy3] at hc; exact Or.inr (Option.some.inj hc).symm)
  have hPm : Pl (Psub s.Ps y') = Pl s.Ps := by
    unfold Pl Psub
    rw [List.flatMap_map]
    rw [List.flatMap_def, List.flatMap_def]
    congr 1
    refine List.map_congr_left fun z hz => ?_
    split
    · rename_i hd
      obtain rfl := h.dom_eq hz hy (hd.trans e4)
      unfold Pf
      rw [e2, e3, e4]
    · rfl
  have hPd : (Psub s.Ps y').map Pe.dom = s.Ps.map Pe.dom := by
    unfold Psub
    rw [List.map_map]
    refine List.map_congr_left fun z hz => ?_
    simp only [Function.comp]
    split
    · rename_i hd; exact hd.symm
    · rfl
  refine ⟨⟨⟨h.cols.head, h.cols.lst, h.cols.gng, h.cols.prr, h.cols.nm0, h.cols.nm1, fun z hz => ?_⟩, K.lt, K.head (by intro h; first | exact Nat.ne_of_beq_eq_false rfl (congrArg Prod.fst h) | (rcases h with h | h <;> exact Nat.ne_of_beq_eq_false rfl (congrArg Prod.fst h))), locs h.loc hk hS (fun k e => Or.inl e), K.lst (by intro h; first | exact Nat.ne_of_beq_eq_false rfl (congrArg Prod.fst h) | (rcases h with h | h <;> exact Nat.ne_of_beq_eq_false rfl (congrArg Prod.fst h))), K.gng (by intro h; first | exact Nat.ne_of_beq_eq_false rfl (congrArg Prod.fst h) | (rcases h with h | h <;> exact Nat.ne_of_beq_eq_false rfl (congrArg Prod.fst h))), ?_, K.rg0 (by intro h; first | exact Nat.ne_of_beq_eq_false rfl (congrArg Prod.fst h) | (rcases h with h | h <;> exact Nat.ne_of_beq_eq_false rfl (congrArg Prod.fst h))), K.rg1 (by intro h; first | exact Nat.ne_of_beq_eq_false rfl (congrArg Prod.fst h) | (rcases h with h | h <;> exact Nat.ne_of_beq_eq_false rfl (congrArg Prod.fst h))), fun z hz => ?_, fun z hz => ?_, h.wfs, fun z hz => ?_, ?_, h.keys, h.gin, h.gnd, h.n0, h.n1, h.ll, h.lw, h.ld, h.l0, h.l1⟩, St.of hk hS rfl⟩
  · rcases Psub_mem hz with ⟨rfl, _⟩ | ⟨hz, _⟩
    · rw [e2, e3, e4]; exact h.cols.prs y hy
    · exact h.cols.prs z hz
  · show Own w' _ 3 vp (Psub s.Ps y').length (Pl (Psub s.Ps y'))
    rw [hPm, show (Psub s.Ps y').length = s.Ps.length by simp [Psub]]
    exact K.prr (by intro h; first | exact Nat.ne_of_beq_eq_false rfl (congrArg Prod.fst h) | (rcases h with h | h <;> exact Nat.ne_of_beq_eq_false rfl (congrArg Prod.fst h)))
  · rcases Psub_mem hz with ⟨rfl, _⟩ | ⟨hz, hne⟩
    · rw [e2]; exact b2
    · rw [e4] at hne
      exact K.prw z hz (by simp [cWin, cBuck, hne])
  · rcases Psub_mem hz with ⟨rfl, _⟩ | ⟨hz, hne⟩
    · rw [e3]; exact b3
    · rw [e4] at hne
      exact K.prt z hz (by simp [cWin, cBuck, hne])
  · rcases Psub_mem hz with ⟨rfl, _⟩ | ⟨hz, _⟩
    · exact ⟨hok.1, hok.2.1, hok.2.2.1, hok.2.2.2.1, hok.2.2.2.2, by rw [e4]; exact (h.pok y hy).2.2.2.2.2⟩
    · exact h.pok z hz
  · have h1 := h.doms
    rw [← List.pairwise_map (f := Pe.dom) (R := fun a b => a ≠ b)] at h1 ⊢
    show ((Psub s.Ps y').map Pe.dom).Pairwise _
    rw [hPd]; exact h1
/-- a domain more -/
def colQ (s : Sd) (vp' : Value) (y : Pe) : Nat → Option (Nat × (Int × Int) × ByteArray) := fun k => if k = y.wb then some (cWin y.dom) else if k = y.tb then some (cBuck y.dom) else colN s vp' cPeers k
def fP (s : Sd) (vp' : Value) (y : Pe) : Sd := { s with Ps := s.Ps ++ [y], col := colQ s vp' y }
theorem MIn.addPeer (h : MIn w q s vl vp N) {vp' : Value} {y : Pe} (hd : y.dom ∈ s.D) (hne : ∀ z ∈ s.Ps, z.dom ≠ y.dom) (hk : Kp (fun k => k = q ∨ In vp k) w w') (hh : w'.heap[q]? = some (.cells (Hm s vl vp') 56 (0, 0)))
    (ho : Own w' 120 3 vp' (s.Ps.length + 1) (Pl s.Ps ++ Pf y)) (hsn : SameOrNew w vp vp') (h2 : w.heap.size ≤ y.wb) (h3 : w.heap.size ≤ y.tb) (h23 : y.wb ≠ y.tb) (hv2 : vp'.ownBlock ≠ some y.wb) (hv3 : vp'.ownBlock ≠ some y.tb)
    (b2 : w'.heap[y.wb]? = some (.cells (Wd (V8 s.c.win) y.now y.busy) 128 (0, 0))) (b3 : w'.heap[y.tb]? = some (.cells (Bk (V s.c.rate) (V s.c.burst) y.l y.t) 122 (0, 0)))
    (hok : WOk (V8 s.c.win) y.now y.busy ∧ 0 ≤ y.l ∧ y.l ≤ V s.c.burst ∧ 0 ≤ y.t ∧ y.t ≤ 1099511627776) : MIn w' q (fP s vp' y) vl vp' N ∧ St w w' s (fP s vp' y) := by
  have hc0 := colN_old h.cols.prr h.lt hsn
  have hn0 := colN_new (c := cPeers) h.cols.prr hsn
  have hc : ∀ k, (s.col k).isSome → colQ s vp' y k = s.col k := fun k e => by
    have := h.lt k e
    unfold colQ
    rw [if_neg (by omega), if_neg (by omega)]
    exact hc0 k e
  have hn : ∀ k, (colQ s vp' y k).isSome → (s.col k).isSome ∨ w.heap.size ≤ k := fun k e => by
    unfold colQ at e
    split at e
    · rename_i e1; subst e1; exact Or.inr h2
    · split at e
      · rename_i e1; subst e1; exact Or.inr h3
      · exact hn0 k e
  have hS : ∀ k, k < w.heap.size → (k = q ∨ In vp k) → (s.col k).isSome := fun k _ e => by
    rcases e with rfl | e
    · rw [h.cols.head]; rfl
    · rw [h.cols.prr k e]; rfl
  have K := h.kept hk (fun c => c = cHead ∨ c = cPeers) (fun k c hc e => by
    rcases e with rfl | e
    · rw [h.cols.head] at hc; exact Or.inl (Option.some.inj hc).symm
    · rw [h.cols.prr k e] at hc; exact Or.inr (Option.some.inj hc).symm)
  have hC := h.cols.keep hc
  refine ⟨⟨⟨hC.head, hC.lst, hC.gng, fun k e => ?_, hC.nm0, hC.nm1, fun z hz => ?_⟩, fun k e => ?_, hh, locs h.loc hk hS hn, K.lst (by intro h; first | exact Nat.ne_of_beq_eq_false rfl (congrArg Prod.fst h) | (rcases h with h | h <;> exact Nat.ne_of_beq_eq_false rfl (congrArg Prod.fst h))), K.gng (by intro h; first | exact Nat.ne_of_beq_eq_false rfl (congrArg Prod.fst h) | (rcases h with h | h <;> exact Nat.ne_of_beq_eq_false rfl (congrArg Prod.fst h))), ?_, K.rg0 (by intro h; first | exact Nat.ne_of_beq_eq_false rfl (congrArg Prod.fst h) | (rcases h with h | h <;> exact Nat.ne_of_beq_eq_false rfl (congrArg Prod.fst h))), K.rg1 (by intro h; first | exact Nat.ne_of_beq_eq_false rfl (congrArg Prod.fst h) | (rcases h with h | h <;> exact Nat.ne_of_beq_eq_false rfl (congrArg Prod.fst h))), fun z hz => ?_, fun z hz => ?_, h.wfs, fun z hz => ?_, ?_, h.keys, h.gin, h.gnd, h.n0, h.n1, h.ll, h.lw, h.ld, h.l0, h.l1⟩, ⟨hc, hn, hk.mono hS⟩⟩
  · show colQ s vp' y k = _
    unfold colQ
    rw [if_neg (show ¬ k = y.wb from fun e2 => hv2 (by rw [← e2]; exact e)), if_neg (show ¬ k = y.tb from fun e2 => hv3 (by rw [← e2]; exact e))]
    exact colN_at k e
  · rcases List.mem_append.1 hz with hz | hz
    · exact hC.prs z hz
    · obtain rfl := List.mem_singleton.1 hz
      refine ⟨?_, ?_⟩
      · show colQ s vp' z z.wb = _
        unfold colQ; rw [if_pos rfl]
      · show colQ s vp' z z.tb = _
        unfold colQ; rw [if_neg (Ne.symm h23), if_pos rfl]
  · have e' : (colQ s vp' y k).isSome := e
    unfold colQ at e'
    split at e'
    · rename_i e1; subst e1; exact lt_of_block b2
    · split at e'
      · rename_i e1; subst e1; exact lt_of_block b3
      · exact colN_lt K.lt (fun k e => ho.lt e) k e'
  · show Own w' _ 3 vp' (s.Ps ++ [y]).length (Pl (s.Ps ++ [y]))
    rw [List.length_append, Pl_app]
    exact ho
  · rcases List.mem_append.1 hz with hz | hz
    · exact K.prw z hz (by intro h; first | exact Nat.ne_of_beq_eq_false rfl (congrArg Prod.fst h) | (rcases h with h | h <;> exact Nat.ne_of_beq_eq_false rfl (congrArg Prod.fst h)))
    · obtain rfl := List.mem_singleton.1 hz; exact b2
  · rcases List.mem_append.1 hz with hz | hz
    · exact K.prt z hz (by intro h; first | exact Nat.ne_of_beq_eq_false rfl (congrArg Prod.fst h) | (rcases h with h | h <;> exact Nat.ne_of_beq_eq_false rfl (congrArg Prod.fst h)))
    · obtain rfl := List.mem_singleton.1 hz; exact b3
  · rcases List.mem_append.1 hz with hz | hz
    · exact h.pok z hz
    · obtain rfl := List.mem_singleton.1 hz; exact ⟨hok.1, hok.2.1, hok.2.2.1, hok.2.2.2.1, hok.2.2.2.2, hd⟩
  · show (s.Ps ++ [y]).Pairwise _
    rw [List.pairwise_append]
    exact ⟨h.doms, List.pairwise_singleton _ _, fun a ha b hb => by obtain rfl := List.mem_singleton.1 hb; exact hne a ha⟩
end
end Go.Proofs.Ytbiahndpfbmoeaa
