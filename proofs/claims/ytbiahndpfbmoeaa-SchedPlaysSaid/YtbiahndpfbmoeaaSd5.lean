/- What a scheduler holds in memory. No condition. -/
import Derived.Test.YtbiahndpfbmoeaaSd0
import Derived.Test.YtbiahndpfbmoeaaRing3
import Derived.Test.YtbiahndpfbmoeaaWindow
import Derived.Test.YtbiahndpfbmoeaaBucketRefC
namespace Go.Proofs.Ytbiahndpfbmoeaa
open Go.RowKit Go.Maps SatAid

/-- a recipient, and where it lies -/
structure Wt where
  blk : Nat
  id : Int
  rc : Int
  snd : ByteArray
  dom : ByteArray
  loc : Bool
  go : Bool
  nx : Int
/-- a domain, and where it lies -/
structure Pe where
  blk : Nat
  wb : Nat
  tb : Nat
  dom : ByteArray
  now : Int
  busy : Int
  l : Int
  t : Int
/-- a configuration -/
structure Cf where
  host : ByteArray
  lv : Value
  L : List ByteArray
  act : Int
  win : Int
  rate : Int
  burst : Int
  base : Int
  cap : Int
  life : Int
  crash : Int
  quota : Int
  size : Int
/-- a scheduler -/
structure Sd where
  c : Cf
  bm : Nat
  bp : Nat
  br : Nat
  r0 : Nat
  r1 : Nat
  v0 : Value
  v1 : Value
  vg : Value
  Ws : List Wt
  Ps : List Pe
  A0 : List ByteArray
  A1 : List ByteArray
  G : List (Int × Int)
  last : Bool
  D : List ByteArray
  col : Nat → Option (Nat × (Int × Int) × ByteArray)

def Cc (c : Cf) : List Value := [.string c.host, c.lv, .int .i64 c.act, .int .i64 c.win, .int .i64 c.rate, .int .i64 c.burst, .int .i64 c.base, .int .i64 c.cap, .int .i64 c.life, .int .i64 c.crash, .int .i64 c.quota, .int .i64 c.size]
def Hd (s : Sd) : Array Value := #[.string s.c.host, s.c.lv, .int .i64 s.c.act, .int .i64 s.c.win, .int .i64 s.c.rate, .int .i64 s.c.burst, .int .i64 s.c.base, .int .i64 s.c.cap, .int .i64 s.c.life, .int .i64 s.c.crash, .int .i64 s.c.quota, .int .i64 s.c.size, .map (some s.bm), .map (some s.bp), .map (some s.br), s.vg, .bool s.last]
def Wc (x : Wt) : Array Value := #[.int .i64 x.id, .int .i64 x.rc, .string x.snd, .string x.dom, .bool x.loc, .bool x.go, .int .i64 x.nx]
def Wm (Ws : List Wt) : List (Lit × Value) := Ws.map fun x => (Kx x.id x.rc, .pointer (some ⟨x.blk, 0, none⟩))
def Pm (Ps : List Pe) : List (Lit × Value) := Ps.map fun y => (.string y.dom.data.toList, .pointer (some ⟨y.blk, 0, none⟩))
def Rm (r0 r1 : Nat) : List (Lit × Value) := [(.bool false, .pointer (some ⟨r0, 0, none⟩)), (.bool true, .pointer (some ⟨r1, 0, none⟩))]
def Gc (G : List (Int × Int)) : List Value := G.flatMap fun k => [.int .i64 k.1, .int .i64 k.2]
theorem Gc_len (G : List (Int × Int)) : (Gc G).length = G.length * 2 := by
  induction G with
  | nil => rfl
  | cons x r ih => unfold Gc at *; rw [List.flatMap_cons, List.length_append, ih]; simp; omega
theorem Gc_one (G : List (Int × Int)) : ∀ u ∈ Gc G, u.oneCell' = true := by
  intro u hu
  obtain ⟨x, _, hx⟩ := List.mem_flatMap.1 hu
  simp at hx
  rcases hx with rfl | rfl <;> rfl
theorem Gc_app (S T : List (Int × Int)) : Gc (S ++ T) = Gc S ++ Gc T := by unfold Gc; rw [List.flatMap_append]
theorem Gc_get {S : List (Int × Int)} {i : Nat} {x : Int × Int} (h : S[i]? = some x) : (Gc S)[i * 2]? = some (.int .i64 x.1) ∧ (Gc S)[i * 2 + 1]? = some (.int .i64 x.2) := by
  induction S generalizing i with
  | nil => simp at h
  | cons y r ih =>
    have e : Gc (y :: r) = .int .i64 y.1 :: .int .i64 y.2 :: Gc r := rfl
    rw [e]
    cases i with
    | zero => simp at h; subst h; exact ⟨rfl, rfl⟩
    | succ i =>
      have h' : r[i]? = some x := by simpa using h
      have e1 : (i + 1) * 2 = i * 2 + 1 + 1 := by omega
      rw [e1]
      simp only [List.getElem?_cons_succ]
      exact ih h'

/-- the colours -/
def cHead : Nat × (Int × Int) × ByteArray := (0, (0, 0), ByteArray.empty)
def cBy : Nat × (Int × Int) × ByteArray := (1, (0, 0), ByteArray.empty)
def cPeers : Nat × (Int × Int) × ByteArray := (2, (0, 0), ByteArray.empty)
def cRings : Nat × (Int × Int) × ByteArray := (3, (0, 0), ByteArray.empty)
def cRing (b : Bool) : Nat × (Int × Int) × ByteArray := (if b then 5 else 4, (0, 0), ByteArray.empty)
def cNames (b : Bool) : Nat × (Int × Int) × ByteArray := (if b then 7 else 6, (0, 0), ByteArray.empty)
def cGoing : Nat × (Int × Int) × ByteArray := (8, (0, 0), ByteArray.empty)
def cLoc : Nat × (Int × Int) × ByteArray := (9, (0, 0), ByteArray.empty)
def cWait (k : Int × Int) : Nat × (Int × Int) × ByteArray := (10, k, ByteArray.empty)
def cPeer (d : ByteArray) : Nat × (Int × Int) × ByteArray := (11, (0, 0), d)
def cWin (d : ByteArray) : Nat × (Int × Int) × ByteArray := (12, (0, 0), d)
def cBuck (d : ByteArray) : Nat × (Int × Int) × ByteArray := (13, (0, 0), d)

/-- which block is what -/
structure Cols (s : Sd) (p : Nat) : Prop where
  head : s.col p = some cHead
  bym : s.col s.bm = some cBy
  prm : s.col s.bp = some cPeers
  rgm : s.col s.br = some cRings
  rg0 : s.col s.r0 = some (cRing false)
  rg1 : s.col s.r1 = some (cRing true)
  nm0 : ∀ k, s.v0.ownBlock = some k → s.col k = some (cNames false)
  nm1 : ∀ k, s.v1.ownBlock = some k → s.col k = some (cNames true)
  gng : ∀ k, s.vg.ownBlock = some k → s.col k = some cGoing
  loc : ∀ k, s.c.lv.ownBlock = some k → s.col k = some cLoc
  wts : ∀ x ∈ s.Ws, s.col x.blk = some (cWait (x.id, x.rc))
  prs : ∀ y ∈ s.Ps, s.col y.blk = some (cPeer y.dom) ∧ s.col y.wb = some (cWin y.dom) ∧ s.col y.tb = some (cBuck y.dom)

/-- block p is a scheduler -/
structure SIn (w : World) (p : Nat) (s : Sd) (N : Nat) : Prop where
  cols : Cols s p
  lt : ∀ k, (s.col k).isSome → k < w.heap.size
  head : w.heap[p]? = some (.cells (Hd s) 93 (0, 0))
  loc : Own w 9 1 s.c.lv s.c.L.length (Sc s.c.L)
  bym : MapAt w Try.prog 95 s.bm s.Ws.length (Wm s.Ws)
  prm : MapAt w Try.prog 9 s.bp s.Ps.length (Pm s.Ps)
  rgm : MapAt w Try.prog 4 s.br 2 (Rm s.r0 s.r1)
  rg0 : RgAt w s.r0 s.v0 s.A0
  rg1 : RgAt w s.r1 s.v1 s.A1
  gng : Own w 95 2 s.vg s.G.length (Gc s.G)
  wts : ∀ x ∈ s.Ws, w.heap[x.blk]? = some (.cells (Wc x) 99 (0, 0))
  prs : ∀ y ∈ s.Ps, w.heap[y.blk]? = some (.cells #[.pointer (some ⟨y.wb, 0, none⟩), .pointer (some ⟨y.tb, 0, none⟩)] 111 (0, 0)) ∧
    w.heap[y.wb]? = some (.cells (Wd (V8 s.c.win) y.now y.busy) 139 (0, 0)) ∧ w.heap[y.tb]? = some (.cells (Bk (V s.c.rate) (V s.c.burst) y.l y.t) 141 (0, 0))
  wfs : ∀ x ∈ s.Ws, (Lit.int .i64 x.id).wf = true ∧ (Lit.int .i64 x.rc).wf = true ∧ x.dom ∈ s.D
  pok : ∀ y ∈ s.Ps, WOk (V8 s.c.win) y.now y.busy ∧ 0 ≤ y.l ∧ y.l ≤ V s.c.burst ∧ 0 ≤ y.t ∧ y.t ≤ 1099511627776 ∧ y.dom ∈ s.D
  dok : ∀ d ∈ s.D, d.size ≤ maxLen
  gin : ∀ k ∈ s.G, ∃ x ∈ s.Ws, (x.id, x.rc) = k ∧ x.go = true
  gnd : s.G.Nodup
  ll : s.c.L.length ≤ N
  lw : s.Ws.length ≤ N
  ld : s.D.length ≤ N
  l0 : s.A0.length ≤ N
  l1 : s.A1.length ≤ N
section
variable {w w' : World} {p N : Nat} {s : Sd} {S : Nat → Prop}
theorem Cols.keep {col' : Nat → Option (Nat × (Int × Int) × ByteArray)} (h : Cols s p) (he : ∀ k, (s.col k).isSome → col' k = s.col k) : Cols { s with col := col' } p where
  head := (he _ (by rw [h.head]; rfl)).trans h.head
  bym := (he _ (by rw [h.bym]; rfl)).trans h.bym
  prm := (he _ (by rw [h.prm]; rfl)).trans h.prm
  rgm := (he _ (by rw [h.rgm]; rfl)).trans h.rgm
  rg0 := (he _ (by rw [h.rg0]; rfl)).trans h.rg0
  rg1 := (he _ (by rw [h.rg1]; rfl)).trans h.rg1
  nm0 := fun k e => (he _ (by rw [h.nm0 k e]; rfl)).trans (h.nm0 k e)
  nm1 := fun k e => (he _ (by rw [h.nm1 k e]; rfl)).trans (h.nm1 k e)
  gng := fun k e => (he _ (by rw [h.gng k e]; rfl)).trans (h.gng k e)
  loc := fun k e => (he _ (by rw [h.loc k e]; rfl)).trans (h.loc k e)
  wts := fun x e => (he _ (by rw [h.wts x e]; rfl)).trans (h.wts x e)
  prs := fun y e => ⟨(he _ (by rw [(h.prs y e).1]; rfl)).trans (h.prs y e).1, (he _ (by rw [(h.prs y e).2.1]; rfl)).trans (h.prs y e).2.1, (he _ (by rw [(h.prs y e).2.2]; rfl)).trans (h.prs y e).2.2⟩
/-- nothing of it is written -/
theorem SIn.keep (h : SIn w p s N) (hk : Kp S w w') (hs : ∀ k, (s.col k).isSome → ¬ S k) : SIn w' p s N where
  cols := h.cols
  lt := fun k e => Nat.lt_of_lt_of_le (h.lt k e) hk.size
  head := hk.keep h.head (hs _ (by rw [h.cols.head]; rfl))
  loc := h.loc.keep hk (fun k e => hs _ (by rw [h.cols.loc k e]; rfl))
  bym := h.bym.keep hk (hs _ (by rw [h.cols.bym]; rfl))
  prm := h.prm.keep hk (hs _ (by rw [h.cols.prm]; rfl))
  rgm := h.rgm.keep hk (hs _ (by rw [h.cols.rgm]; rfl))
  rg0 := h.rg0.keep hk (hs _ (by rw [h.cols.rg0]; rfl)) (fun k e => hs _ (by rw [h.cols.nm0 k e]; rfl))
  rg1 := h.rg1.keep hk (hs _ (by rw [h.cols.rg1]; rfl)) (fun k e => hs _ (by rw [h.cols.nm1 k e]; rfl))
  gng := h.gng.keep hk (fun k e => hs _ (by rw [h.cols.gng k e]; rfl))
  wts := fun x e => hk.keep (h.wts x e) (hs _ (by rw [h.cols.wts x e]; rfl))
  prs := fun y e => ⟨hk.keep (h.prs y e).1 (hs _ (by rw [(h.cols.prs y e).1]; rfl)), hk.keep (h.prs y e).2.1 (hs _ (by rw [(h.cols.prs y e).2.1]; rfl)), hk.keep (h.prs y e).2.2 (hs _ (by rw [(h.cols.prs y e).2.2]; rfl))⟩
  wfs := h.wfs
  pok := h.pok
  dok := h.dok
  gin := h.gin
  gnd := h.gnd
  ll := h.ll
  lw := h.lw
  ld := h.ld
  l0 := h.l0
  l1 := h.l1
end
end Go.Proofs.Ytbiahndpfbmoeaa

/- sched.New. Condition: no more local domains than fit into memory. -/
namespace Go.Proofs.Ytbiahndpfbmoeaa
open Go.RowKit Go.Maps SatAid Go.MapKept Go.ChangeMaps Go.WideShapes

theorem bool_law : Keyed Try.prog 4 := bool_keyed Try.underlying4
theorem str_law : Keyed Try.prog 9 := string_keyed Try.underlying9
theorem wpList_ins_new {P : Program} (w : World) {ops : Array Oper} {rest : List Oper} {o : Oper} {a : Act} {Q : Exit → Act → World → Prop} (hg : o.guard = none) (m x v : Operand) (t : TypeId) (hop : o.op = Op.insert t m x v)
    (k e : TypeId) (K : Keyed P k) (ht : P.underlying t = some (.map k e)) (b n : Nat) (M : List (Lit × Value))
    (hm : a.eval m = .map (some b)) (h : MapAt w P k b n M) (hn : n < maxLen) (key val : Value) (kl : Lit) (hx : a.eval x = key) (hv : a.eval v = val) (hkey : keyOf P k key = some kl) (hnew : ∀ p ∈ M, p.1 ≠ kl)
    (hK : ∀ w', MapAt w' P k b (n + 1) (M ++ [(kl, val)]) → Kp (· = b) w w' → wpList P ops Q rest (a.put o.dst undef) w') :
    wpList P ops Q (o :: rest) a w := by
  obtain ⟨w', hrun, h1, h2⟩ := h.put_run K ht hn hkey hnew (val := val)
  refine wpList_plain hg fun K' hK' => ?_
  unfold Oper.wp
  simp [execOp, hop, hm, hx, hv, hrun, Result.andThen]
  exact hK' _ _ (hK w' h1 h2)

def C0 (c : Cf) (p bm bp br r0 r1 : Nat) (lv : Value) : Sd :=
  { c := { c with lv := lv }, bm := bm, bp := bp, br := br, r0 := r0, r1 := r1, v0 := .slice none 0 0, v1 := .slice none 0 0, vg := .slice none 0 0, Ws := [], Ps := [], A0 := [], A1 := [], G := [], last := false, D := [],
    col := fun k => if k = p then some cHead else if k = bm then some cBy else if k = bp then some cPeers else if k = br then some cRings else if k = r0 then some (cRing false) else if k = r1 then some (cRing true) else if lv.ownBlock = some k then some cLoc else none }
def Snew (c : Cf) (w : World) (e : Ending) (w' : World) : Prop :=
  ∃ p bm bp br r0 r1 lv, e = .returned (.pointer (some ⟨p, 0, none⟩)) ∧ SIn w' p (C0 c p bm bp br r0 r1 lv) c.L.length ∧ (∀ k, ((C0 c p bm bp br r0 r1 lv).col k).isSome → w.heap.size ≤ k) ∧ Kp (fun _ => False) w w'
theorem src_cells {w : World} {ad : Addr} {L : List ByteArray} (h : SRd w (some ad) L) : ∀ j u, (Sc L)[j]? = some u → w.cell? (ad.add j) = some u := by
  intro j u hu
  have hj : j < L.length := by have := (List.getElem?_eq_some_iff.1 hu).1; rwa [Sc_len] at this
  obtain ⟨b, off, e, hb, hc⟩ := h j hj
  cases e
  rw [Addr.add_lit, hc]
  unfold Sc at hu
  rw [List.getElem?_map, List.getElem?_eq_getElem hj] at hu
  show some (Value.string (L.getD j ByteArray.empty)) = some u
  rw [List.getD_eq_getElem?_getD, List.getElem?_eq_getElem hj]
  exact hu
theorem sclone_rd (ao : Option Addr) (cap : Nat) (L : List ByteArray) (w : World) (hs : SRd w ao L) (hnone : ao = none → cap = 0) (hL : L.length ≤ 1000000) :
    Calls Try.prog 46 #[.slice ao L.length cap] w (Cloned 9 1 L.length (Sc L) w) := by
  cases ao with
  | none =>
    obtain rfl := hnone rfl
    have hL0 : L.length = 0 := by
      rcases Nat.eq_zero_or_pos L.length with h | h
      · exact h
      · obtain ⟨_, _, e, _⟩ := hs 0 h; cases e
    obtain rfl := List.eq_nil_of_length_eq_zero hL0
    refine (sclone_nil _).mono ?_; rintro e w1 ⟨rfl, rfl⟩
    exact ⟨_, rfl, World.ownsRow_nil _ _ _ _, Kp.refl _ _⟩
  | some ad => exact sclone_any ad L.length cap (Sc L) _ (Sc_len1 L) (src_cells hs) (Sc_one L) (by omega)
theorem map_new {P : Program} {k : TypeId} {w1 : World} {b : Nat} (h : w1.heap[b]? = some (.map #[] 0)) : MapAt w1 P k b 0 [] :=
  ⟨[], ⟨#[], 0, h, ⟨by simp, stamped_empty 0, by simp⟩, Nat.le_refl _, rfl⟩, List.Perm.refl _⟩
theorem put_run2 {P : Program} {k : TypeId} {w : World} {b n : Nat} {M : List (Lit × Value)} {t e : TypeId} (h : MapAt w P k b n M) (K : Keyed P k) (ht : P.underlying t = some (.map k e)) (hn : n < maxLen) {key val : Value} {kl : Lit} (hkey : keyOf P k key = some kl) (hnew : ∀ p ∈ M, p.1 ≠ kl) :
    ∃ w', (Instr.mapUpdate t (.map (some b)) key val).run P w = .ok () w' ∧ MapAt w' P k b (n + 1) (M ++ [(kl, val)]) ∧ Kp (· = b) w w' ∧ w'.heap.size = w.heap.size := by
  obtain ⟨es, ho, hq⟩ := h
  obtain ⟨w', hrun, h1, h2⟩ := ho.store K ht hn (d := .held val) (ps := []) (val := val) hkey rfl
  obtain ⟨es', hD, hq'⟩ := MapAt.put_new hq hnew rfl
  rw [hD] at h1
  refine ⟨w', hrun, ⟨es', h1, hq'⟩, Kp.of_turned h2, ?_⟩
  obtain ⟨_, _, _, _, _, rfl⟩ := h2
  simp [setBlock]
theorem heap_at {w : World} (o : Obj) {b : Nat} (hb : b = w.heap.size) : (w.alloc o).heap[b]? = some o := by rw [hb]; exact heap_new o
theorem snew_close {c : Cf} {w w' : World} {lv : Value} {p bm bp br r0 r1 : Nat} (hlo : Own w' 9 1 lv c.L.length (Sc c.L)) (hlb : ∀ k, lv.ownBlock = some k → w.heap.size ≤ k ∧ k < bm)
    (hle : w.heap.size ≤ bm) (h1 : bm < bp) (h2 : bp < br) (h3 : br < r0) (h4 : r0 < r1) (h5 : r1 < p) (head : w'.heap[p]? = some (.cells (Hd (C0 c p bm bp br r0 r1 lv)) 93 (0, 0)))
    (m1 : w'.heap[bm]? = some (.map #[] 0)) (m2 : w'.heap[bp]? = some (.map #[] 0)) (m3 : MapAt w' Try.prog 4 br 2 (Rm r0 r1)) (g0 : w'.heap[r0]? = some (.cells #[.slice none 0 0] 26 (0, 0)) ∧ w'.heap[r1]? = some (.cells #[.slice none 0 0] 26 (0, 0))) (hk : Kp (fun _ => False) w w') :
    Snew c w (.returned (.pointer (some ⟨p, 0, none⟩))) w' := by
  have hp := lt_of_block head
  refine ⟨p, bm, bp, br, r0, r1, lv, rfl, ⟨⟨?_, ?_, ?_, ?_, ?_, ?_, fun k e => ?_, fun k e => ?_, fun k e => ?_, fun k e => ?_, fun x e => (by cases e), fun x e => (by cases e)⟩, fun k e => ?_, head, hlo, map_new m1, map_new m2, m3, ⟨g0.1, Own.nil _ _ _, by simp [Value.ownBlock, C0]⟩, ⟨g0.2, Own.nil _ _ _, by simp [Value.ownBlock, C0]⟩, Own.nil _ _ _, fun x e => (by cases e), fun x e => (by cases e), fun x e => (by cases e), fun x e => (by cases e), fun x e => (by cases e), fun x e => (by cases e), List.nodup_nil, Nat.le_refl _, Nat.zero_le _, Nat.zero_le _, Nat.zero_le _, Nat.zero_le _⟩, fun k e => ?_, hk⟩
  · simp [C0]
  · simp [C0, show bm ≠ p by omega]
  · simp [C0, show bp ≠ p by omega, show bp ≠ bm by omega]
  · simp [C0, show br ≠ p by omega, show br ≠ bm by omega, show br ≠ bp by omega]
  · simp [C0, show r0 ≠ p by omega, show r0 ≠ bm by omega, show r0 ≠ bp by omega, show r0 ≠ br by omega]
  · simp [C0, show r1 ≠ p by omega, show r1 ≠ bm by omega, show r1 ≠ bp by omega, show r1 ≠ br by omega, show r1 ≠ r0 by omega]
  · simp [C0, Value.ownBlock] at e
  · simp [C0, Value.ownBlock] at e
  · simp [C0, Value.ownBlock] at e
  · have e' : lv.ownBlock = some k := e
    obtain ⟨_, l2⟩ := hlb k e'
    simp [C0, e', show k ≠ p by omega, show k ≠ bm by omega, show k ≠ bp by omega, show k ≠ br by omega, show k ≠ r0 by omega, show k ≠ r1 by omega]
  · simp only [C0] at e
    repeat' split at e
    all_goals first | omega | (rename_i h; have := hlb k h; omega) | cases e
  · simp only [C0] at e
    repeat' split at e
    all_goals first | omega | (rename_i h; have := hlb k h; omega) | cases e
set_option maxRecDepth 100000 in
set_option maxHeartbeats 1600000 in
theorem snew_any (c : Cf) (ao : Option Addr) (cap : Nat) (w : World) (hlv : c.lv = .slice ao c.L.length cap) (hs : SRd w ao c.L) (hL : c.L.length ≤ 1000000) (hnone : ao = none → cap = 0) :
    Calls Try.prog 24 #[.agg (Cc c).toArray] w (Snew c w) := by
  obtain ⟨host, lv, L, i1, i2, i3, i4, i5, i6, i7, i8, i9, i10⟩ := c
  simp only at hlv hs hL
  subst hlv
  have HS := Lib.hid hs; clear hs
  unfold Cc
  simp only
  go_enter Try.func24, Try.ntmps24
  go_wp2_with fail
  refine (sclone_rd ao cap L _ (HS.out.keep ((Kp.refl (fun _ => False) w).alloc _) (fun _ _ _ _ h => h)) hnone hL).mono ?_; rintro e w1 ⟨lv, rfl, ho, hk⟩
  have h1 := hk.keep (heap_new _) (fun h => h)
  have l1 := lt_of_block h1
  have e0 := cell_of h1 0
  have e1 := cell_of h1 1
  have e2 := cell_of h1 2
  have e3 := cell_of h1 3
  have e4 := cell_of h1 4
  have e5 := cell_of h1 5
  have e6 := cell_of h1 6
  have e7 := cell_of h1 7
  have e8 := cell_of h1 8
  have e9 := cell_of h1 9
  have e10 := cell_of h1 10
  have e11 := cell_of h1 11
  simp only [List.getElem?_toArray, List.getElem?_cons_zero, List.getElem?_cons_succ] at e0 e1 e2 e3 e4 e5 e6 e7 e8 e9 e10 e11
  have f1 := frozen_of h1 1
  have hmm := @run_makeMap Try.prog
  obtain ⟨lo, lc, rfl⟩ := (own_weaken ho).slice
  have hsz1 : (w1.setCell ⟨w.heap.size, 1, none⟩ (.slice lo L.length lc)).heap.size = w1.heap.size := by simp [World.setCell]
  have hks : Kp (· = w.heap.size) w1 (w1.setCell ⟨w.heap.size, 1, none⟩ (.slice lo L.length lc)) := (by repeat (first | exact Kp.refl _ _ | apply Kp.drew | apply Kp.drewN | refine Kp.setCell ?_ _ _ (Or.inl rfl) | apply Kp.alloc))
  obtain ⟨wa, hwa⟩ : ∃ wa, wa = w1.setCell ⟨w.heap.size, 1, none⟩ (.slice lo L.length lc) := ⟨_, rfl⟩
  rw [← hwa] at hsz1 hks
  have HKS := Lib.hid hks; have HO := Lib.hid ho; have HK := Lib.hid hk; have HWA := Lib.hid hwa
  have g0 := hwa ▸ (heap_set h1 (i := 1) (.slice lo L.length lc))
  clear hks ho hk h1
  obtain ⟨wA, hA⟩ : ∃ wA, wA = (((wa.alloc (.map #[] 0)).alloc (.map #[] 0)).alloc (.map #[] 0)).alloc (.cells #[.slice none 0 0] 26) := ⟨_, rfl⟩
  have hA1 : wA.heap[w1.heap.size]? = some (.map #[] 0) := by rw [hA]; exact heap_old _ (heap_old _ (heap_old _ (heap_at _ (by simp [hsz1]))))
  have hA2 : wA.heap[w1.heap.size + 1]? = some (.map #[] 0) := by rw [hA]; exact heap_old _ (heap_old _ (heap_at _ (by simp [hsz1])))
  have hA3 : wA.heap[w1.heap.size + 1 + 1]? = some (.map #[] 0) := by rw [hA]; exact heap_old _ (heap_at _ (by simp [hsz1]))
  have hA4 : wA.heap[w1.heap.size + 1 + 1 + 1]? = some (.cells #[.slice none 0 0] 26 (0, 0)) := by rw [hA]; exact heap_at _ (by simp [hsz1])
  have hAs : wA.heap.size = w1.heap.size + 1 + 1 + 1 + 1 := by rw [hA]; simp [hsz1]
  have hAk : Kp (fun _ => False) wa wA := by rw [hA]; exact (by repeat (first | exact Kp.refl _ _ | apply Kp.drew | apply Kp.drewN | refine Kp.setCell ?_ _ _ (Or.inl rfl) | apply Kp.alloc))
  obtain ⟨w2, hr2, hm2, hk2, hs2⟩ := put_run2 (map_new (P := Try.prog) (k := 4) hA3) bool_law Try.underlying90 (by unfold maxLen; omega) (keyOf_bool_mk Try.underlying4 false) (val := .pointer (some ⟨w1.heap.size + 1 + 1 + 1, 0, none⟩)) (fun _ h => by cases h)
  have hr2' := hA ▸ hr2
  have hm2B := hm2.keep ((Kp.refl (fun _ => False) w2).alloc (.cells #[.slice none 0 0] 26)) (fun h => h)
  obtain ⟨w3, hr3, hm3, hk3, hs3⟩ := put_run2 hm2B bool_law Try.underlying90 (by unfold maxLen; omega) (keyOf_bool_mk Try.underlying4 true) (val := .pointer (some ⟨w1.heap.size + 1 + 1 + 1 + 1, 0, none⟩)) (fun q h => by simp at h; subst h; simp)
  have HA := Lib.hid hA; have HM3 := Lib.hid hm3; have HK2 := Lib.hid hk2; have HK3 := Lib.hid hk3; have HAK := Lib.hid hAk; have HR2 := Lib.hid hr2
  clear hm2 hm2B hm3 hk2 hk3 hAk hr2
  subst hwa
  go_wp2_with fail
  go_ret
  have hsz2 : w2.heap.size = w1.heap.size + 1 + 1 + 1 + 1 := by rw [hs2, hAs]
  have hsz3 : w3.heap.size = w1.heap.size + 1 + 1 + 1 + 1 + 1 := by rw [hs3]; simp [hsz2]
  have k23 : Kp (· = w1.heap.size + 1 + 1) wA w3 := (HK2.out.alloc _).trans_new HK3.out (fun _ _ h => h)
  have kA : Kp (fun k => k = w.heap.size ∨ k = w1.heap.size + 1 + 1) w1 w3 := ((HKS.out.mono (T := fun k => k = w.heap.size ∨ k = w1.heap.size + 1 + 1) (fun _ _ h => Or.inl h)).trans (HAK.out.mono (fun _ _ h => h.elim))).trans (k23.mono (fun _ _ h => Or.inr h))
  have hlb : ∀ k, (Value.slice lo L.length lc).ownBlock = some k → w.heap.size + 1 ≤ k ∧ k < w1.heap.size := fun k e => by
    have := World.ownsRow.lt HO.out k e
    simp only [World.size_alloc] at this
    exact this
  refine snew_close (c := ⟨host, .slice ao L.length cap, L, i1, i2, i3, i4, i5, i6, i7, i8, i9, i10⟩) (lv := .slice lo L.length lc) (bm := w1.heap.size) (bp := w1.heap.size + 1) (br := w1.heap.size + 1 + 1) (r0 := w1.heap.size + 1 + 1 + 1) (r1 := w1.heap.size + 1 + 1 + 1 + 1) ?hlo ?hlb ?hle ?h1 ?h2 ?h3 ?h4 ?h5 ?hhd ?m1 ?m2 ?m3 ?g0 ?hk
  case hlo =>
    refine ((own_weaken HO.out).keep kA (fun k e h => ?_)).keep ((Kp.refl (fun _ => False) w3).alloc _) (fun _ _ h => h)
    have := hlb k e
    omega
  case hlb => exact fun k e => by have := hlb k e; omega
  case hle => omega
  case h1 => omega
  case h2 => omega
  case h3 => omega
  case h4 => omega
  case h5 => omega
  case hhd => exact heap_at _ (by omega)
  case m1 => exact heap_old _ (k23.keep hA1 (by omega))
  case m2 => exact heap_old _ (k23.keep hA2 (by omega))
  case m3 => exact HM3.out.keep ((Kp.refl (fun _ => False) w3).alloc _) (fun h => h)
  case g0 => exact ⟨heap_old _ (k23.keep hA4 (by omega)), heap_old _ (HK3.out.keep (heap_at _ (by omega)) (by omega))⟩
  case hk => exact (((((Kp.refl (fun _ => False) w).alloc _).trans HK.out)).trans_new kA (fun k h1 h2 => by omega)).alloc _
end Go.Proofs.Ytbiahndpfbmoeaa

/- What a scheduler's peer does. Condition: the domain is known, and no string is longer than a length may be. -/
namespace Go.Proofs.Ytbiahndpfbmoeaa
open Go.RowKit Go.Maps SatAid Go.MapKept Go.ChangeMaps Go.WideShapes

theorem str_key {d : ByteArray} (h : d.size ≤ maxLen) : keyOf Try.prog 9 (.string d) = some (.string d.data.toList) := WideMaps.keyOf_string_mk Try.underlying9 h
theorem dom_ne {a b : ByteArray} (h : a ≠ b) : (Lit.string a.data.toList) ≠ .string b.data.toList := by
  intro e
  simp only [Lit.string.injEq] at e
  apply h
  cases a; cases b
  simp only [ByteArray.mk.injEq]
  exact Array.toList_inj.1 e
theorem pzero (w : World) : (zeroValue 106).run Try.prog w = .ok (.pointer none) w := by kernel_rfl
/-- its colours with three more -/
def colP (s : Sd) (y : Pe) : Nat → Option (Nat × (Int × Int) × ByteArray) := fun k => if k = y.blk then some (cPeer y.dom) else if k = y.wb then some (cWin y.dom) else if k = y.tb then some (cBuck y.dom) else s.col k
/-- a domain more -/
theorem SIn.addPeer {w w' : World} {p N : Nat} {s : Sd} {y : Pe} (h : SIn w p s N) (hk : Kp (· = s.bp) w w') (hd : y.dom ∈ s.D) (hn : ∀ z ∈ s.Ps, z.dom ≠ y.dom) (h1 : w.heap.size ≤ y.blk) (h2 : w.heap.size ≤ y.wb) (h3 : w.heap.size ≤ y.tb) (h12 : y.blk ≠ y.wb) (h13 : y.blk ≠ y.tb) (h23 : y.wb ≠ y.tb)
    (hm : MapAt w' Try.prog 9 s.bp (s.Ps.length + 1) (Pm s.Ps ++ [(.string y.dom.data.toList, .pointer (some ⟨y.blk, 0, none⟩))]))
    (b1 : w'.heap[y.blk]? = some (.cells #[.pointer (some ⟨y.wb, 0, none⟩), .pointer (some ⟨y.tb, 0, none⟩)] 111 (0, 0))) (b2 : w'.heap[y.wb]? = some (.cells (Wd (V8 s.c.win) y.now y.busy) 139 (0, 0))) (b3 : w'.heap[y.tb]? = some (.cells (Bk (V s.c.rate) (V s.c.burst) y.l y.t) 141 (0, 0)))
    (hok : WOk (V8 s.c.win) y.now y.busy ∧ 0 ≤ y.l ∧ y.l ≤ V s.c.burst ∧ 0 ≤ y.t ∧ y.t ≤ 1099511627776) :
    SIn w' p { s with Ps := s.Ps ++ [y], col := colP s y } N := by
  have hc : ∀ k, (s.col k).isSome → colP s y k = s.col k := fun k e => by
    have := h.lt k e
    simp [colP, show k ≠ y.blk by omega, show k ≠ y.wb by omega, show k ≠ y.tb by omega]
  have hne : ∀ k c, s.col k = some c → c ≠ cPeers → ¬ k = s.bp := fun k c e hc e2 => by
    subst e2; rw [h.cols.prm] at e; exact hc (Option.some.inj e).symm
  have hC := h.cols.keep hc
  refine ⟨⟨hC.head, hC.bym, hC.prm, hC.rgm, hC.rg0, hC.rg1, hC.nm0, hC.nm1, hC.gng, hC.loc, hC.wts, fun z hz => ?_⟩, fun k e => ?_, hk.keep h.head (hne _ _ h.cols.head (by simp [cHead, cPeers])), h.loc.keep hk (fun k e => hne _ _ (h.cols.loc k e) (by simp [cLoc, cPeers])), h.bym.keep hk (hne _ _ h.cols.bym (by simp [cBy, cPeers])), ?_, h.rgm.keep hk (hne _ _ h.cols.rgm (by simp [cRings, cPeers])),
    h.rg0.keep hk (hne _ _ h.cols.rg0 (by simp [cRing, cPeers])) (fun k e => hne _ _ (h.cols.nm0 k e) (by simp [cNames, cPeers])), h.rg1.keep hk (hne _ _ h.cols.rg1 (by simp [cRing, cPeers])) (fun k e => hne _ _ (h.cols.nm1 k e) (by simp [cNames, cPeers])), h.gng.keep hk (fun k e => hne _ _ (h.cols.gng k e) (by simp [cGoing, cPeers])),
    fun x hx => hk.keep (h.wts x hx) (hne _ _ (h.cols.wts x hx) (by simp [cWait, cPeers])), fun z hz => ?_, h.wfs, fun z hz => ?_, h.dok, h.gin, h.gnd, h.ll, h.lw, h.ld, h.l0, h.l1⟩
  · rcases List.mem_append.1 hz with hz | hz
    · exact hC.prs z hz
    · obtain rfl := List.mem_singleton.1 hz
      exact ⟨by simp [colP], by simp [colP, Ne.symm h12], by simp [colP, Ne.symm h13, Ne.symm h23]⟩
  · have l1 := lt_of_block b1; have l2 := lt_of_block b2; have l3 := lt_of_block b3
    by_cases e1 : k = y.blk
    · omega
    by_cases e2 : k = y.wb
    · omega
    by_cases e3 : k = y.tb
    · omega
    have e' : (colP s y k).isSome := e
    simp only [colP, if_neg e1, if_neg e2, if_neg e3] at e'
    exact Nat.lt_of_lt_of_le (h.lt k e') hk.size
  · have e : Pm (s.Ps ++ [y]) = Pm s.Ps ++ [(.string y.dom.data.toList, .pointer (some ⟨y.blk, 0, none⟩))] := by simp [Pm]
    show MapAt w' Try.prog 9 s.bp (s.Ps ++ [y]).length (Pm (s.Ps ++ [y]))
    rw [e, List.length_append]
    exact hm
  · rcases List.mem_append.1 hz with hz | hz
    · obtain ⟨c1, c2, c3⟩ := h.cols.prs z hz
      obtain ⟨g1, g2, g3⟩ := h.prs z hz
      exact ⟨hk.keep g1 (hne _ _ c1 (by simp [cPeer, cPeers])), hk.keep g2 (hne _ _ c2 (by simp [cWin, cPeers])), hk.keep g3 (hne _ _ c3 (by simp [cBuck, cPeers]))⟩
    · obtain rfl := List.mem_singleton.1 hz
      exact ⟨b1, b2, b3⟩
  · rcases List.mem_append.1 hz with hz | hz
    · exact h.pok z hz
    · obtain rfl := List.mem_singleton.1 hz
      exact ⟨hok.1, hok.2.1, hok.2.2.1, hok.2.2.2.1, hok.2.2.2.2, hd⟩

/-- what it turns to by asking for a domain -/
def Pext (s : Sd) (n : Int) (y : Pe) (Ps' : List Pe) : Prop := y ∈ Ps' ∧ (Ps' = s.Ps ∨ (Ps' = s.Ps ++ [y] ∧ (∀ z ∈ s.Ps, z.dom ≠ y.dom) ∧ y.now = 1 ∧ y.busy = 0 ∧ y.l = V s.c.burst ∧ y.t = C n))
/-- its colours are as they were, but for new blocks -/
structure Cext (s : Sd) (w : World) (col' : Nat → Option (Nat × (Int × Int) × ByteArray)) : Prop where
  old : ∀ k, (s.col k).isSome → col' k = s.col k
  new : ∀ k, (col' k).isSome → (s.col k).isSome ∨ w.heap.size ≤ k
theorem Cext.refl (s : Sd) (w : World) : Cext s w s.col := ⟨fun _ _ => rfl, fun _ e => Or.inl e⟩
def Speer (p N : Nat) (s : Sd) (d : ByteArray) (n : Int) (w : World) (e : Ending) (w' : World) : Prop :=
  ∃ y Ps' col', e = .returned (.pointer (some ⟨y.blk, 0, none⟩)) ∧ y.dom = d ∧ Pext s n y Ps' ∧ Cext s w col' ∧ SIn w' p { s with Ps := Ps', col := col' } N ∧ Kp (· = s.bp) w w'
theorem speer_old (p N : Nat) (s : Sd) (y : Pe) (n : Int) (w : World) (h : SIn w p s N) (hy : y ∈ s.Ps) :
    Calls Try.prog 53 #[.pointer (some ⟨p, 0, none⟩), .string y.dom, .int .i64 n] w (Speer p N s y.dom n w) := by
  have H := Lib.hid h
  have c14 : w.cell? ⟨p, 13, none⟩ = some (.map (some s.bp)) := (cell_of h.head 13).trans rfl
  have hsz := h.dok _ (h.pok y hy).2.2.2.2.2
  have hin : ((Lit.string y.dom.data.toList), Value.pointer (some ⟨y.blk, 0, none⟩)) ∈ Pm s.Ps := List.mem_map.2 ⟨y, hy, rfl⟩
  have HIN := Lib.hid hin; have HY := Lib.hid hy
  clear h hin hy
  go_enter Try.func53, Try.ntmps53
  go_wp2_with (at_lookup; refine wpList_look _ rfl _ _ 89 rfl 9 106 str_law Try.underlying89 (pzero _) _ _ _ rfl H.out.prm _ _ rfl (str_key hsz) _ HIN.out ?_)
  go_ret
  exact ⟨y, s.Ps, s.col, rfl, rfl, ⟨HY.out, Or.inl rfl⟩, Cext.refl _ _, H.out, Kp.refl _ _⟩
theorem speer_new (p N : Nat) (s : Sd) (d : ByteArray) (n : Int) (w : World) (h : SIn w p s N) (hd : d ∈ s.D) (hn : ∀ z ∈ s.Ps, z.dom ≠ d) (hps : s.Ps.length ≤ 1000000) :
    Calls Try.prog 53 #[.pointer (some ⟨p, 0, none⟩), .string d, .int .i64 n] w (Speer p N s d n w) := by
  have H := Lib.hid h
  have c3 : w.cell? ⟨p, 3, none⟩ = some (.int .i64 s.c.win) := (cell_of h.head 3).trans rfl
  have c4 : w.cell? ⟨p, 4, none⟩ = some (.int .i64 s.c.rate) := (cell_of h.head 4).trans rfl
  have c5 : w.cell? ⟨p, 5, none⟩ = some (.int .i64 s.c.burst) := (cell_of h.head 5).trans rfl
  have c14 : w.cell? ⟨p, 13, none⟩ = some (.map (some s.bp)) := (cell_of h.head 13).trans rfl
  have hsz := h.dok _ hd
  have lp := lt_of_block h.head
  have hmiss : ∀ q ∈ Pm s.Ps, q.1 ≠ .string d.data.toList := fun q hq => by
    obtain ⟨z, hz, rfl⟩ := List.mem_map.1 hq
    exact dom_ne (hn z hz)
  have HMISS := Lib.hid hmiss; have HD := Lib.hid hd; have HN := Lib.hid hn
  clear h hmiss hd hn
  go_enter Try.func53, Try.ntmps53
  go_wp2_with (at_lookup; refine wpList_miss _ rfl _ _ 89 rfl 9 106 str_law Try.underlying89 (pzero _) _ _ _ rfl H.out.prm _ _ rfl (str_key hsz) HMISS.out ?_)
  go_region_held3 (fun w' => w'.cell? ⟨p, 3, none⟩ = some (.int .i64 s.c.win) ∧ w'.cell? ⟨p, 4, none⟩ = some (.int .i64 s.c.rate) ∧ w'.cell? ⟨p, 5, none⟩ = some (.int .i64 s.c.burst)) (first | exact ⟨c3, c4, c5⟩ | exact ⟨(hkb.cell 3 lp (fun h => h)).trans c3, (hkb.cell 4 lp (fun h => h)).trans c4, (hkb.cell 5 lp (fun h => h)).trans c5⟩ | exact ⟨(hka.cell 3 lp (fun h => h)).trans c3, (hka.cell 4 lp (fun h => h)).trans c4, (hka.cell 5 lp (fun h => h)).trans c5⟩ | exact ⟨((hka.alloc _).cell 3 lp (fun h => h)).trans c3, ((hka.alloc _).cell 4 lp (fun h => h)).trans c4, ((hka.alloc _).cell 5 lp (fun h => h)).trans c5⟩ | exact ⟨((hkb.alloc _).cell 3 lp (fun h => h)).trans c3, ((hkb.alloc _).cell 4 lp (fun h => h)).trans c4, ((hkb.alloc _).cell 5 lp (fun h => h)).trans c5⟩)
    (first | (go_at_call 74; refine (wnew_any _ _).mono ?_; rintro e wa ⟨wb, rfl, hwb, hwc, hka0⟩; have hka := (show Kp (fun _ => False) w _ from by first | exact hkb | exact (Kp.refl _ _).drew).trans hka0) | (go_at_call 68; refine (bnew_any _ _ _ _).mono ?_; rintro e wb' ⟨tb, rfl, htb, htc, hkb0⟩; have hkb := (show Kp (fun _ => False) w _ from by first | exact hka | exact (Kp.refl _ _).drew).trans hkb0))
  have HW := Lib.hid ((hkb0.keep hwc (fun h => h)))
  have HT := Lib.hid (htc)
  have HWT := Lib.hid (show wb ≠ tb from (Nat.ne_of_lt (Nat.lt_of_lt_of_le (lt_of_block hwc) htb)))
  have HLW := Lib.hid (show w.heap.size ≤ wb from hwb)
  have HLT := Lib.hid (show w.heap.size ≤ tb from (Nat.le_trans hka.size htb))
  obtain ⟨wz, hz⟩ : ∃ wz, wz = (wb').alloc (.cells #[.pointer (some ⟨wb, 0, none⟩), .pointer (some ⟨tb, 0, none⟩)] 111) := ⟨_, rfl⟩
  have hkz : Kp (fun _ => False) w wz := by rw [hz]; exact (hkb).alloc _
  have hbz : wz.heap[(wb').heap.size]? = some (.cells #[.pointer (some ⟨wb, 0, none⟩), .pointer (some ⟨tb, 0, none⟩)] 111 (0, 0)) := by rw [hz]; exact heap_new _
  have hwz := (show Kp (fun _ => False) (wb') wz by rw [hz]; exact (by repeat (first | exact Kp.refl _ _ | apply Kp.drew | apply Kp.drewN | refine Kp.setCell ?_ _ _ (Or.inl rfl) | apply Kp.alloc)))
  have HWZ := Lib.hid (hwz.keep HW.out (fun h => h))
  have HTZ := Lib.hid (hwz.keep HT.out (fun h => h))
  have hlz := lt_of_block HW.out
  have hlt := lt_of_block HT.out
  have hsz2 := (hkb).size
  obtain ⟨bz, hbe⟩ : ∃ bz, bz = (wb').heap.size := ⟨_, rfl⟩
  rw [← hz]
  rw [← hbe] at hbz hlz hlt hsz2 ⊢
  have HKZ := Lib.hid hkz; have HBZ := Lib.hid hbz
  have c14z := (hkz.cell 13 lp (fun h => h)).trans c14
  clear hkz hbz hz hwz hbe c3 c4 c5 c14
  clear hka hkb hka0 hkb0 hwb htb hwc htc
  go_wp2_with (at_mapUpdate; refine wpList_put_new _ rfl _ _ _ 89 rfl 9 106 str_law Try.underlying89 _ _ _ rfl (H.out.prm.keep HKZ.out (fun h => h)) (by unfold maxLen; omega) _ _ _ rfl rfl (str_key hsz) HMISS.out ?_; intro w9 hm9 hk9)
  have HM9 := Lib.hid hm9; have HK9 := Lib.hid hk9; clear hm9 hk9
  go_wp2_with fail
  go_ret
  have hbp := H.out.lt s.bp (by rw [H.out.cols.prm]; rfl)
  have hk : Kp (· = s.bp) w w9 := (HKZ.out.mono (fun _ _ h => h.elim)).trans_new HK9.out (fun _ _ h => h)
  refine ⟨⟨bz, wb, tb, d, 1, 0, V s.c.burst, C n⟩, s.Ps ++ [⟨bz, wb, tb, d, 1, 0, V s.c.burst, C n⟩], colP s ⟨bz, wb, tb, d, 1, 0, V s.c.burst, C n⟩, rfl, rfl, ⟨by simp, Or.inr ⟨rfl, HN.out, rfl, rfl, rfl, rfl⟩⟩, ⟨fun k e => ?_, fun k e => ?_⟩, ?_, hk⟩
  · have := H.out.lt k e
    have h1 := HLW.out; have h2 := HLT.out
    simp [colP, show k ≠ bz by omega, show k ≠ wb by omega, show k ≠ tb by omega]
  · have h1 := HLW.out; have h2 := HLT.out
    simp only [colP] at e
    split at e
    · exact Or.inr (by omega)
    split at e
    · exact Or.inr (by omega)
    split at e
    · exact Or.inr (by omega)
    exact Or.inl e
  · refine H.out.addPeer (y := ⟨bz, wb, tb, d, 1, 0, V s.c.burst, C n⟩) hk HD.out HN.out hsz2 HLW.out HLT.out (by simp only; omega) (by simp only; omega) HWT.out HM9.out (HK9.out.keep HBZ.out (show ¬ bz = s.bp by omega)) (HK9.out.keep HWZ.out (show ¬ wb = s.bp by have := HLW.out; omega)) (HK9.out.keep HTZ.out (show ¬ tb = s.bp by have := HLT.out; omega)) ⟨⟨V8_hi _, Int.le_refl 1, V8_lo _, Int.le_refl 0, (by decide : (0 : Int) ≤ 1)⟩, ?_, Int.le_refl _, C_lo _, C_hi _⟩
    have := V_lo s.c.burst; simp only; omega
end Go.Proofs.Ytbiahndpfbmoeaa

/- What stays of a scheduler while a part of it is written. No condition. -/
namespace Go.Proofs.Ytbiahndpfbmoeaa
open Go.RowKit Go.Maps SatAid Go.MapKept Go.ChangeMaps Go.WideShapes

structure Kept (w' : World) (p : Nat) (s : Sd) (P : Nat × (Int × Int) × ByteArray → Prop) : Prop where
  head : ¬ P cHead → w'.heap[p]? = some (.cells (Hd s) 93 (0, 0))
  loc : ¬ P cLoc → Own w' 9 1 s.c.lv s.c.L.length (Sc s.c.L)
  bym : ¬ P cBy → MapAt w' Try.prog 95 s.bm s.Ws.length (Wm s.Ws)
  prm : ¬ P cPeers → MapAt w' Try.prog 9 s.bp s.Ps.length (Pm s.Ps)
  rgm : ¬ P cRings → MapAt w' Try.prog 4 s.br 2 (Rm s.r0 s.r1)
  rg0 : ¬ P (cRing false) → ¬ P (cNames false) → RgAt w' s.r0 s.v0 s.A0
  rg1 : ¬ P (cRing true) → ¬ P (cNames true) → RgAt w' s.r1 s.v1 s.A1
  gng : ¬ P cGoing → Own w' 95 2 s.vg s.G.length (Gc s.G)
  wts : ∀ x ∈ s.Ws, ¬ P (cWait (x.id, x.rc)) → w'.heap[x.blk]? = some (.cells (Wc x) 99 (0, 0))
  prb : ∀ y ∈ s.Ps, ¬ P (cPeer y.dom) → w'.heap[y.blk]? = some (.cells #[.pointer (some ⟨y.wb, 0, none⟩), .pointer (some ⟨y.tb, 0, none⟩)] 111 (0, 0))
  prw : ∀ y ∈ s.Ps, ¬ P (cWin y.dom) → w'.heap[y.wb]? = some (.cells (Wd (V8 s.c.win) y.now y.busy) 139 (0, 0))
  prt : ∀ y ∈ s.Ps, ¬ P (cBuck y.dom) → w'.heap[y.tb]? = some (.cells (Bk (V s.c.rate) (V s.c.burst) y.l y.t) 141 (0, 0))
  lt : ∀ k, (s.col k).isSome → k < w'.heap.size
theorem SIn.kept {w w' : World} {p N : Nat} {s : Sd} {S : Nat → Prop} (h : SIn w p s N) (hk : Kp S w w') (P : Nat × (Int × Int) × ByteArray → Prop) (hS : ∀ k c, s.col k = some c → S k → P c) : Kept w' p s P where
  head := fun n => hk.keep h.head (fun e => n (hS _ _ h.cols.head e))
  loc := fun n => h.loc.keep hk (fun k e e2 => n (hS _ _ (h.cols.loc k e) e2))
  bym := fun n => h.bym.keep hk (fun e => n (hS _ _ h.cols.bym e))
  prm := fun n => h.prm.keep hk (fun e => n (hS _ _ h.cols.prm e))
  rgm := fun n => h.rgm.keep hk (fun e => n (hS _ _ h.cols.rgm e))
  rg0 := fun n m => h.rg0.keep hk (fun e => n (hS _ _ h.cols.rg0 e)) (fun k e e2 => m (hS _ _ (h.cols.nm0 k e) e2))
  rg1 := fun n m => h.rg1.keep hk (fun e => n (hS _ _ h.cols.rg1 e)) (fun k e e2 => m (hS _ _ (h.cols.nm1 k e) e2))
  gng := fun n => h.gng.keep hk (fun k e e2 => n (hS _ _ (h.cols.gng k e) e2))
  wts := fun x hx n => hk.keep (h.wts x hx) (fun e => n (hS _ _ (h.cols.wts x hx) e))
  prb := fun y hy n => hk.keep (h.prs y hy).1 (fun e => n (hS _ _ (h.cols.prs y hy).1 e))
  prw := fun y hy n => hk.keep (h.prs y hy).2.1 (fun e => n (hS _ _ (h.cols.prs y hy).2.1 e))
  prt := fun y hy n => hk.keep (h.prs y hy).2.2 (fun e => n (hS _ _ (h.cols.prs y hy).2.2 e))
  lt := fun k e => Nat.lt_of_lt_of_le (h.lt k e) hk.size

/-- from here to there: blocks outside stay, new ones are new -/
structure St (w w' : World) (s s' : Sd) : Prop where
  old : ∀ k, (s.col k).isSome → s'.col k = s.col k
  new : ∀ k, (s'.col k).isSome → (s.col k).isSome ∨ w.heap.size ≤ k
  kp : Kp (fun k => (s.col k).isSome) w w'
theorem St.refl (w : World) (s : Sd) : St w w s s := ⟨fun _ _ => rfl, fun _ e => Or.inl e, Kp.refl _ _⟩
theorem St.trans {w w1 w2 : World} {s s1 s2 : Sd} (h : St w w1 s s1) (g : St w1 w2 s1 s2) : St w w2 s s2 where
  old := fun k e => (g.old k (by rw [h.old k e]; exact e)).trans (h.old k e)
  new := fun k e => by
    rcases g.new k e with e | e
    · exact h.new k e
    · exact Or.inr (Nat.le_trans h.kp.size e)
  kp := h.kp.trans_new g.kp (fun k hk e => by
    rcases h.new k e with e | e
    · exact e
    · omega)
/-- a part of it is written -/
theorem St.of {w w' : World} {s s' : Sd} {S : Nat → Prop} (hk : Kp S w w') (hS : ∀ k, k < w.heap.size → S k → (s.col k).isSome) (hc : s'.col = s.col) : St w w' s s' := ⟨fun k _ => by rw [hc], fun k e => Or.inl (by rw [← hc]; exact e), hk.mono hS⟩
theorem St.calm {w w' w1 : World} {s s' : Sd} (h : St w w' s s') (hk : Kp (fun _ => False) w' w1) : St w w1 s s' := h.trans (St.of hk (fun _ _ h => h.elim) rfl)

theorem nodup_len {α : Type} {l m : List α} (h : l.Pairwise (fun a b => a ≠ b)) (hs : ∀ a ∈ l, a ∈ m) : l.length ≤ m.length := by
  induction l generalizing m with
  | nil => exact Nat.zero_le _
  | cons a l ih =>
    obtain ⟨h1, h2⟩ := List.pairwise_cons.1 h
    obtain ⟨s, t, rfl⟩ := List.append_of_mem (hs a (List.mem_cons_self ..))
    have := ih h2 (m := s ++ t) (fun b hb => by
      have hb' := hs b (List.mem_cons_of_mem _ hb)
      rcases List.mem_append.1 hb' with h | h
      · exact List.mem_append_left _ h
      · rcases List.mem_cons.1 h with h | h
        · exact absurd h.symm (h1 b hb)
        · exact List.mem_append_right _ h)
    simp at this ⊢
    omega
section
variable {w w' : World} {p N : Nat} {s : Sd} {S : Nat → Prop}
theorem SIn.doms (h : SIn w p s N) : s.Ps.Pairwise (fun a b => a.dom ≠ b.dom) := by
  have h1 := (h.prm.keyed str_law).1
  unfold Pm at h1
  rw [List.pairwise_map] at h1
  exact h1.imp (fun {a b} n e => n (by simp only [e]))
theorem SIn.pslen (h : SIn w p s N) : s.Ps.length ≤ s.D.length := by
  have := nodup_len (l := s.Ps.map Pe.dom) (m := s.D) (by rw [List.pairwise_map]; exact h.doms) (fun a ha => by
    obtain ⟨y, hy, rfl⟩ := List.mem_map.1 ha
    exact (h.pok y hy).2.2.2.2.2)
  simpa using this
theorem pw_eq {α β : Type} {f : α → β} {l : List α} (h : l.Pairwise (fun a b => f a ≠ f b)) {a b : α} (ha : a ∈ l) (hb : b ∈ l) (e : f a = f b) : a = b := by
  induction l with
  | nil => cases ha
  | cons c l ih =>
    obtain ⟨h1, h2⟩ := List.pairwise_cons.1 h
    rcases List.mem_cons.1 ha with rfl | ha'
    · rcases List.mem_cons.1 hb with rfl | hb'
      · rfl
      · exact absurd e (h1 b hb')
    · rcases List.mem_cons.1 hb with rfl | hb'
      · exact absurd e.symm (h1 a ha')
      · exact ih h2 ha' hb'
theorem SIn.dom_eq (h : SIn w p s N) {y z : Pe} (hy : y ∈ s.Ps) (hz : z ∈ s.Ps) (e : y.dom = z.dom) : y = z := pw_eq h.doms hy hz e
theorem SIn.keys (h : SIn w p s N) : s.Ws.Pairwise (fun a b => (a.id, a.rc) ≠ (b.id, b.rc)) := by
  have h1 := (h.bym.keyed key_keyed).1
  unfold Wm at h1
  rw [List.pairwise_map] at h1
  exact h1.imp (fun {a b} n e => n (by simp only [Prod.mk.injEq] at e; rw [e.1, e.2]))
theorem SIn.key_eq (h : SIn w p s N) {x z : Wt} (hx : x ∈ s.Ws) (hz : z ∈ s.Ws) (e : (x.id, x.rc) = (z.id, z.rc)) : x = z := pw_eq h.keys hx hz e
theorem SIn.glen (h : SIn w p s N) : s.G.length ≤ s.Ws.length := by
  have := nodup_len (l := s.G) (m := s.Ws.map fun x => (x.id, x.rc)) (List.nodup_iff_pairwise_ne.1 h.gnd) (fun k hk => by
    obtain ⟨x, hx, e, _⟩ := h.gin k hk
    exact List.mem_map.2 ⟨x, hx, e⟩)
  simpa using this

/-- the domain's state is another -/
def Psub (Ps : List Pe) (y' : Pe) : List Pe := Ps.map fun z => if z.dom = y'.dom then y' else z
theorem Psub_mem {Ps : List Pe} {y' z : Pe} (h : z ∈ Psub Ps y') : (z = y' ∧ ∃ u ∈ Ps, u.dom = y'.dom) ∨ (z ∈ Ps ∧ z.dom ≠ y'.dom) := by
  obtain ⟨u, hu, e⟩ := List.mem_map.1 h
  split at e
  · rename_i h'; exact Or.inl ⟨e.symm, u, hu, h'⟩
  · rename_i h'; subst e; exact Or.inr ⟨hu, h'⟩
theorem Psub_in {Ps : List Pe} {y y' : Pe} (hy : y ∈ Ps) (e : y.dom = y'.dom) : y' ∈ Psub Ps y' := List.mem_map.2 ⟨y, hy, by rw [if_pos e]⟩
theorem SIn.setPeer (h : SIn w p s N) {y y' : Pe} (hy : y ∈ s.Ps) (e1 : y'.blk = y.blk) (e2 : y'.wb = y.wb) (e3 : y'.tb = y.tb) (e4 : y'.dom = y.dom) (hk : Kp (fun k => k = y.wb ∨ k = y.tb) w w')
    (b2 : w'.heap[y.wb]? = some (.cells (Wd (V8 s.c.win) y'.now y'.busy) 139 (0, 0))) (b3 : w'.heap[y.tb]? = some (.cells (Bk (V s.c.rate) (V s.c.burst) y'.l y'.t) 141 (0, 0)))
    (hok : WOk (V8 s.c.win) y'.now y'.busy ∧ 0 ≤ y'.l ∧ y'.l ≤ V s.c.burst ∧ 0 ≤ y'.t ∧ y'.t ≤ 1099511627776) : SIn w' p { s with Ps := Psub s.Ps y' } N ∧ St w w' s { s with Ps := Psub s.Ps y' } := by
  obtain ⟨cy1, cy2, cy3⟩ := h.cols.prs y hy
  have K := h.kept hk (fun c => c = cWin y.dom ∨ c = cBuck y.dom) (fun k c hc e => by
    rcases e with rfl | rfl
    · rw [cy2] at hc; exact Or.inl (Option.some.inj hc).symm
    · rw [cy3] at hc; exact Or.inr (Option.some.inj hc).symm)
  have hPm : Pm (Psub s.Ps y') = Pm s.Ps := by
    unfold Pm Psub
    rw [List.map_map]
    refine List.map_congr_left fun z hz => ?_
    simp only [Function.comp]
    split
    · rename_i hd
      obtain rfl := h.dom_eq hz hy (hd.trans e4)
      rw [e1, e4]
    · rfl
  refine ⟨⟨⟨h.cols.head, h.cols.bym, h.cols.prm, h.cols.rgm, h.cols.rg0, h.cols.rg1, h.cols.nm0, h.cols.nm1, h.cols.gng, h.cols.loc, h.cols.wts, fun z hz => ?_⟩, K.lt, K.head (by intro h; first | exact Nat.ne_of_beq_eq_false rfl (congrArg Prod.fst h) | (rcases h with h | h <;> exact Nat.ne_of_beq_eq_false rfl (congrArg Prod.fst h))), K.loc (by intro h; first | exact Nat.ne_of_beq_eq_false rfl (congrArg Prod.fst h) | (rcases h with h | h <;> exact Nat.ne_of_beq_eq_false rfl (congrArg Prod.fst h))), K.bym (by intro h; first | exact Nat.ne_of_beq_eq_false rfl (congrArg Prod.fst h) | (rcases h with h | h <;> exact Nat.ne_of_beq_eq_false rfl (congrArg Prod.fst h))), ?_, K.rgm (by intro h; first | exact Nat.ne_of_beq_eq_false rfl (congrArg Prod.fst h) | (rcases h with h | h <;> exact Nat.ne_of_beq_eq_false rfl (congrArg Prod.fst h))), K.rg0 (by intro h; first | exact Nat.ne_of_beq_eq_false rfl (congrArg Prod.fst h) | (rcases h with h | h <;> exact Nat.ne_of_beq_eq_false rfl (congrArg Prod.fst h))) (by intro h; first | exact Nat.ne_of_beq_eq_false rfl (congrArg Prod.fst h) | (rcases h with h | h <;> exact Nat.ne_of_beq_eq_false rfl (congrArg Prod.fst h))), K.rg1 (by intro h; first | exact Nat.ne_of_beq_eq_false rfl (congrArg Prod.fst h) | (rcases h with h | h <;> exact Nat.ne_of_beq_eq_false rfl (congrArg Prod.fst h))) (by intro h; first | exact Nat.ne_of_beq_eq_false rfl (congrArg Prod.fst h) | (rcases h with h | h <;> exact Nat.ne_of_beq_eq_false rfl (congrArg Prod.fst h))), K.gng (by intro h; first | exact Nat.ne_of_beq_eq_false rfl (congrArg Prod.fst h) | (rcases h with h | h <;> exact Nat.ne_of_beq_eq_false rfl (congrArg Prod.fst h))), fun x hx => K.wts x hx (by intro h; first | exact Nat.ne_of_beq_eq_false rfl (congrArg Prod.fst h) | (rcases h with h | h <;> exact Nat.ne_of_beq_eq_false rfl (congrArg Prod.fst h))), fun z hz => ?_, h.wfs, fun z hz => ?_, h.dok, h.gin, h.gnd, h.ll, h.lw, h.ld, h.l0, h.l1⟩, St.of hk (fun k _ e => ?_) rfl⟩
  · rcases Psub_mem hz with ⟨rfl, _⟩ | ⟨hz, _⟩
    · rw [e1, e2, e3, e4]; exact h.cols.prs y hy
    · exact h.cols.prs z hz
  · show MapAt w' Try.prog 9 s.bp (Psub s.Ps y').length (Pm (Psub s.Ps y'))
    rw [hPm, show (Psub s.Ps y').length = s.Ps.length by simp [Psub]]
    exact K.prm (by intro h; first | exact Nat.ne_of_beq_eq_false rfl (congrArg Prod.fst h) | (rcases h with h | h <;> exact Nat.ne_of_beq_eq_false rfl (congrArg Prod.fst h)))
  · rcases Psub_mem hz with ⟨rfl, _⟩ | ⟨hz, hne⟩
    · rw [e1, e2, e3]; exact ⟨K.prb y hy (by intro h; first | exact Nat.ne_of_beq_eq_false rfl (congrArg Prod.fst h) | (rcases h with h | h <;> exact Nat.ne_of_beq_eq_false rfl (congrArg Prod.fst h))), b2, b3⟩
    · rw [e4] at hne
      exact ⟨K.prb z hz (by intro h; first | exact Nat.ne_of_beq_eq_false rfl (congrArg Prod.fst h) | (rcases h with h | h <;> exact Nat.ne_of_beq_eq_false rfl (congrArg Prod.fst h))), K.prw z hz (by simp [cWin, cBuck, hne]), K.prt z hz (by simp [cWin, cBuck, hne])⟩
  · rcases Psub_mem hz with ⟨rfl, _⟩ | ⟨hz, _⟩
    · exact ⟨hok.1, hok.2.1, hok.2.2.1, hok.2.2.2.1, hok.2.2.2.2, by rw [e4]; exact (h.pok y hy).2.2.2.2.2⟩
    · exact h.pok z hz
  · rcases e with rfl | rfl
    · rw [cy2]; rfl
    · rw [cy3]; rfl

/-- a ring is another -/
def colN (s : Sd) (v' : Value) (c : Nat × (Int × Int) × ByteArray) : Nat → Option (Nat × (Int × Int) × ByteArray) := fun k => if v'.ownBlock = some k then some c else s.col k
theorem SIn.setRing0 (h : SIn w p s N) {v' : Value} {A' : List ByteArray} {M : Nat} (hNM : N ≤ M) (hr : RgAt w' s.r0 v' A') (hsn : SameOrNew w s.v0 v') (hk : Kp (fun k => k = s.r0 ∨ In s.v0 k) w w') (hl : A'.length ≤ M) :
    SIn w' p { s with v0 := v', A0 := A', col := colN s v' (cNames false) } M ∧ St w w' s { s with v0 := v', A0 := A', col := colN s v' (cNames false) } := by
  have hc : ∀ k, (s.col k).isSome → colN s v' (cNames false) k = s.col k := fun k e => by
    unfold colN
    split
    · rename_i h1
      rcases hsn with h2 | h2
      · rw [h2] at h1; exact (h.cols.nm0 k h1).symm
      · have := h2 k h1; have := h.lt k e; omega
    · rfl
  have K := h.kept hk (fun c => c = cRing false ∨ c = cNames false) (fun k c hc e => by
    rcases e with rfl | e
    · rw [h.cols.rg0] at hc; exact Or.inl (Option.some.inj hc).symm
    · rw [h.cols.nm0 k e] at hc; exact Or.inr (Option.some.inj hc).symm)
  have hC := h.cols.keep hc
  refine ⟨⟨⟨hC.head, hC.bym, hC.prm, hC.rgm, hC.rg0, hC.rg1, fun k e => ?_, hC.nm1, hC.gng, hC.loc, hC.wts, hC.prs⟩, fun k e => ?_, K.head (by intro h; first | exact Nat.ne_of_beq_eq_false rfl (congrArg Prod.fst h) | (rcases h with h | h <;> exact Nat.ne_of_beq_eq_false rfl (congrArg Prod.fst h))), K.loc (by intro h; first | exact Nat.ne_of_beq_eq_false rfl (congrArg Prod.fst h) | (rcases h with h | h <;> exact Nat.ne_of_beq_eq_false rfl (congrArg Prod.fst h))), K.bym (by intro h; first | exact Nat.ne_of_beq_eq_false rfl (congrArg Prod.fst h) | (rcases h with h | h <;> exact Nat.ne_of_beq_eq_false rfl (congrArg Prod.fst h))), K.prm (by intro h; first | exact Nat.ne_of_beq_eq_false rfl (congrArg Prod.fst h) | (rcases h with h | h <;> exact Nat.ne_of_beq_eq_false rfl (congrArg Prod.fst h))), K.rgm (by intro h; first | exact Nat.ne_of_beq_eq_false rfl (congrArg Prod.fst h) | (rcases h with h | h <;> exact Nat.ne_of_beq_eq_false rfl (congrArg Prod.fst h))), hr, K.rg1 (by intro h; first | exact Nat.ne_of_beq_eq_false rfl (congrArg Prod.fst h) | (rcases h with h | h <;> exact Nat.ne_of_beq_eq_false rfl (congrArg Prod.fst h))) (by intro h; first | exact Nat.ne_of_beq_eq_false rfl (congrArg Prod.fst h) | (rcases h with h | h <;> exact Nat.ne_of_beq_eq_false rfl (congrArg Prod.fst h))), K.gng (by intro h; first | exact Nat.ne_of_beq_eq_false rfl (congrArg Prod.fst h) | (rcases h with h | h <;> exact Nat.ne_of_beq_eq_false rfl (congrArg Prod.fst h))), fun x hx => K.wts x hx (by intro h; first | exact Nat.ne_of_beq_eq_false rfl (congrArg Prod.fst h) | (rcases h with h | h <;> exact Nat.ne_of_beq_eq_false rfl (congrArg Prod.fst h))), fun z hz => ⟨K.prb z hz (by intro h; first | exact Nat.ne_of_beq_eq_false rfl (congrArg Prod.fst h) | (rcases h with h | h <;> exact Nat.ne_of_beq_eq_false rfl (congrArg Prod.fst h))), K.prw z hz (by intro h; first | exact Nat.ne_of_beq_eq_false rfl (congrArg Prod.fst h) | (rcases h with h | h <;> exact Nat.ne_of_beq_eq_false rfl (congrArg Prod.fst h))), K.prt z hz (by intro h; first | exact Nat.ne_of_beq_eq_false rfl (congrArg Prod.fst h) | (rcases h with h | h <;> exact Nat.ne_of_beq_eq_false rfl (congrArg Prod.fst h)))⟩, h.wfs, h.pok, h.dok, h.gin, h.gnd, Nat.le_trans h.ll hNM, Nat.le_trans h.lw hNM, Nat.le_trans h.ld hNM, hl, Nat.le_trans h.l1 hNM⟩,
    ⟨hc, fun k e => ?_, hk.mono (fun k _ e => ?_)⟩⟩
  · show colN s v' (cNames false) k = some (cNames false)
    unfold colN; rw [if_pos e]
  · have e' : (colN s v' (cNames false) k).isSome := e
    unfold colN at e'
    split at e'
    · rename_i h1; exact hr.row.lt h1
    · exact K.lt k e'
  · have e' : (colN s v' (cNames false) k).isSome := e
    unfold colN at e'
    split at e'
    · rename_i h1
      rcases hsn with h2 | h2
      · rw [h2] at h1; rw [h.cols.nm0 k h1]; exact Or.inl rfl
      · exact Or.inr (h2 k h1)
    · exact Or.inl e'
  · rcases e with rfl | e
    · rw [h.cols.rg0]; rfl
    · rw [h.cols.nm0 k e]; rfl
theorem SIn.setRing1 (h : SIn w p s N) {v' : Value} {A' : List ByteArray} {M : Nat} (hNM : N ≤ M) (hr : RgAt w' s.r1 v' A') (hsn : SameOrNew w s.v1 v') (hk : Kp (fun k => k = s.r1 ∨ In s.v1 k) w w') (hl : A'.length ≤ M) :
    SIn w' p { s with v1 := v', A1 := A', col := colN s v' (cNames true) } M ∧ St w w' s { s with v1 := v', A1 := A', col := colN s v' (cNames true) } := by
  have hc : ∀ k, (s.col k).isSome → colN s v' (cNames true) k = s.col k := fun k e => by
    unfold colN
    split
    · rename_i h1
      rcases hsn with h2 | h2
      · rw [h2] at h1; exact (h.cols.nm1 k h1).symm
      · have := h2 k h1; have := h.lt k e; omega
    · rfl
  have K := h.kept hk (fun c => c = cRing true ∨ c = cNames true) (fun k c hc e => by
    rcases e with rfl | e
    · rw [h.cols.rg1] at hc; exact Or.inl (Option.some.inj hc).symm
    · rw [h.cols.nm1 k e] at hc; exact Or.inr (Option.some.inj hc).symm)
  have hC := h.cols.keep hc
  refine ⟨⟨⟨hC.head, hC.bym, hC.prm, hC.rgm, hC.rg0, hC.rg1, hC.nm0, fun k e => ?_, hC.gng, hC.loc, hC.wts, hC.prs⟩, fun k e => ?_, K.head (by intro h; first | exact Nat.ne_of_beq_eq_false rfl (congrArg Prod.fst h) | (rcases h with h | h <;> exact Nat.ne_of_beq_eq_false rfl (congrArg Prod.fst h))), K.loc (by intro h; first | exact Nat.ne_of_beq_eq_false rfl (congrArg Prod.fst h) | (rcases h with h | h <;> exact Nat.ne_of_beq_eq_false rfl (congrArg Prod.fst h))), K.bym (by intro h; first | exact Nat.ne_of_beq_eq_false rfl (congrArg Prod.fst h) | (rcases h with h | h <;> exact Nat.ne_of_beq_eq_false rfl (congrArg Prod.fst h))), K.prm (by intro h; first | exact Nat.ne_of_beq_eq_false rfl (congrArg Prod.fst h) | (rcases h with h | h <;> exact Nat.ne_of_beq_eq_false rfl (congrArg Prod.fst h))), K.rgm (by intro h; first | exact Nat.ne_of_beq_eq_false rfl (congrArg Prod.fst h) | (rcases h with h | h <;> exact Nat.ne_of_beq_eq_false rfl (congrArg Prod.fst h))), K.rg0 (by intro h; first | exact Nat.ne_of_beq_eq_false rfl (congrArg Prod.fst h) | (rcases h with h | h <;> exact Nat.ne_of_beq_eq_false rfl (congrArg Prod.fst h))) (by intro h; first | exact Nat.ne_of_beq_eq_false rfl (congrArg Prod.fst h) | (rcases h with h | h <;> exact Nat.ne_of_beq_eq_false rfl (congrArg Prod.fst h))), hr, K.gng (by intro h; first | exact Nat.ne_of_beq_eq_false rfl (congrArg Prod.fst h) | (rcases h with h | h <;> exact Nat.ne_of_beq_eq_false rfl (congrArg Prod.fst h))), fun x hx => K.wts x hx (by intro h; first | exact Nat.ne_of_beq_eq_false rfl (congrArg Prod.fst h) | (rcases h with h | h <;> exact Nat.ne_of_beq_eq_false rfl (congrArg Prod.fst h))), fun z hz => ⟨K.prb z hz (by intro h; first | exact Nat.ne_of_beq_eq_false rfl (congrArg Prod.fst h) | (rcases h with h | h <;> exact Nat.ne_of_beq_eq_false rfl (congrArg Prod.fst h))), K.prw z hz (by intro h; first | exact Nat.ne_of_beq_eq_false rfl (congrArg Prod.fst h) | (rcases h with h | h <;> exact Nat.ne_of_beq_eq_false rfl (congrArg Prod.fst h))), K.prt z hz (by intro h; first | exact Nat.ne_of_beq_eq_false rfl (congrArg Prod.fst h) | (rcases h with h | h <;> exact Nat.ne_of_beq_eq_false rfl (congrArg Prod.fst h)))⟩, h.wfs, h.pok, h.dok, h.gin, h.gnd, Nat.le_trans h.ll hNM, Nat.le_trans h.lw hNM, Nat.le_trans h.ld hNM, Nat.le_trans h.l0 hNM, hl⟩,
    ⟨hc, fun k e => ?_, hk.mono (fun k _ e => ?_)⟩⟩
  · show colN s v' (cNames true) k = some (cNames true)
    unfold colN; rw [if_pos e]
  · have e' : (colN s v' (cNames true) k).isSome := e
    unfold colN at e'
    split at e'
    · rename_i h1; exact hr.row.lt h1
    · exact K.lt k e'
  · have e' : (colN s v' (cNames true) k).isSome := e
    unfold colN at e'
    split at e'
    · rename_i h1
      rcases hsn with h2 | h2
      · rw [h2] at h1; rw [h.cols.nm1 k h1]; exact Or.inl rfl
      · exact Or.inr (h2 k h1)
    · exact Or.inl e'
  · rcases e with rfl | e
    · rw [h.cols.rg1]; rfl
    · rw [h.cols.nm1 k e]; rfl
end
end Go.Proofs.Ytbiahndpfbmoeaa

/- What stays of a scheduler while its recipients, what is on its way, and its head are written. No condition. -/
namespace Go.Proofs.Ytbiahndpfbmoeaa
open Go.RowKit Go.Maps SatAid Go.MapKept Go.ChangeMaps Go.WideShapes
section
variable {w w' : World} {p N : Nat} {s : Sd} {S : Nat → Prop}
def colW (s : Sd) (x : Wt) : Nat → Option (Nat × (Int × Int) × ByteArray) := fun k => if k = x.blk then some (cWait (x.id, x.rc)) else s.col k
def addW (s : Sd) (x : Wt) : Sd := { s with Ws := s.Ws ++ [x], D := s.D ++ [x.dom], col := colW s x }
theorem SIn.addWait {x : Wt} (h : SIn w p s N) (hk : Kp (· = s.bm) w w') (hs : x.dom.size ≤ maxLen) (hwf : (Lit.int .i64 x.id).wf = true ∧ (Lit.int .i64 x.rc).wf = true) (h1 : w.heap.size ≤ x.blk)
    (hm : MapAt w' Try.prog 95 s.bm (s.Ws.length + 1) (Wm s.Ws ++ [(Kx x.id x.rc, .pointer (some ⟨x.blk, 0, none⟩))])) (hb : w'.heap[x.blk]? = some (.cells (Wc x) 99 (0, 0))) :
    SIn w' p (addW s x) (N + 1) ∧ St w w' s (addW s x) := by
  have hc : ∀ k, (s.col k).isSome → colW s x k = s.col k := fun k e => by
    have := h.lt k e
    unfold colW
    rw [if_neg (by omega)]
  have K := h.kept hk (fun c => c = cBy) (fun k c hc e => by
    subst e; rw [h.cols.bym] at hc; exact (Option.some.inj hc).symm)
  have hC := h.cols.keep hc
  refine ⟨⟨⟨hC.head, hC.bym, hC.prm, hC.rgm, hC.rg0, hC.rg1, hC.nm0, hC.nm1, hC.gng, hC.loc, fun z hz => ?_, hC.prs⟩, fun k e => ?_, K.head (by intro h; first | exact Nat.ne_of_beq_eq_false rfl (congrArg Prod.fst h) | (rcases h with h | h <;> exact Nat.ne_of_beq_eq_false rfl (congrArg Prod.fst h))), K.loc (by intro h; first | exact Nat.ne_of_beq_eq_false rfl (congrArg Prod.fst h) | (rcases h with h | h <;> exact Nat.ne_of_beq_eq_false rfl (congrArg Prod.fst h))), ?_, K.prm (by intro h; first | exact Nat.ne_of_beq_eq_false rfl (congrArg Prod.fst h) | (rcases h with h | h <;> exact Nat.ne_of_beq_eq_false rfl (congrArg Prod.fst h))), K.rgm (by intro h; first | exact Nat.ne_of_beq_eq_false rfl (congrArg Prod.fst h) | (rcases h with h | h <;> exact Nat.ne_of_beq_eq_false rfl (congrArg Prod.fst h))), K.rg0 (by intro h; first | exact Nat.ne_of_beq_eq_false rfl (congrArg Prod.fst h) | (rcases h with h | h <;> exact Nat.ne_of_beq_eq_false rfl (congrArg Prod.fst h))) (by intro h; first | exact Nat.ne_of_beq_eq_false rfl (congrArg Prod.fst h) | (rcases h with h | h <;> exact Nat.ne_of_beq_eq_false rfl (congrArg Prod.fst h))), K.rg1 (by intro h; first | exact Nat.ne_of_beq_eq_false rfl (congrArg Prod.fst h) | (rcases h with h | h <;> exact Nat.ne_of_beq_eq_false rfl (congrArg Prod.fst h))) (by intro h; first | exact Nat.ne_of_beq_eq_false rfl (congrArg Prod.fst h) | (rcases h with h | h <;> exact Nat.ne_of_beq_eq_false rfl (congrArg Prod.fst h))), K.gng (by intro h; first | exact Nat.ne_of_beq_eq_false rfl (congrArg Prod.fst h) | (rcases h with h | h <;> exact Nat.ne_of_beq_eq_false rfl (congrArg Prod.fst h))), fun z hz => ?_, fun z hz => ⟨K.prb z hz (by intro h; first | exact Nat.ne_of_beq_eq_false rfl (congrArg Prod.fst h) | (rcases h with h | h <;> exact Nat.ne_of_beq_eq_false rfl (congrArg Prod.fst h))), K.prw z hz (by intro h; first | exact Nat.ne_of_beq_eq_false rfl (congrArg Prod.fst h) | (rcases h with h | h <;> exact Nat.ne_of_beq_eq_false rfl (congrArg Prod.fst h))), K.prt z hz (by intro h; first | exact Nat.ne_of_beq_eq_false rfl (congrArg Prod.fst h) | (rcases h with h | h <;> exact Nat.ne_of_beq_eq_false rfl (congrArg Prod.fst h)))⟩, fun z hz => ?_, fun z hz => ?_, fun d hd => ?_, fun k hk => ?_, h.gnd, Nat.le_succ_of_le h.ll, ?_, ?_, Nat.le_succ_of_le h.l0, Nat.le_succ_of_le h.l1⟩, ⟨hc, fun k e => ?_, hk.mono (fun k _ e => ?_)⟩⟩
  · rcases List.mem_append.1 hz with hz | hz
    · exact hC.wts z hz
    · obtain rfl := List.mem_singleton.1 hz
      show colW s z z.blk = _
      unfold colW; rw [if_pos rfl]
  · have e' : (colW s x k).isSome := e
    unfold colW at e'
    split at e'
    · rename_i h1; subst h1; exact lt_of_block hb
    · exact K.lt k e'
  · show MapAt w' Try.prog 95 s.bm (s.Ws ++ [x]).length (Wm (s.Ws ++ [x]))
    rw [List.length_append, show Wm (s.Ws ++ [x]) = Wm s.Ws ++ [(Kx x.id x.rc, .pointer (some ⟨x.blk, 0, none⟩))] by simp [Wm]]
    exact hm
  · rcases List.mem_append.1 hz with hz | hz
    · exact K.wts z hz (by intro h; first | exact Nat.ne_of_beq_eq_false rfl (congrArg Prod.fst h) | (rcases h with h | h <;> exact Nat.ne_of_beq_eq_false rfl (congrArg Prod.fst h)))
    · obtain rfl := List.mem_singleton.1 hz; exact hb
  · rcases List.mem_append.1 hz with hz | hz
    · obtain ⟨a, b, c⟩ := h.wfs z hz
      exact ⟨a, b, List.mem_append_left _ c⟩
    · obtain rfl := List.mem_singleton.1 hz
      exact ⟨hwf.1, hwf.2, List.mem_append_right _ (List.mem_singleton_self _)⟩
  · obtain ⟨a, b, c, d, e, g⟩ := h.pok z hz
    exact ⟨a, b, c, d, e, List.mem_append_left _ g⟩
  · rcases List.mem_append.1 hd with hd | hd
    · exact h.dok d hd
    · obtain rfl := List.mem_singleton.1 hd; exact hs
  · obtain ⟨x', h1, h2, h3⟩ := h.gin k hk
    exact ⟨x', List.mem_append_left _ h1, h2, h3⟩
  · have := h.lw; simp [addW]; omega
  · have := h.ld; simp [addW]; omega
  · have e' : (colW s x k).isSome := e
    unfold colW at e'
    split at e'
    · rename_i h2; subst h2; exact Or.inr h1
    · exact Or.inl e'
  · subst e; rw [h.cols.bym]; rfl

def delW (s : Sd) (k : Int × Int) : Sd := { s with Ws := s.Ws.filter fun z => !decide ((z.id, z.rc) = k) }
theorem wm_filter (h : SIn w p s N) {x : Wt} (hx : x ∈ s.Ws) : (Wm s.Ws).filter (fun q => !q.1.sameKey (Kx x.id x.rc)) = Wm (delW s (x.id, x.rc)).Ws := by
  have hk : ∀ q ∈ Wm s.Ws, WideAt.IsKeyLit q.1 := (h.bym.keyed key_keyed).2
  unfold Wm delW
  rw [List.filter_map]
  congr 1
  refine List.filter_congr fun z hz => ?_
  simp only [Function.comp]
  congr 1
  obtain ⟨a, b, _⟩ := h.wfs z hz
  obtain ⟨c, d, _⟩ := h.wfs x hx
  by_cases e : (z.id, z.rc) = (x.id, x.rc)
  · rw [decide_eq_true e]
    simp only [Prod.mk.injEq] at e
    rw [e.1, e.2]
    exact WideAt.sameKey_self (hk _ (List.mem_map.2 ⟨x, hx, rfl⟩))
  · rw [decide_eq_false e]
    exact same_not (fun e2 => e (by obtain ⟨e3, e4⟩ := key_inj a b c d e2; rw [e3, e4]))
theorem SIn.delWait {x : Wt} (h : SIn w p s N) (hx : x ∈ s.Ws) (hg : (x.id, x.rc) ∉ s.G) (hk : Kp (· = s.bm) w w') (hm : MapAt w' Try.prog 95 s.bm s.Ws.length ((Wm s.Ws).filter (fun q => !q.1.sameKey (Kx x.id x.rc)))) :
    SIn w' p (delW s (x.id, x.rc)) N ∧ St w w' s (delW s (x.id, x.rc)) := by
  have K := h.kept hk (fun c => c = cBy) (fun k c hc e => by
    subst e; rw [h.cols.bym] at hc; exact (Option.some.inj hc).symm)
  have hC := h.cols
  have hm' := hm.tight
  rw [wm_filter h hx] at hm'
  have hsub : ∀ z ∈ (delW s (x.id, x.rc)).Ws, z ∈ s.Ws := fun z hz => (List.mem_filter.1 hz).1
  refine ⟨⟨⟨hC.head, hC.bym, hC.prm, hC.rgm, hC.rg0, hC.rg1, hC.nm0, hC.nm1, hC.gng, hC.loc, fun z hz => hC.wts z (hsub z hz), hC.prs⟩, K.lt, K.head (by intro h; first | exact Nat.ne_of_beq_eq_false rfl (congrArg Prod.fst h) | (rcases h with h | h <;> exact Nat.ne_of_beq_eq_false rfl (congrArg Prod.fst h))), K.loc (by intro h; first | exact Nat.ne_of_beq_eq_false rfl (congrArg Prod.fst h) | (rcases h with h | h <;> exact Nat.ne_of_beq_eq_false rfl (congrArg Prod.fst h))), ?_, K.prm (by intro h; first | exact Nat.ne_of_beq_eq_false rfl (congrArg Prod.fst h) | (rcases h with h | h <;> exact Nat.ne_of_beq_eq_false rfl (congrArg Prod.fst h))), K.rgm (by intro h; first | exact Nat.ne_of_beq_eq_false rfl (congrArg Prod.fst h) | (rcases h with h | h <;> exact Nat.ne_of_beq_eq_false rfl (congrArg Prod.fst h))), K.rg0 (by intro h; first | exact Nat.ne_of_beq_eq_false rfl (congrArg Prod.fst h) | (rcases h with h | h <;> exact Nat.ne_of_beq_eq_false rfl (congrArg Prod.fst h))) (by intro h; first | exact Nat.ne_of_beq_eq_false rfl (congrArg Prod.fst h) | (rcases h with h | h <;> exact Nat.ne_of_beq_eq_false rfl (congrArg Prod.fst h))), K.rg1 (by intro h; first | exact Nat.ne_of_beq_eq_false rfl (congrArg Prod.fst h) | (rcases h with h | h <;> exact Nat.ne_of_beq_eq_false rfl (congrArg Prod.fst h))) (by intro h; first | exact Nat.ne_of_beq_eq_false rfl (congrArg Prod.fst h) | (rcases h with h | h <;> exact Nat.ne_of_beq_eq_false rfl (congrArg Prod.fst h))), K.gng (by intro h; first | exact Nat.ne_of_beq_eq_false rfl (congrArg Prod.fst h) | (rcases h with h | h <;> exact Nat.ne_of_beq_eq_false rfl (congrArg Prod.fst h))), fun z hz => K.wts z (hsub z hz) (by intro h; first | exact Nat.ne_of_beq_eq_false rfl (congrArg Prod.fst h) | (rcases h with h | h <;> exact Nat.ne_of_beq_eq_false rfl (congrArg Prod.fst h))), fun z hz => ⟨K.prb z hz (by intro h; first | exact Nat.ne_of_beq_eq_false rfl (congrArg Prod.fst h) | (rcases h with h | h <;> exact Nat.ne_of_beq_eq_false rfl (congrArg Prod.fst h))), K.prw z hz (by intro h; first | exact Nat.ne_of_beq_eq_false rfl (congrArg Prod.fst h) | (rcases h with h | h <;> exact Nat.ne_of_beq_eq_false rfl (congrArg Prod.fst h))), K.prt z hz (by intro h; first | exact Nat.ne_of_beq_eq_false rfl (congrArg Prod.fst h) | (rcases h with h | h <;> exact Nat.ne_of_beq_eq_false rfl (congrArg Prod.fst h)))⟩, fun z hz => h.wfs z (hsub z hz), h.pok, h.dok, fun k hk => ?_, h.gnd, h.ll, ?_, h.ld, h.l0, h.l1⟩, St.of hk (fun k _ e => by subst e; rw [hC.bym]; rfl) rfl⟩
  · have e : (Wm (delW s (x.id, x.rc)).Ws).length = (delW s (x.id, x.rc)).Ws.length := by unfold Wm; rw [List.length_map]
    rw [e] at hm'
    exact hm'
  · obtain ⟨x', h1, h2, h3⟩ := h.gin k hk
    refine ⟨x', List.mem_filter.2 ⟨h1, ?_⟩, h2, h3⟩
    have : ¬ (x'.id, x'.rc) = (x.id, x.rc) := fun e => hg (by rw [← e, h2]; exact hk)
    simp only [decide_eq_false this, Bool.not_false]
  · exact Nat.le_trans (List.length_filter_le _ _) h.lw

def setW (s : Sd) (x' : Wt) : Sd := { s with Ws := s.Ws.map fun z => if (z.id, z.rc) = (x'.id, x'.rc) then x' else z }
theorem setW_mem {x' z : Wt} (h : z ∈ (setW s x').Ws) : (z = x' ∧ ∃ u ∈ s.Ws, (u.id, u.rc) = (x'.id, x'.rc)) ∨ (z ∈ s.Ws ∧ (z.id, z.rc) ≠ (x'.id, x'.rc)) := by
  obtain ⟨u, hu, e⟩ := List.mem_map.1 h
  split at e
  · rename_i h'; exact Or.inl ⟨e.symm, u, hu, h'⟩
  · rename_i h'; subst e; exact Or.inr ⟨hu, h'⟩
/-- what x turns to -/
def Go1 (x : Wt) (g : Bool) (n : Int) : Wt := { x with go := g, nx := n }
theorem SIn.setWait {x : Wt} {g : Bool} {n : Int} (h : SIn w p s N) (hx : x ∈ s.Ws) (hg : g = false → (x.id, x.rc) ∉ s.G) (hk : Kp (· = x.blk) w w') (hb : w'.heap[x.blk]? = some (.cells (Wc (Go1 x g n)) 99 (0, 0))) :
    SIn w' p (setW s (Go1 x g n)) N ∧ St w w' s (setW s (Go1 x g n)) := by
  have cx := h.cols.wts x hx
  have K := h.kept hk (fun c => c = cWait (x.id, x.rc)) (fun k c hc e => by
    subst e; rw [cx] at hc; exact (Option.some.inj hc).symm)
  have hC := h.cols
  have hWm : Wm (setW s (Go1 x g n)).Ws = Wm s.Ws := by
    unfold Wm setW
    rw [List.map_map]
    refine List.map_congr_left fun z hz => ?_
    simp only [Function.comp]
    split
    · rename_i hd
      obtain rfl := h.key_eq hz hx hd
      rfl
    · rfl
  refine ⟨⟨⟨hC.head, hC.bym, hC.prm, hC.rgm, hC.rg0, hC.rg1, hC.nm0, hC.nm1, hC.gng, hC.loc, fun z hz => ?_, hC.prs⟩, K.lt, K.head (by intro h; first | exact Nat.ne_of_beq_eq_false rfl (congrArg Prod.fst h) | (rcases h with h | h <;> exact Nat.ne_of_beq_eq_false rfl (congrArg Prod.fst h))), K.loc (by intro h; first | exact Nat.ne_of_beq_eq_false rfl (congrArg Prod.fst h) | (rcases h with h | h <;> exact Nat.ne_of_beq_eq_false rfl (congrArg Prod.fst h))), ?_, K.prm (by intro h; first | exact Nat.ne_of_beq_eq_false rfl (congrArg Prod.fst h) | (rcases h with h | h <;> exact Nat.ne_of_beq_eq_false rfl (congrArg Prod.fst h))), K.rgm (by intro h; first | exact Nat.ne_of_beq_eq_false rfl (congrArg Prod.fst h) | (rcases h with h | h <;> exact Nat.ne_of_beq_eq_false rfl (congrArg Prod.fst h))), K.rg0 (by intro h; first | exact Nat.ne_of_beq_eq_false rfl (congrArg Prod.fst h) | (rcases h with h | h <;> exact Nat.ne_of_beq_eq_false rfl (congrArg Prod.fst h))) (by intro h; first | exact Nat.ne_of_beq_eq_false rfl (congrArg Prod.fst h) | (rcases h with h | h <;> exact Nat.ne_of_beq_eq_false rfl (congrArg Prod.fst h))), K.rg1 (by intro h; first | exact Nat.ne_of_beq_eq_false rfl (congrArg Prod.fst h) | (rcases h with h | h <;> exact Nat.ne_of_beq_eq_false rfl (congrArg Prod.fst h))) (by intro h; first | exact Nat.ne_of_beq_eq_false rfl (congrArg Prod.fst h) | (rcases h with h | h <;> exact Nat.ne_of_beq_eq_false rfl (congrArg Prod.fst h))), K.gng (by intro h; first | exact Nat.ne_of_beq_eq_false rfl (congrArg Prod.fst h) | (rcases h with h | h <;> exact Nat.ne_of_beq_eq_false rfl (congrArg Prod.fst h))), fun z hz => ?_, fun z hz => ⟨K.prb z hz (by intro h; first | exact Nat.ne_of_beq_eq_false rfl (congrArg Prod.fst h) | (rcases h with h | h <;> exact Nat.ne_of_beq_eq_false rfl (congrArg Prod.fst h))), K.prw z hz (by intro h; first | exact Nat.ne_of_beq_eq_false rfl (congrArg Prod.fst h) | (rcases h with h | h <;> exact Nat.ne_of_beq_eq_false rfl (congrArg Prod.fst h))), K.prt z hz (by intro h; first | exact Nat.ne_of_beq_eq_false rfl (congrArg Prod.fst h) | (rcases h with h | h <;> exact Nat.ne_of_beq_eq_false rfl (congrArg Prod.fst h)))⟩, fun z hz => ?_, h.pok, h.dok, fun k hk => ?_, h.gnd, h.ll, ?_, h.ld, h.l0, h.l1⟩, St.of hk (fun k _ e => by subst e; rw [cx]; rfl) rfl⟩
  · rcases setW_mem hz with ⟨rfl, _⟩ | ⟨hz, _⟩
    · exact cx
    · exact hC.wts z hz
  · show MapAt w' Try.prog 95 s.bm (setW s (Go1 x g n)).Ws.length (Wm (setW s (Go1 x g n)).Ws)
    rw [hWm, show (setW s (Go1 x g n)).Ws.length = s.Ws.length by simp [setW]]
    exact K.bym (by intro h; first | exact Nat.ne_of_beq_eq_false rfl (congrArg Prod.fst h) | (rcases h with h | h <;> exact Nat.ne_of_beq_eq_false rfl (congrArg Prod.fst h)))
  · rcases setW_mem hz with ⟨rfl, _⟩ | ⟨hz, hne⟩
    · exact hb
    · exact K.wts z hz (fun e => hne (congrArg (fun c => c.2.1) e))
  · rcases setW_mem hz with ⟨rfl, _⟩ | ⟨hz, _⟩
    · exact h.wfs x hx
    · exact h.wfs z hz
  · obtain ⟨x', h1, h2, h3⟩ := h.gin k hk
    by_cases e : (x'.id, x'.rc) = (x.id, x.rc)
    · refine ⟨Go1 x g n, List.mem_map.2 ⟨x', h1, by rw [if_pos]; exact e⟩, e.symm.trans h2, ?_⟩
      cases g with
      | true => rfl
      | false => exact absurd (by rw [← e, h2]; exact hk) (hg rfl)
    · exact ⟨x', List.mem_map.2 ⟨x', h1, by rw [if_neg]; exact e⟩, h2, h3⟩
  · simp [setW]; exact h.lw

/-- what is on its way, and who was last -/
def setG (s : Sd) (vg : Value) (G : List (Int × Int)) : Sd := { s with vg := vg, G := G, col := colN s vg cGoing }
theorem SIn.setGoing {vg : Value} {G : List (Int × Int)} (h : SIn w p s N) (hh : w'.heap[p]? = some (.cells (Hd (setG s vg G)) 93 (0, 0))) (hr : Own w' 95 2 vg G.length (Gc G)) (hsn : SameOrNew w s.vg vg) (hk : Kp (fun k => k = p ∨ In s.vg k) w w')
    (hin : ∀ k ∈ G, ∃ x ∈ s.Ws, (x.id, x.rc) = k ∧ x.go = true) (hnd : G.Nodup) : SIn w' p (setG s vg G) N ∧ St w w' s (setG s vg G) := by
  have hc : ∀ k, (s.col k).isSome → colN s vg cGoing k = s.col k := fun k e => by
    unfold colN
    split
    · rename_i h1
      rcases hsn with h2 | h2
      · rw [h2] at h1; exact (h.cols.gng k h1).symm
      · have := h2 k h1; have := h.lt k e; omega
    · rfl
  have K := h.kept hk (fun c => c = cHead ∨ c = cGoing) (fun k c hc e => by
    rcases e with rfl | e
    · rw [h.cols.head] at hc; exact Or.inl (Option.some.inj hc).symm
    · rw [h.cols.gng k e] at hc; exact Or.inr (Option.some.inj hc).symm)
  have hC := h.cols.keep hc
  refine ⟨⟨⟨hC.head, hC.bym, hC.prm, hC.rgm, hC.rg0, hC.rg1, hC.nm0, hC.nm1, fun k e => ?_, hC.loc, hC.wts, hC.prs⟩, fun k e => ?_, hh, K.loc (by intro h; first | exact Nat.ne_of_beq_eq_false rfl (congrArg Prod.fst h) | (rcases h with h | h <;> exact Nat.ne_of_beq_eq_false rfl (congrArg Prod.fst h))), K.bym (by intro h; first | exact Nat.ne_of_beq_eq_false rfl (congrArg Prod.fst h) | (rcases h with h | h <;> exact Nat.ne_of_beq_eq_false rfl (congrArg Prod.fst h))), K.prm (by intro h; first | exact Nat.ne_of_beq_eq_false rfl (congrArg Prod.fst h) | (rcases h with h | h <;> exact Nat.ne_of_beq_eq_false rfl (congrArg Prod.fst h))), K.rgm (by intro h; first | exact Nat.ne_of_beq_eq_false rfl (congrArg Prod.fst h) | (rcases h with h | h <;> exact Nat.ne_of_beq_eq_false rfl (congrArg Prod.fst h))), K.rg0 (by intro h; first | exact Nat.ne_of_beq_eq_false rfl (congrArg Prod.fst h) | (rcases h with h | h <;> exact Nat.ne_of_beq_eq_false rfl (congrArg Prod.fst h))) (by intro h; first | exact Nat.ne_of_beq_eq_false rfl (congrArg Prod.fst h) | (rcases h with h | h <;> exact Nat.ne_of_beq_eq_false rfl (congrArg Prod.fst h))), K.rg1 (by intro h; first | exact Nat.ne_of_beq_eq_false rfl (congrArg Prod.fst h) | (rcases h with h | h <;> exact Nat.ne_of_beq_eq_false rfl (congrArg Prod.fst h))) (by intro h; first | exact Nat.ne_of_beq_eq_false rfl (congrArg Prod.fst h) | (rcases h with h | h <;> exact Nat.ne_of_beq_eq_false rfl (congrArg Prod.fst h))), hr, fun x hx => K.wts x hx (by intro h; first | exact Nat.ne_of_beq_eq_false rfl (congrArg Prod.fst h) | (rcases h with h | h <;> exact Nat.ne_of_beq_eq_false rfl (congrArg Prod.fst h))), fun z hz => ⟨K.prb z hz (by intro h; first | exact Nat.ne_of_beq_eq_false rfl (congrArg Prod.fst h) | (rcases h with h | h <;> exact Nat.ne_of_beq_eq_false rfl (congrArg Prod.fst h))), K.prw z hz (by intro h; first | exact Nat.ne_of_beq_eq_false rfl (congrArg Prod.fst h) | (rcases h with h | h <;> exact Nat.ne_of_beq_eq_false rfl (congrArg Prod.fst h))), K.prt z hz (by intro h; first | exact Nat.ne_of_beq_eq_false rfl (congrArg Prod.fst h) | (rcases h with h | h <;> exact Nat.ne_of_beq_eq_false rfl (congrArg Prod.fst h)))⟩, h.wfs, h.pok, h.dok, hin, hnd, h.ll, h.lw, h.ld, h.l0, h.l1⟩,
    ⟨hc, fun k e => ?_, hk.mono (fun k _ e => ?_)⟩⟩
  · show colN s vg cGoing k = some cGoing
    have e2 : vg.ownBlock = some k := e
    unfold colN; rw [if_pos e2]
  · have e' : (colN s vg cGoing k).isSome := e
    unfold colN at e'
    split at e'
    · rename_i h1; exact hr.lt h1
    · exact K.lt k e'
  · have e' : (colN s vg cGoing k).isSome := e
    unfold colN at e'
    split at e'
    · rename_i h1
      rcases hsn with h2 | h2
      · rw [h2] at h1; rw [h.cols.gng k h1]; exact Or.inl rfl
      · exact Or.inr (h2 k h1)
    · exact Or.inl e'
  · rcases e with rfl | e
    · rw [h.cols.head]; rfl
    · rw [h.cols.gng k e]; rfl
theorem SIn.setLast {l : Bool} (h : SIn w p s N) (hk : Kp (· = p) w w') (hh : w'.heap[p]? = some (.cells (Hd { s with last := l }) 93 (0, 0))) : SIn w' p { s with last := l } N ∧ St w w' s { s with last := l } := by
  have K := h.kept hk (fun c => c = cHead) (fun k c hc e => by
    subst e; rw [h.cols.head] at hc; exact (Option.some.inj hc).symm)
  have hC := h.cols
  exact ⟨⟨⟨hC.head, hC.bym, hC.prm, hC.rgm, hC.rg0, hC.rg1, hC.nm0, hC.nm1, hC.gng, hC.loc, hC.wts, hC.prs⟩, K.lt, hh, K.loc (by intro h; first | exact Nat.ne_of_beq_eq_false rfl (congrArg Prod.fst h) | (rcases h with h | h <;> exact Nat.ne_of_beq_eq_false rfl (congrArg Prod.fst h))), K.bym (by intro h; first | exact Nat.ne_of_beq_eq_false rfl (congrArg Prod.fst h) | (rcases h with h | h <;> exact Nat.ne_of_beq_eq_false rfl (congrArg Prod.fst h))), K.prm (by intro h; first | exact Nat.ne_of_beq_eq_false rfl (congrArg Prod.fst h) | (rcases h with h | h <;> exact Nat.ne_of_beq_eq_false rfl (congrArg Prod.fst h))), K.rgm (by intro h; first | exact Nat.ne_of_beq_eq_false rfl (congrArg Prod.fst h) | (rcases h with h | h <;> exact Nat.ne_of_beq_eq_false rfl (congrArg Prod.fst h))), K.rg0 (by intro h; first | exact Nat.ne_of_beq_eq_false rfl (congrArg Prod.fst h) | (rcases h with h | h <;> exact Nat.ne_of_beq_eq_false rfl (congrArg Prod.fst h))) (by intro h; first | exact Nat.ne_of_beq_eq_false rfl (congrArg Prod.fst h) | (rcases h with h | h <;> exact Nat.ne_of_beq_eq_false rfl (congrArg Prod.fst h))), K.rg1 (by intro h; first | exact Nat.ne_of_beq_eq_false rfl (congrArg Prod.fst h) | (rcases h with h | h <;> exact Nat.ne_of_beq_eq_false rfl (congrArg Prod.fst h))) (by intro h; first | exact Nat.ne_of_beq_eq_false rfl (congrArg Prod.fst h) | (rcases h with h | h <;> exact Nat.ne_of_beq_eq_false rfl (congrArg Prod.fst h))), K.gng (by intro h; first | exact Nat.ne_of_beq_eq_false rfl (congrArg Prod.fst h) | (rcases h with h | h <;> exact Nat.ne_of_beq_eq_false rfl (congrArg Prod.fst h))), fun x hx => K.wts x hx (by intro h; first | exact Nat.ne_of_beq_eq_false rfl (congrArg Prod.fst h) | (rcases h with h | h <;> exact Nat.ne_of_beq_eq_false rfl (congrArg Prod.fst h))), fun z hz => ⟨K.prb z hz (by intro h; first | exact Nat.ne_of_beq_eq_false rfl (congrArg Prod.fst h) | (rcases h with h | h <;> exact Nat.ne_of_beq_eq_false rfl (congrArg Prod.fst h))), K.prw z hz (by intro h; first | exact Nat.ne_of_beq_eq_false rfl (congrArg Prod.fst h) | (rcases h with h | h <;> exact Nat.ne_of_beq_eq_false rfl (congrArg Prod.fst h))), K.prt z hz (by intro h; first | exact Nat.ne_of_beq_eq_false rfl (congrArg Prod.fst h) | (rcases h with h | h <;> exact Nat.ne_of_beq_eq_false rfl (congrArg Prod.fst h)))⟩, h.wfs, h.pok, h.dok, h.gin, h.gnd, h.ll, h.lw, h.ld, h.l0, h.l1⟩, St.of hk (fun k _ e => by subst e; rw [hC.head]; rfl) rfl⟩
end
end Go.Proofs.Ytbiahndpfbmoeaa
