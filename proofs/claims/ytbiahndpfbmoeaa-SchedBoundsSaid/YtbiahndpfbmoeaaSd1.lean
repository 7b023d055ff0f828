/- What a scheduler holds in memory. No condition. -/
import Derived.Test.YtbiahndpfbmoeaaSd0
import Derived.Test.YtbiahndpfbmoeaaRing3
import Derived.Test.YtbiahndpfbmoeaaWindow
import Derived.Test.YtbiahndpfbmoeaaBucketRefC
namespace Go.Proofs.Ytbiahndpfbmoeaa
open Go.RowKit Go.Maps SatAid

/-- a recipient, and where it lies -/
structure Wt where
  blk : Nat
  id : Int
  rc : Int
  snd : ByteArray
  dom : ByteArray
  loc : Bool
  go : Bool
  nx : Int
/-- a domain, and where it lies -/
structure Pe where
  blk : Nat
  wb : Nat
  tb : Nat
  dom : ByteArray
  now : Int
  busy : Int
  l : Int
  t : Int
/-- a configuration -/
structure Cf where
  host : ByteArray
  lv : Value
  L : List ByteArray
  act : Int
  win : Int
  rate : Int
  burst : Int
  base : Int
  cap : Int
  life : Int
  crash : Int
  quota : Int
  size : Int
/-- a scheduler -/
structure Sd where
  c : Cf
  bm : Nat
  bp : Nat
  br : Nat
  r0 : Nat
  r1 : Nat
  v0 : Value
  v1 : Value
  vg : Value
  Ws : List Wt
  Ps : List Pe
  A0 : List ByteArray
  A1 : List ByteArray
  G : List (Int × Int)
  last : Bool
  D : List ByteArray
  col : Nat → Option (Nat × (Int × Int) × ByteArray)

def Cc (c : Cf) : List Value := [.string c.host, c.lv, .int .i64 c.act, .int .i64 c.win, .int .i64 c.rate, .int .i64 c.burst, .int .i64 c.base, .int .i64 c.cap, .int .i64 c.life, .int .i64 c.crash, .int .i64 c.quota, .int .i64 c.size]
def Hd (s : Sd) : Array Value := #[.string s.c.host, s.c.lv, .int .i64 s.c.act, .int .i64 s.c.win, .int .i64 s.c.rate, .int .i64 s.c.burst, .int .i64 s.c.base, .int .i64 s.c.cap, .int .i64 s.c.life, .int .i64 s.c.crash, .int .i64 s.c.quota, .int .i64 s.c.size, .map (some s.bm), .map (some s.bp), .map (some s.br), s.vg, .bool s.last]
def Wc (x : Wt) : Array Value := #[.int .i64 x.id, .int .i64 x.rc, .string x.snd, .string x.dom, .bool x.loc, .bool x.go, .int .i64 x.nx]
def Wm (Ws : List Wt) : List (Lit × Value) := Ws.map fun x => (Kx x.id x.rc, .pointer (some ⟨x.blk, 0, none⟩))
def Pm (Ps : List Pe) : List (Lit × Value) := Ps.map fun y => (.string y.dom.data.toList, .pointer (some ⟨y.blk, 0, none⟩))
def Rm (r0 r1 : Nat) : List (Lit × Value) := [(.bool false, .pointer (some ⟨r0, 0, none⟩)), (.bool true, .pointer (some ⟨r1, 0, none⟩))]
def Gc (G : List (Int × Int)) : List Value := G.flatMap fun k => [.int .i64 k.1, .int .i64 k.2]
theorem Gc_len (G : List (Int × Int)) : (Gc G).length = G.length * 2 := by
  induction G with
  | nil => rfl
  | cons x r ih => unfold Gc at *; rw [List.flatMap_cons, List.length_append, ih]; simp; omega
theorem Gc_one (G : List (Int × Int)) : ∀ u ∈ Gc G, u.oneCell' = true := by
  intro u hu
  obtain ⟨x, _, hx⟩ := List.mem_flatMap.1 hu
  simp at hx
  rcases hx with rfl | rfl <;> rfl
theorem Gc_app (S T : List (Int × Int)) : Gc (S ++ T) = Gc S ++ Gc T := by unfold Gc; rw [List.flatMap_append]
theorem Gc_get {S : List (Int × Int)} {i : Nat} {x : Int × Int} (h : S[i]? = some x) : (Gc S)[i * 2]? = some (.int .i64 x.1) ∧ (Gc S)[i * 2 + 1]? = some (.int .i64 x.2) := by
  induction S generalizing i with
  | nil => simp at h
  | cons y r ih =>
    have e : Gc (y :: r) = .int .i64 y.1 :: .int .i64 y.2 :: Gc r := rfl
    rw [e]
    cases i with
    | zero => simp at h; subst h; exact ⟨rfl, rfl⟩
    | succ i =>
      have h' : r[i]? = some x := by simpa using h
      have e1 : (i + 1) * 2 = i * 2 + 1 + 1 := by omega
      rw [e1]
      simp only [List.getElem?_cons_succ]
      exact ih h'

/-- the colours -/
def cHead : Nat × (Int × Int) × ByteArray := (0, (0, 0), ByteArray.empty)
def cBy : Nat × (Int × Int) × ByteArray := (1, (0, 0), ByteArray.empty)
def cPeers : Nat × (Int × Int) × ByteArray := (2, (0, 0), ByteArray.empty)
def cRings : Nat × (Int × Int) × ByteArray := (3, (0, 0), ByteArray.empty)
def cRing (b : Bool) : Nat × (Int × Int) × ByteArray := (if b then 5 else 4, (0, 0), ByteArray.empty)
def cNames (b : Bool) : Nat × (Int × Int) × ByteArray := (if b then 7 else 6, (0, 0), ByteArray.empty)
def cGoing : Nat × (Int × Int) × ByteArray := (8, (0, 0), ByteArray.empty)
def cLoc : Nat × (Int × Int) × ByteArray := (9, (0, 0), ByteArray.empty)
def cWait (k : Int × Int) : Nat × (Int × Int) × ByteArray := (10, k, ByteArray.empty)
def cPeer (d : ByteArray) : Nat × (Int × Int) × ByteArray := (11, (0, 0), d)
def cWin (d : ByteArray) : Nat × (Int × Int) × ByteArray := (12, (0, 0), d)
def cBuck (d : ByteArray) : Nat × (Int × Int) × ByteArray := (13, (0, 0), d)

/-- which block is what -/
structure Cols (s : Sd) (p : Nat) : Prop where
  head : s.col p = some cHead
  bym : s.col s.bm = some cBy
  prm : s.col s.bp = some cPeers
  rgm : s.col s.br = some cRings
  rg0 : s.col s.r0 = some (cRing false)
  rg1 : s.col s.r1 = some (cRing true)
  nm0 : ∀ k, s.v0.ownBlock = some k → s.col k = some (cNames false)
  nm1 : ∀ k, s.v1.ownBlock = some k → s.col k = some (cNames true)
  gng : ∀ k, s.vg.ownBlock = some k → s.col k = some cGoing
  loc : ∀ k, s.c.lv.ownBlock = some k → s.col k = some cLoc
  wts : ∀ x ∈ s.Ws, s.col x.blk = some (cWait (x.id, x.rc))
  prs : ∀ y ∈ s.Ps, s.col y.blk = some (cPeer y.dom) ∧ s.col y.wb = some (cWin y.dom) ∧ s.col y.tb = some (cBuck y.dom)

/-- block p is a scheduler -/
structure SIn (w : World) (p : Nat) (s : Sd) (N : Nat) : Prop where
  cols : Cols s p
  lt : ∀ k, (s.col k).isSome → k < w.heap.size
  head : w.heap[p]? = some (.cells (Hd s) 93 (0, 0))
  loc : Own w 9 1 s.c.lv s.c.L.length (Sc s.c.L)
  bym : MapAt w Try.prog 95 s.bm s.Ws.length (Wm s.Ws)
  prm : MapAt w Try.prog 9 s.bp s.Ps.length (Pm s.Ps)
  rgm : MapAt w Try.prog 4 s.br 2 (Rm s.r0 s.r1)
  rg0 : RgAt w s.r0 s.v0 s.A0
  rg1 : RgAt w s.r1 s.v1 s.A1
  gng : Own w 95 2 s.vg s.G.length (Gc s.G)
  wts : ∀ x ∈ s.Ws, w.heap[x.blk]? = some (.cells (Wc x) 99 (0, 0))
  prs : ∀ y ∈ s.Ps, w.heap[y.blk]? = some (.cells #[.pointer (some ⟨y.wb, 0, none⟩), .pointer (some ⟨y.tb, 0, none⟩)] 111 (0, 0)) ∧
    w.heap[y.wb]? = some (.cells (Wd (V8 s.c.win) y.now y.busy) 139 (0, 0)) ∧ w.heap[y.tb]? = some (.cells (Bk (V s.c.rate) (V s.c.burst) y.l y.t) 141 (0, 0))
  wfs : ∀ x ∈ s.Ws, (Lit.int .i64 x.id).wf = true ∧ (Lit.int .i64 x.rc).wf = true ∧ x.dom ∈ s.D
  pok : ∀ y ∈ s.Ps, WOk (V8 s.c.win) y.now y.busy ∧ 0 ≤ y.l ∧ y.l ≤ V s.c.burst ∧ 0 ≤ y.t ∧ y.t ≤ 1099511627776 ∧ y.dom ∈ s.D
  dok : ∀ d ∈ s.D, d.size ≤ maxLen
  gin : ∀ k ∈ s.G, ∃ x ∈ s.Ws, (x.id, x.rc) = k ∧ x.go = true
  gnd : s.G.Nodup
  ll : s.c.L.length ≤ N
  lw : s.Ws.length ≤ N
  ld : s.D.length ≤ N
  l0 : s.A0.length ≤ N
  l1 : s.A1.length ≤ N
section
variable {w w' : World} {p N : Nat} {s : Sd} {S : Nat → Prop}
theorem Cols.keep {col' : Nat → Option (Nat × (Int × Int) × ByteArray)} (h : Cols s p) (he : ∀ k, (s.col k).isSome → col' k = s.col k) : Cols { s with col := col' } p where
  head := (he _ (by rw [h.head]; rfl)).trans h.head
  bym := (he _ (by rw [h.bym]; rfl)).trans h.bym
  prm := (he _ (by rw [h.prm]; rfl)).trans h.prm
  rgm := (he _ (by rw [h.rgm]; rfl)).trans h.rgm
  rg0 := (he _ (by rw [h.rg0]; rfl)).trans h.rg0
  rg1 := (he _ (by rw [h.rg1]; rfl)).trans h.rg1
  nm0 := fun k e => (he _ (by rw [h.nm0 k e]; rfl)).trans (h.nm0 k e)
  nm1 := fun k e => (he _ (by rw [h.nm1 k e]; rfl)).trans (h.nm1 k e)
  gng := fun k e => (he _ (by rw [h.gng k e]; rfl)).trans (h.gng k e)
  loc := fun k e => (he _ (by rw [h.loc k e]; rfl)).trans (h.loc k e)
  wts := fun x e => (he _ (by rw [h.wts x e]; rfl)).trans (h.wts x e)
  prs := fun y e => ⟨(he _ (by rw [(h.prs y e).1]; rfl)).trans (h.prs y e).1, (he _ (by rw [(h.prs y e).2.1]; rfl)).trans (h.prs y e).2.1, (he _ (by rw [(h.prs y e).2.2]; rfl)).trans (h.prs y e).2.2⟩
/-- nothing of it is written -/
theorem SIn.keep (h : SIn w p s N) (hk : Kp S w w') (hs : ∀ k, (s.col k).isSome → ¬ S k) : SIn w' p s N where
  cols := h.cols
  lt := fun k e => Nat.lt_of_lt_of_le (h.lt k e) hk.size
  head := hk.keep h.head (hs _ (by rw [h.cols.head]; rfl))
  loc := h.loc.keep hk (fun k e => hs _ (by rw [h.cols.loc k e]; rfl))
  bym := h.bym.keep hk (hs _ (by rw [h.cols.bym]; rfl))
  prm := h.prm.keep hk (hs _ (by rw [h.cols.prm]; rfl))
  rgm := h.rgm.keep hk (hs _ (by rw [h.cols.rgm]; rfl))
  rg0 := h.rg0.keep hk (hs _ (by rw [h.cols.rg0]; rfl)) (fun k e => hs _ (by rw [h.cols.nm0 k e]; rfl))
  rg1 := h.rg1.keep hk (hs _ (by rw [h.cols.rg1]; rfl)) (fun k e => hs _ (by rw [h.cols.nm1 k e]; rfl))
  gng := h.gng.keep hk (fun k e => hs _ (by rw [h.cols.gng k e]; rfl))
  wts := fun x e => hk.keep (h.wts x e) (hs _ (by rw [h.cols.wts x e]; rfl))
  prs := fun y e => ⟨hk.keep (h.prs y e).1 (hs _ (by rw [(h.cols.prs y e).1]; rfl)), hk.keep (h.prs y e).2.1 (hs _ (by rw [(h.cols.prs y e).2.1]; rfl)), hk.keep (h.prs y e).2.2 (hs _ (by rw [(h.cols.prs y e).2.2]; rfl))⟩
  wfs := h.wfs
  pok := h.pok
  dok := h.dok
  gin := h.gin
  gnd := h.gnd
  ll := h.ll
  lw := h.lw
  ld := h.ld
  l0 := h.l0
  l1 := h.l1
end
end Go.Proofs.Ytbiahndpfbmoeaa
