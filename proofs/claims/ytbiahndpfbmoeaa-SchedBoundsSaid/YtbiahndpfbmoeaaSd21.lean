/- A scheduler of one's own, spoken of by what it holds. Condition: there are no more recipients than fit into memory. -/
import Derived.Test.YtbiahndpfbmoeaaSd20
import Derived.Test.YtbiahndpfbmoeaaRingFair
namespace Go.Proofs.Ytbiahndpfbmoeaa
open Go.RowKit Go.Maps SatAid Go.MapKept Go.ChangeMaps Go.WideShapes

/-- a scheduler that was made since W -/
structure SI (W w : World) (p : Nat) (s : Sd) (N : Nat) : Prop where
  si : SIn w p s N
  fresh : ∀ k, (s.col k).isSome → W.heap.size ≤ k
  kp : Kp (fun _ => False) W w
section
variable {W w w' : World} {p N N' : Nat} {s s' : Sd}
theorem SI.next (h : SI W w p s N) (hi : SIn w' p s' N') (ht : St w w' s s') : SI W w' p s' N' :=
  ⟨hi, fun k e => (ht.new k e).elim (h.fresh k) (fun e2 => Nat.le_trans h.kp.size e2), h.kp.trans_new ht.kp (fun k h1 e => by have := h.fresh k e; omega)⟩
theorem SI.calm (h : SI W w p s N) (hk : Kp (fun _ => False) w w') : SI W w' p s N := ⟨h.si.keep hk (fun _ _ h => h), h.fresh, h.kp.trans hk⟩
theorem SI.upon {S : Nat → Prop} (h : SI W w p s N) (hk : Kp S w w') (hS : ∀ k, S k → W.heap.size ≤ k ∧ s.col k = none) : SI W w' p s N :=
  ⟨h.si.keep hk (fun k e e2 => by rw [(hS k e2).2] at e; cases e), h.fresh, h.kp.trans_new hk (fun k h1 e => by have := (hS k e).1; omega)⟩
end

/-- may a domain begin one? -/
def fr (s : Sd) (now : Int) (d : ByteArray) : Bool := decide (vB s d < vN s d) && decide (0 < vT s now d)
def rdA (f : ByteArray → Bool) (loc : Bool) (now : Int) (x : Wx) : Bool := decide (x.loc = loc) && (!x.go && (decide (x.nx ≤ now) && f x.dom))
theorem rdy_wx (s : Sd) (loc : Bool) (now : Int) (x : Wt) : rdy s loc now x = rdA (fr s now) loc now (wx x) := rfl
def rsA (A : Ab) (f : ByteArray → Bool) (loc : Bool) (now : Int) : List ByteArray := (A.W.filter (rdA f loc now)).map Wx.snd
def rgB (A : Ab) (loc : Bool) : List ByteArray := if loc then A.A1 else A.A0
theorem rsn_wx (s : Sd) (loc : Bool) (now : Int) : rsn s loc now = rsA (ab s) (fr s now) loc now := by
  unfold rsn rsA ab
  rw [List.filter_map, List.map_map]
  rfl
theorem rgA_wx (s : Sd) (loc : Bool) : rgA s loc = rgB (ab s) loc := rfl
/-- has a transport one that may begin? -/
def PkA (A : Ab) (f : ByteArray → Bool) (now : Int) (loc : Bool) : Prop := Fx (rsA A f loc now) (rgB A loc) < (rgB A loc).length
instance (A : Ab) (f : ByteArray → Bool) (now : Int) (loc : Bool) : Decidable (PkA A f now loc) := by unfold PkA; infer_instance
def LcA (A : Ab) (f : ByteArray → Bool) (now : Int) : Bool := if PkA A f now (!A.last) then !A.last else A.last
def FiA (A : Ab) (f : ByteArray → Bool) (now : Int) : Nat := Fx (rsA A f (LcA A f now) now) (rgB A (LcA A f now))
structure BestA (A : Ab) (f : ByteArray → Bool) (now : Int) (x : Wx) : Prop where
  mem : x ∈ A.W
  rd : rdA f (LcA A f now) now x = true
  sd : x.snd = (rgB A (LcA A f now)).getD (FiA A f now) ByteArray.empty
  le : ∀ z ∈ A.W, rdA f (LcA A f now) now z = true → z.snd = x.snd → ¬ (z.id < x.id ∨ z.id = x.id ∧ z.rc < x.rc)
theorem pk_wx (s : Sd) (now : Int) (loc : Bool) : pk s now loc ↔ PkA (ab s) (fr s now) now loc := by
  unfold pk PkA
  rw [rsn_wx, rgA_wx]
theorem pkl_wx (s : Sd) (now : Int) : pkl s now = LcA (ab s) (fr s now) now := by
  unfold pkl LcA
  by_cases h : pk s now (!s.last)
  · have h2 : PkA (ab s) (fr s now) now (!(ab s).last) := (pk_wx _ _ _).1 h
    rw [if_pos h, if_pos h2]; rfl
  · have h2 : ¬ PkA (ab s) (fr s now) now (!(ab s).last) := fun h2 => h ((pk_wx _ _ _).2 h2)
    rw [if_neg h, if_neg h2]; rfl
/-- every sender that waits stands in a ring -/
def InvA (A : Ab) : Prop := ∀ x ∈ A.W, x.snd ∈ rgB A x.loc
theorem pk_iff {A : Ab} {f : ByteArray → Bool} {now : Int} {loc : Bool} (h : InvA A) : PkA A f now loc ↔ ∃ x ∈ A.W, rdA f loc now x = true := by
  constructor
  · intro hp
    have h1 := Fx_has hp
    rw [Has_mem] at h1
    obtain ⟨x, hx, _⟩ := List.mem_map.1 h1
    exact ⟨x, (List.mem_filter.1 hx).1, (List.mem_filter.1 hx).2⟩
  · rintro ⟨x, hx, hr⟩
    have hl : x.loc = loc := by unfold rdA at hr; simp only [Bool.and_eq_true, decide_eq_true_eq] at hr; exact hr.1
    have h1 : Has x.snd (rsA A f loc now) = true := (Has_mem _ _).2 (List.mem_map.2 ⟨x, List.mem_filter.2 ⟨hx, hr⟩, rfl⟩)
    have h2 : Has x.snd (rgB A loc) = true := (Has_mem _ _).2 (hl ▸ h x hx)
    exact Nat.lt_of_le_of_lt (Fx_le_Ix h1 _) (Has_ix h2)
theorem rd_loc {f : ByteArray → Bool} {loc : Bool} {now : Int} {x : Wx} (h : rdA f loc now x = true) : x.loc = loc := by
  unfold rdA at h; simp only [Bool.and_eq_true, decide_eq_true_eq] at h; exact h.1
/-- one may begin -/
def AnyA (A : Ab) (f : ByteArray → Bool) (now : Int) : Prop := ∃ x ∈ A.W, rdA f x.loc now x = true
theorem any_iff {A : Ab} {f : ByteArray → Bool} {now : Int} (h : InvA A) : (PkA A f now (!A.last) ∨ PkA A f now A.last) ↔ AnyA A f now := by
  rw [pk_iff h, pk_iff h]
  constructor
  · rintro (⟨x, hx, hr⟩ | ⟨x, hx, hr⟩)
    · exact ⟨x, hx, (rd_loc hr).symm ▸ hr⟩
    · exact ⟨x, hx, (rd_loc hr).symm ▸ hr⟩
  · rintro ⟨x, hx, hr⟩
    by_cases e : x.loc = A.last
    · exact Or.inr ⟨x, hx, e ▸ hr⟩
    · have e2 : x.loc = !A.last := by cases h1 : x.loc <;> cases h2 : A.last <;> simp_all
      exact Or.inl ⟨x, hx, e2 ▸ hr⟩
theorem fi_lt {A : Ab} {f : ByteArray → Bool} {now : Int} (h : PkA A f now (!A.last) ∨ PkA A f now A.last) : FiA A f now < (rgB A (LcA A f now)).length := by
  unfold FiA
  have : PkA A f now (LcA A f now) := by
    unfold LcA
    split
    · rename_i h1; exact h1
    · rename_i h1; exact h.resolve_left h1
  exact this

/-- Pick -/
def PickA (W w : World) (p N : Nat) (s : Sd) (now : Int) (e : Ending) (w' : World) : Prop :=
  (¬ AnyA (ab s) (fr s now) now → e = .returned (.tuple #[z3, .bool false]) ∧ ∃ s', SI W w' p s' N ∧ St w w' s s' ∧ ab s' = ab s ∧ Vq now s s' ∧ s'.D = s.D) ∧
  (AnyA (ab s) (fr s now) now → ∃ x s', BestA (ab s) (fr s now) now x ∧ FiA (ab s) (fr s now) now < (rgB (ab s) (LcA (ab s) (fr s now) now)).length ∧ e = .returned (.tuple #[.agg #[.int .i64 x.id, .int .i64 x.rc, .string x.dom], .bool true]) ∧ SI W w' p s' N ∧ St w w' s s' ∧
    ab s' = aBegin (ab s) (LcA (ab s) (fr s now) now) (FiA (ab s) (fr s now) now) (x.id, x.rc) ∧ Vb now x.dom s s' ∧ s'.D = s.D)
theorem pickA {W w : World} {p N : Nat} {s : Sd} {n now : Int} (h : SI W w p s N) (hv : InvA (ab s)) (ht : Tik s now) (hC : C n = now) (hN : N ≤ 1000000) :
    Calls Try.prog 30 #[.pointer (some ⟨p, 0, none⟩), .int .i64 n] w (PickA W w p N s now) := by
  refine (spick_any p N s n now w h.si ht hC hN).mono ?_
  rintro e w' ⟨h1, h2⟩
  have e1 : s.last = (ab s).last := rfl
  rw [pk_wx, pk_wx, e1] at h1 h2
  refine ⟨fun hn => ?_, fun hy => ?_⟩
  · obtain ⟨r1, s', r2, r3, r4, r5, r6⟩ := h1 ⟨fun h => hn ((any_iff hv).1 (Or.inl h)), fun h => hn ((any_iff hv).1 (Or.inr h))⟩
    exact ⟨r1, s', h.next r2 r3, r3, r4, r5, r6⟩
  · have hy' := (any_iff hv).2 hy
    obtain ⟨m, s', r1, r2, r3, r4, r5, r6, r7⟩ := h2 hy'
    rw [pkl_wx, rsn_wx, rgA_wx] at r1 r5
    have eF : Fx (rsA (ab s) (fr s now) (LcA (ab s) (fr s now) now) now) (rgB (ab s) (LcA (ab s) (fr s now) now)) = FiA (ab s) (fr s now) now := rfl
    rw [eF] at r1 r5
    refine ⟨wx m, s', ⟨List.mem_map.2 ⟨m, r1.mem, rfl⟩, r1.rd, r1.sd, fun z hz h3 h4 => ?_⟩, fi_lt hy', r2, h.next r3 r4, r4, r5, r6, r7⟩
    obtain ⟨z', hz', rfl⟩ := List.mem_map.1 hz
    exact (Le2_nn z' m).1 (r1.le z' hz' h3 (h4.trans r1.sd))
/-- End -/
def EndA (W w : World) (p N : Nat) (s : Sd) (i : Int) (good stays : Bool) (n now : Int) (e : Ending) (w' : World) : Prop :=
  ((i < 0 ∨ ((ab s).G.length : Int) ≤ i) → e = .returned (.tuple #[z3, .bool false]) ∧ SI W w' p s N ∧ Kp (fun _ => False) w w') ∧
  ((0 ≤ i ∧ i < ((ab s).G.length : Int)) → ∃ x s', x ∈ (ab s).W ∧ (ab s).G[i.toNat]? = some (x.id, x.rc) ∧ e = .returned (.tuple #[.agg #[.int .i64 x.id, .int .i64 x.rc, .string x.dom], .bool true]) ∧ SI W w' p s' N ∧ St w w' s s' ∧
    ab s' = aEnd (ab s) i.toNat x stays (C n) ∧ Ve now x.dom good s s')
theorem endA {W w : World} {p N : Nat} {s : Sd} {i n now : Int} {good stays : Bool} (h : SI W w p s N) (ht : Tik s now) (hn : 0 ≤ now) (hn2 : now ≤ 1099511627776) (hN : N ≤ 1000000) :
    Calls Try.prog 32 #[.pointer (some ⟨p, 0, none⟩), .int .i64 i, .bool good, .bool stays, .int .i64 n] w (EndA W w p N s i good stays n now) := by
  refine (send_any p N s i good stays n now w h.si ht hn hn2 hN).mono ?_
  rintro e w' ⟨h1, h2⟩
  refine ⟨fun hi => ?_, fun hi => ?_⟩
  · obtain ⟨r1, r2⟩ := h1 hi
    exact ⟨r1, h.calm r2, r2⟩
  · obtain ⟨x, s', r1, r2, r3, r4, r5, r6, r7⟩ := h2 hi
    exact ⟨wx x, s', List.mem_map.2 ⟨x, r1, rfl⟩, r2, r3, h.next r4 r5, r5, r6, r7⟩
/-- Put -/
def PutA (W w : World) (p N : Nat) (s : Sd) (x : Wx) (e : Ending) (w' : World) : Prop :=
  ((∃ z ∈ (ab s).W, (z.id, z.rc) = (x.id, x.rc)) → e = .returned (.bool false) ∧ SI W w' p s N ∧ Kp (fun _ => False) w w') ∧
  ((¬ ∃ z ∈ (ab s).W, (z.id, z.rc) = (x.id, x.rc)) → e = .returned (.bool true) ∧ ∃ s', SI W w' p s' (N + 1) ∧ St w w' s s' ∧ ab s' = aPut (ab s) x ∧ s'.Ps = s.Ps)
theorem putA {W w : World} {p N : Nat} {s : Sd} (id rc n : Int) (a b : ByteArray) (h : SI W w p s N) (h1 : (Lit.int .i64 id).wf = true) (h2 : (Lit.int .i64 rc).wf = true) (hb : b.size ≤ maxLen) (hN : N ≤ 1000000) :
    Calls Try.prog 25 #[.pointer (some ⟨p, 0, none⟩), .int .i64 id, .int .i64 rc, .string a, .string b, .int .i64 n] w (PutA W w p N s ⟨id, rc, a, b, Has b s.c.L, false, C n⟩) := by
  refine (sput_any p N s id rc n a b w h.si h1 h2 hb hN).mono ?_
  rintro e w' ⟨h1, h2⟩
  refine ⟨fun hi => ?_, fun hi => ?_⟩
  · obtain ⟨r1, r2⟩ := h1 hi
    exact ⟨r1, h.calm r2, r2⟩
  · obtain ⟨r1, s', r2, r3, r4, r5⟩ := h2 hi
    exact ⟨r1, s', h.next r2 r3, r3, r4, r5⟩
def NewA (W : World) (c : Cf) (e : Ending) (w' : World) : Prop :=
  ∃ p s, e = .returned (.pointer (some ⟨p, 0, none⟩)) ∧ SI W w' p s c.L.length ∧ ab s = ⟨{ c with lv := s.c.lv }, [], [], [], [], false⟩ ∧ s.Ps = []
theorem newA (c : Cf) (ao : Option Addr) (cap : Nat) (W w : World) (hk : Kp (fun _ => False) W w) (hlv : c.lv = .slice ao c.L.length cap) (hs : SRd w ao c.L) (hL : c.L.length ≤ 1000000) (hnone : ao = none → cap = 0) :
    Calls Try.prog 24 #[.agg (Cc c).toArray] w (NewA W c) := by
  refine (snew_any c ao cap w hlv hs hL hnone).mono ?_
  rintro e w' ⟨p, bm, bp, br, r0, r1, lv, rfl, h1, h2, h3⟩
  exact ⟨p, _, rfl, ⟨h1, fun k e => Nat.le_trans hk.size (h2 k e), hk.trans h3⟩, rfl, rfl⟩
end Go.Proofs.Ytbiahndpfbmoeaa
