/- What a scheduler's Pick comes to: the plain side. No condition. -/
import Derived.Test.YtbiahndpfbmoeaaSd14
import Derived.Laws.ResultCell
namespace Go.Proofs.Ytbiahndpfbmoeaa
open Go.RowKit Go.Maps SatAid Go.MapKept Go.ChangeMaps Go.WideShapes

/-- has a transport one that may begin, and whose turn comes? -/
def pk (s : Sd) (now : Int) (loc : Bool) : Prop := Fx (rsn s loc now) (rgA s loc) < (rgA s loc).length
instance (s : Sd) (now : Int) (loc : Bool) : Decidable (pk s now loc) := by unfold pk; infer_instance
def aTurn (A : Ab) (loc : Bool) (i : Nat) : Ab := if loc then { A with A1 := Turn i A.A1 } else { A with A0 := Turn i A.A0 }
def aGo (A : Ab) (k : Int × Int) (g : Bool) (n : Int → Int) : Ab := { A with W := A.W.map fun z => if (z.id, z.rc) = k then { z with go := g, nx := n z.nx } else z }
/-- one begins -/
def aBegin (A : Ab) (loc : Bool) (i : Nat) (k : Int × Int) : Ab := { aGo (aTurn A loc i) k true (fun n => n) with G := A.G ++ [k], last := loc }
/-- one domain has begun one more -/
structure Vb (now : Int) (d0 : ByteArray) (s s' : Sd) : Prop where
  n : ∀ d, vN s' d = vN s d
  b : ∀ d, vB s' d = if d = d0 then vB s d + 1 else vB s d
  t : ∀ m d, now ≤ m → m ≤ 1099511627776 → vT s' m d = if d = d0 then Lf (V s.c.rate) (V s.c.burst) (vT s now d0 - 1) now m else vT s m d
  le : Tik s' now
theorem ab_setW (s : Sd) (x : Wt) (g : Bool) (n : Int) (hx : x ∈ s.Ws) (hk : ∀ z ∈ s.Ws, (z.id, z.rc) = (x.id, x.rc) → z = x) : ab (setW s (Go1 x g n)) = aGo (ab s) (x.id, x.rc) g (fun _ => n) := by
  unfold ab setW aGo
  simp only [List.map_map]
  congr 1
  refine List.map_congr_left fun z hz => ?_
  simp only [Function.comp]
  by_cases e : (z.id, z.rc) = (x.id, x.rc)
  · have := hk z hz e
    subst this
    rw [if_pos (show (z.id, z.rc) = ((Go1 z g n).id, (Go1 z g n).rc) from rfl), if_pos (show ((wx z).id, (wx z).rc) = (z.id, z.rc) from rfl)]
    rfl
  · rw [if_neg (show ¬ (z.id, z.rc) = ((Go1 x g n).id, (Go1 x g n).rc) from e), if_neg (show ¬ ((wx z).id, (wx z).rc) = (x.id, x.rc) from e)]
theorem aGo_same {A : Ab} {k : Int × Int} {g : Bool} {n0 : Int} (h : ∀ z ∈ A.W, (z.id, z.rc) = k → z.nx = n0) : aGo A k g (fun _ => n0) = aGo A k g (fun n => n) := by
  unfold aGo
  congr 1
  refine List.map_congr_left fun z hz => ?_
  by_cases e : (z.id, z.rc) = k
  · rw [if_pos e, if_pos e, h z hz e]
  · rw [if_neg e, if_neg e]
theorem Vb.begun {s : Sd} {y y' : Pe} {now : Int} (hp : s.Ps.Pairwise (fun a b => a.dom ≠ b.dom)) (hy : y ∈ s.Ps) (e4 : y'.dom = y.dom) (e1 : y'.now = y.now) (e2 : y'.busy = y.busy + 1) (e3 : y'.l = vT s now y.dom - 1) (e5 : y'.t = now) (ht : Tik s now) : Vb now y.dom s { s with Ps := Psub s.Ps y' } := by
  have hf := fun d => fp_sub (d := d) hp (y' := y') ⟨y, hy, e4.symm⟩
  rw [e4] at hf
  refine ⟨fun d => ?_, fun d => ?_, fun m d h1 h2 => ?_, fun z hz => ?_⟩
  · unfold vN; simp only [hf]
    by_cases e : d = y.dom
    · subst e; rw [fp_eq hp hy, if_pos rfl]; exact e1
    · rw [if_neg e]
  · by_cases e : d = y.dom
    · subst e
      unfold vB; simp only [hf]; rw [fp_eq hp hy]; simp only [if_true]; exact e2
    · unfold vB; simp only [hf]; rw [if_neg e, if_neg e]
  · by_cases e : d = y.dom
    · subst e
      rw [if_pos rfl]
      unfold vT at e3 ⊢
      simp only [hf, if_true]
      rw [e3, e5]
    · rw [if_neg e]
      unfold vT; simp only [hf]; rw [if_neg e]
  · rcases Psub_mem hz with ⟨rfl, _⟩ | ⟨hz, _⟩
    · rw [e5]; exact Int.le_refl _
    · exact ht z hz
theorem Vb.of_vq {now : Int} {d0 : ByteArray} {s s1 s2 : Sd} (h : Vq now s s1) (g : Vb now d0 s1 s2) (hc : s1.c = s.c) (hn2 : now ≤ 1099511627776) : Vb now d0 s s2 :=
  ⟨fun d => (g.n d).trans (h.n d), fun d => by rw [g.b, h.b], fun m d h1 h2 => by rw [g.t m d h1 h2, h.t now d0 (Int.le_refl _) hn2, h.t m d h1 h2, hc], g.le⟩
theorem Vb.then {now : Int} {d0 : ByteArray} {s s1 s2 : Sd} (h : Vb now d0 s s1) (hp : s2.Ps = s1.Ps) (hc : s2.c = s1.c) : Vb now d0 s s2 :=
  ⟨fun d => by rw [← h.n]; unfold vN; rw [hp], fun d => by rw [← h.b]; unfold vB; rw [hp], fun m d h1 h2 => by rw [← h.t m d h1 h2]; unfold vT; rw [hp, hc], by unfold Tik; rw [hp]; exact h.le⟩
theorem rsn_vq {s s1 : Sd} {loc : Bool} {now : Int} (h : Vq now s s1) (hw : s1.Ws = s.Ws) (hn2 : now ≤ 1099511627776) : rsn s1 loc now = rsn s loc now := by
  unfold rsn
  rw [hw]
  congr 1
  exact List.filter_congr fun x _ => vq_rdy h hn2
theorem rgA_ab {s s1 : Sd} {loc : Bool} (h : ab s1 = ab s) : rgA s1 loc = rgA s loc := by
  have h0 : s1.A0 = s.A0 := congrArg Ab.A0 h
  have h1 : s1.A1 = s.A1 := congrArg Ab.A1 h
  unfold rgA
  rw [h0, h1]
theorem pk_same {s s1 : Sd} {loc : Bool} {now : Int} (h : Vq now s s1) (hw : s1.Ws = s.Ws) (ha : ab s1 = ab s) (hn2 : now ≤ 1099511627776) : pk s1 now loc ↔ pk s now loc := by
  unfold pk; rw [rsn_vq h hw hn2, rgA_ab ha]
theorem best_same {s s1 : Sd} {loc : Bool} {now : Int} {a : ByteArray} {m : Wt} (h : Vq now s s1) (hw : s1.Ws = s.Ws) (hn2 : now ≤ 1099511627776) (hb : Best s1 loc now a m) : Best s loc now a m :=
  ⟨hw ▸ hb.mem, (vq_rdy h hn2) ▸ hb.rd, hb.sd, fun z hz h1 h2 => hb.le z (hw ▸ hz) (by rw [vq_rdy h hn2]; exact h1) h2⟩
/-- who is picked: of this transport -/
def pkl (s : Sd) (now : Int) : Bool := if pk s now (!s.last) then !s.last else s.last
def z3 : Value := .agg #[.int .i64 0, .int .i64 0, .string ByteArray.empty]
def Spick (p N : Nat) (s : Sd) (now : Int) (w : World) (e : Ending) (w' : World) : Prop :=
  ((¬ pk s now (!s.last) ∧ ¬ pk s now s.last) → e = .returned (.tuple #[z3, .bool false]) ∧ ∃ s', SIn w' p s' N ∧ St w w' s s' ∧ ab s' = ab s ∧ Vq now s s' ∧ s'.D = s.D) ∧
  ((pk s now (!s.last) ∨ pk s now s.last) → ∃ m s', Best s (pkl s now) now ((rgA s (pkl s now)).getD (Fx (rsn s (pkl s now) now) (rgA s (pkl s now))) ByteArray.empty) m ∧ e = .returned (.tuple #[.agg #[.int .i64 m.id, .int .i64 m.rc, .string m.dom], .bool true]) ∧ SIn w' p s' N ∧ St w w' s s' ∧
    ab s' = aBegin (ab s) (pkl s now) (Fx (rsn s (pkl s now) now) (rgA s (pkl s now))) (m.id, m.rc) ∧ Vb now m.dom s s' ∧ s'.D = s.D)
theorem spick_none (n : Int) (w : World) : Calls Try.prog 30 #[.pointer none, .int .i64 n] w fun e w' => e = .returned (.tuple #[z3, .bool false]) ∧ Kp (fun _ => False) w w' := by
  go_enter Try.func30, Try.ntmps30
  go_wp2_with fail
  refine bodyPost_ret (v := .tuple #[z3, .bool false]) ?_ rfl ⟨rfl, (by repeat (first | exact Kp.refl _ _ | apply Kp.drew | apply Kp.drewN | refine Kp.setCell ?_ _ _ (Or.inl rfl) | apply Kp.alloc))⟩
  rw [results_cell_tmp rfl]
  go_simp
  rfl
end Go.Proofs.Ytbiahndpfbmoeaa
