/- SchedBounds: the rows of those begun, beside the scheduler. No condition. -/
import Derived.Test.YtbiahndpfbmoeaaSd27
import Derived.Test.YtbiahndpfbmoeaaSdCfg
import Derived.ProofKit
namespace Go.Proofs.Ytbiahndpfbmoeaa
open Go.RowKit Go.ChangeShapes Go.WideShapes SatAid Go.Deep

set_option maxRecDepth 100000 in
theorem open_sops {H : Type} {enc : TypeId × Value → H} {W : World} {base : Nat} {v : Value} {d : DataW H} {ps : List MemPlace} (k : Value.okWide Try.prog W .any base 46 v) (h : DataW.Trod enc Try.prog W 0 (fun _ => true) true 46 v d ps) :
    ∃ (ao : Option Addr) (n cap : Nat) (f : Nat → SOp), v = .slice ao n cap ∧ n ≤ cap ∧ cap ≤ 9223372036854775807 ∧ SRow W ao n 8 (fun i => So (f i)) ∧ ∀ i, i < n → SOk (f i) := by
  obtain ⟨ao, len, cap, V, rfl, h1, h2, h3, h4⟩ := open_srow Try.underlying46 cells_sop (by omega) k h
  obtain ⟨f, hf⟩ := choose_lt (α := SOp) (p := fun i r => V i = So r ∧ SOk r) (fun i hi => by
    obtain ⟨n, y, hy⟩ := h4 i hi
    obtain ⟨hV, _⟩ := h3 i hi
    exact sop_of_trod hV hy)
  exact ⟨ao, len, cap, f, rfl, h2, h1, h3.congr (fun i hi => (hf i hi).1.symm), fun i hi => (hf i hi).2⟩
theorem int_infoB : (Try.prog.info? 3).map (fun i => (i.zero, i.size, i.bytes)) = some (some (.int .i64 0), 1, 8) := by kernel_rfl
theorem cells_bu8 : Try.prog.cellsOf 5 = 1 := by kernel_rfl
theorem SI.base {W w1 w : World} {p N : Nat} {s : Sd} (h : SI w1 w p s N) (hk : Kp (fun _ => False) W w1) : SI W w p s N := ⟨h.si, fun k e => Nat.le_trans hk.size (h.fresh k e), hk.trans h.kp⟩
/-- how many of the first q are on their way to d -/
def cT (A : Ab) (d : ByteArray) (q : Nat) : Nat := ((A.G.take q).filter fun k => decide (dmA A.W k = d)).length
def dG (A : Ab) (q : Nat) : ByteArray := dmA A.W (A.G.getD q (0, 0))
theorem cT_step {A : Ab} {q : Nat} (h : q < A.G.length) (d : ByteArray) : cT A d (q + 1) = cT A d q + (if dG A q = d then 1 else 0) := by
  unfold cT dG
  rw [List.take_add_one, List.getElem?_eq_getElem h, List.filter_append, List.length_append]
  congr 1
  have e : A.G.getD q (0, 0) = A.G[q] := by simp [List.getD, h]
  rw [e]
  by_cases e2 : dmA A.W A.G[q] = d <;> simp [e2]
theorem cT_all (A : Ab) (d : ByteArray) {q : Nat} (h : A.G.length ≤ q) : cT A d q = cG A d := by
  unfold cT cG; rw [List.take_of_length_le h]
theorem starts_get {A : Ab} {q : Nat} (h : q < A.G.length) : ∃ k : Int × Int, (aStarts A)[q]? = some (k.1, k.2, dG A q) := by
  unfold aStarts dG
  refine ⟨A.G[q], ?_⟩
  rw [List.getElem?_map, List.getElem?_eq_getElem h]
  have e : A.G.getD q (0, 0) = A.G[q] := by simp [List.getD, h]
  rw [e]; rfl
theorem dG_size {w : World} {p N : Nat} {s : Sd} (h : SIn w p s N) {q : Nat} (hq : q < s.G.length) : (dG (ab s) q).size ≤ maxLen := by
  obtain ⟨x, hx, e, _⟩ := h.gin _ (List.getElem_mem hq)
  have e2 : (ab s).G.getD q (0, 0) = s.G[q] := by simp [ab, List.getD, hq]
  unfold dG
  rw [e2, ← e, h.dm hx]
  exact h.dok _ (h.wfs x hx).2.2
/-- the two rows beside the scheduler -/
structure Rw (W w : World) (s : Sd) (v12 v13 : Value) (T : List (Int × Int × ByteArray)) (B : List (Int × ByteArray)) : Prop where
  a : Own w 66 3 v12 T.length (Stc T)
  b : Own w 3 1 v13 B.length (B.map fun x => Value.int .i64 x.1)
  e : T.map (fun t => t.2.2) = B.map Prod.snd
  na : ∀ k, v12.ownBlock = some k → W.heap.size ≤ k ∧ s.col k = none ∧ v13.ownBlock ≠ some k
  nb : ∀ k, v13.ownBlock = some k → W.heap.size ≤ k ∧ s.col k = none
section
variable {W w w' : World} {s s' : Sd} {v12 v13 : Value} {T : List (Int × Int × ByteArray)} {B : List (Int × ByteArray)}
theorem Rw.calm (h : Rw W w s v12 v13 T B) (hk : Kp (fun _ => False) w w') : Rw W w' s v12 v13 T B := ⟨h.a.keep hk (fun _ _ h => h), h.b.keep hk (fun _ _ h => h), h.e, h.na, h.nb⟩
theorem Rw.next (h : Rw W w s v12 v13 T B) (ht : St w w' s s') : Rw W w' s' v12 v13 T B :=
  ⟨h.a.keep ht.kp (fun k e e2 => by rw [(h.na k e).2.1] at e2; cases e2), h.b.keep ht.kp (fun k e e2 => by rw [(h.nb k e).2] at e2; cases e2), h.e,
    fun k e => ⟨(h.na k e).1, ht.none (h.a.lt e) (h.na k e).2.1, (h.na k e).2.2⟩, fun k e => ⟨(h.nb k e).1, ht.none (h.b.lt e) (h.nb k e).2⟩⟩
theorem Rw.nil (W w : World) (s : Sd) : Rw W w s (.slice none 0 0) (.slice none 0 0) [] [] :=
  ⟨Own.nil _ _ _, Own.nil _ _ _, rfl, fun k e => by simp [Value.ownBlock] at e, fun k e => by simp [Value.ownBlock] at e⟩
theorem Rw.len (h : Rw W w s v12 v13 T B) : T.length = B.length := by have := congrArg List.length h.e; simpa using this
end
theorem Rw.push {W w w1 w2 w3 w4 : World} {p N : Nat} {s : Sd} {v12 v13 v6 v7 : Value} {T : List (Int × Int × ByteArray)} {B : List (Int × ByteArray)} (x : Int × Int × ByteArray) (t : Int × ByteArray) (h : Rw W w s v12 v13 T B) (hi : SI W w p s N) (hx : x.2.2 = t.2)
    (k1 : Kp (fun _ => False) w w1) (o6 : Own w2 66 3 v6 (T.length + 1) (Stc T ++ [.int .i64 x.1, .int .i64 x.2.1, .string x.2.2])) (k6 : Kp (In v12) w1 w2) (n6 : SameOrNew w1 v12 v6)
    (k3 : Kp (fun _ => False) w2 w3) (o7 : Own w4 3 1 v7 (B.length + 1) ((B.map fun x => Value.int .i64 x.1) ++ [.int .i64 t.1])) (k7 : Kp (In v13) w3 w4) (n7 : SameOrNew w3 v13 v7) :
    SI W w4 p s N ∧ Rw W w4 s v6 v7 (T ++ [x]) (B ++ [t]) ∧ Kp (fun k => In v12 k ∨ In v13 k) w w4 := by
  have K : Kp (fun k => In v12 k ∨ In v13 k) w w4 := (((k1.mono (fun _ _ h => h.elim)).trans (k6.mono (fun _ _ h => Or.inl h))).trans (k3.mono (fun _ _ h => h.elim))).trans (k7.mono (fun _ _ h => Or.inr h))
  have s1 := k1.size; have s2 := k6.size; have s3 := k3.size; have s4 := k7.size
  have hW := hi.kp.size
  have col : ∀ k, w.heap.size ≤ k → s.col k = none := fun k hk => by
    cases hc : s.col k with
    | none => rfl
    | some c => have := hi.si.lt k (by rw [hc]; rfl); omega
  have a1 : ∀ k, v6.ownBlock = some k → W.heap.size ≤ k ∧ s.col k = none ∧ v13.ownBlock ≠ some k := fun k hk => by
    rcases n6 with e | e
    · exact h.na k (e ▸ hk)
    · have h1 := e k hk
      exact ⟨by omega, col k (by omega), fun e2 => by have := h.b.lt e2; omega⟩
  have a2 : ∀ k, v6.ownBlock = some k → v7.ownBlock ≠ some k := fun k hk e2 => by
    rcases n7 with e | e
    · exact (a1 k hk).2.2 (e ▸ e2)
    · have h1 := e k e2
      have h2 := o6.lt hk
      omega
  refine ⟨hi.upon K (fun k hk => hk.elim (fun e => ⟨(h.na k e).1, (h.na k e).2.1⟩) (fun e => h.nb k e)), ⟨?_, ?_, ?_, ?_, ?_⟩, K⟩
  · have h1 := (o6.keep k3 (fun _ _ h => h)).keep k7 (fun k h1 h2 => (a1 k h1).2.2 h2)
    rw [List.length_append, Stc_app]
    exact h1
  · rw [List.length_append, List.map_append]
    exact o7
  · rw [List.map_append, List.map_append, h.e]
    show _ ++ [x.2.2] = _ ++ [t.2]
    rw [hx]
  · exact fun k hk => ⟨(a1 k hk).1, (a1 k hk).2.1, a2 k hk⟩
  · intro k hk
    rcases n7 with e | e
    · exact h.nb k (e ▸ hk)
    · have h1 := e k hk
      exact ⟨by omega, col k (by omega)⟩
theorem cD_step {d : ByteArray} {B : List (Int × ByteArray)} {q : Nat} (h : q < B.length) : cD d (B.drop q) = cD d (B.drop (q + 1)) + (if (B.getD q b0).2 = d then 1 else 0) := by
  have e : B.getD q b0 = B[q] := by simp [List.getD, h]
  rw [e, List.drop_eq_getElem_cons h]
  unfold cD
  rw [List.filter_cons]
  by_cases e2 : B[q].2 = d <;> simp [e2]
theorem cD_le (d : ByteArray) (B : List (Int × ByteArray)) : cD d B ≤ B.length := by unfold cD; exact List.length_filter_le _ _
theorem cD_end (d : ByteArray) (B : List (Int × ByteArray)) {q : Nat} (h : B.length ≤ q) : cD d (B.drop q) = 0 := by rw [List.drop_of_length_le h]; rfl
theorem BI.check {w : World} {p N : Nat} {s : Sd} {now : Int} {B : List (Int × ByteArray)} (h : BI s now B) (hs : SIn w p s N) (h0 : 0 ≤ now) (hn : now ≤ 1000) (hb : ∀ b ∈ B, 0 ≤ b.1 ∧ b.1 ≤ now) {q : Nat} (hq : q < B.length) (d : ByteArray) :
    ∃ p : Int, V s.c.rate * (now - (B.getD q b0).1) = p ∧ 0 ≤ p ∧ p ≤ 100000 ∧ (cD d (B.drop q) : Int) ≤ V s.c.burst + p ∧ 0 ≤ (B.getD q b0).1 ∧ (B.getD q b0).1 ≤ now := by
  have h1 := h.sp d q hq
  have h2 := (hs.toks d h0 (Int.le_refl now) (by omega)).1
  have e : B.getD q b0 = B[q] := by simp [List.getD, hq]
  have h3 := hb _ (List.getElem_mem hq)
  rw [← e] at h3
  have v1 := V_lo s.c.rate
  have v2 := V_hi s.c.rate
  refine ⟨_, rfl, Int.mul_nonneg (by omega) (by omega), ?_, by omega, h3.1, h3.2⟩
  have h4 : V s.c.rate * (now - (B.getD q b0).1) ≤ 100 * 1000 := Int.mul_le_mul v2 (by omega) (by omega) (by omega)
  omega
/-- what the two rows hold -/
theorem Rw.at {W w : World} {s : Sd} {T : List (Int × Int × ByteArray)} {B : List (Int × ByteArray)} {g6 c6 g7 c7 n6 n7 : Nat} (h : Rw W w s (.slice (some ⟨g6, 0, none⟩) n6 c6) (.slice (some ⟨g7, 0, none⟩) n7 c7) T B) (e6 : n6 = T.length) (e7 : n7 = B.length) {q : Nat} (hq : q < B.length) :
    w.cell? ⟨g6, q * 3 + 2, none⟩ = some (.string (B.getD q b0).2) ∧ w.cell? ⟨g7, q, none⟩ = some (.int .i64 (B.getD q b0).1) ∧ g6 < w.heap.size ∧ g7 < w.heap.size := by
  subst e6 e7
  have hl := h.len
  have hT : T[q]? = some T[q] := List.getElem?_eq_getElem (by omega)
  have hB : B[q]? = some B[q] := List.getElem?_eq_getElem hq
  have e : B.getD q b0 = B[q] := by simp [List.getD, hq]
  have e2 : T[q].2.2 = B[q].2 := by
    have h1 := congrArg (fun l => l[q]?) h.e
    simp only [List.getElem?_map, hT, hB, Option.map_some, Option.some.injEq] at h1
    exact h1
  rw [e, ← e2]
  refine ⟨h.a.cell (Stc_get hT).2.2, h.b.cell ?_, h.a.lt rfl, h.b.lt rfl⟩
  rw [List.getElem?_map, hB]; rfl
end Go.Proofs.Ytbiahndpfbmoeaa
