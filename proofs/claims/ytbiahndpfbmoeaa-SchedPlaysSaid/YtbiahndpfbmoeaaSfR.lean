/- The beginning of the law: both schedulers are new. Condition: there are no more recipients than fit into memory. -/
import Derived.Test.YtbiahndpfbmoeaaSfM
import Derived.Test.YtbiahndpfbmoeaaSdCfg
import Derived.Laws.Tables
namespace Go.Proofs.Ytbiahndpfbmoeaa
open Go.RowKit Go.ChangeShapes Go.WideShapes SatAid Go.Deep

set_option maxRecDepth 100000 in
theorem open_sops {H : Type} {enc : TypeId × Value → H} {W : World} {base : Nat} {v : Value} {d : DataW H} {ps : List MemPlace} (k : Value.okWide Try.prog W .any base 46 v) (h : DataW.Trod enc Try.prog W 0 (fun _ => true) true 46 v d ps) :
    ∃ (ao : Option Addr) (n cap : Nat) (f : Nat → SOp), v = .slice ao n cap ∧ n ≤ cap ∧ cap ≤ 9223372036854775807 ∧ SRow W ao n 8 (fun i => So (f i)) ∧ ∀ i, i < n → SOk (f i) := by
  obtain ⟨ao, len, cap, V, rfl, h1, h2, h3, h4⟩ := open_srow Try.underlying46 cells_sop (by omega) k h
  obtain ⟨f, hf⟩ := choose_lt (α := SOp) (p := fun i r => V i = So r ∧ SOk r) (fun i hi => by
    obtain ⟨n, y, hy⟩ := h4 i hi
    obtain ⟨hV, _⟩ := h3 i hi
    exact sop_of_trod hV hy)
  exact ⟨ao, len, cap, f, rfl, h2, h1, h3.congr (fun i hi => (hf i hi).1.symm), fun i hi => (hf i hi).2⟩
theorem SI.base {W w1 w : World} {p N : Nat} {s : Sd} (h : SI w1 w p s N) (hk : Kp (fun _ => False) W w1) : SI W w p s N := ⟨h.si, fun k e => Nat.le_trans hk.size (h.fresh k e), hk.trans h.kp⟩
/-- the reference's, new -/
def R0 (c : Cf) (q : Nat) : Sd := { c := c, bm := 0, bp := 0, br := 0, r0 := 0, r1 := 0, v0 := .slice none 0 0, v1 := .slice none 0 0, vg := .slice none 0 0, Ws := [], Ps := [], A0 := [], A1 := [], G := [], last := false, D := [], col := fun k => if k = q then some cHead else none }
def RO (c : Cf) (q : Nat) : Obj := .cells (Hm (R0 c q) (.slice none 0 0) (.slice none 0 0)) 56 (0, 0)
theorem r0_col {c : Cf} {q k : Nat} (h : ((R0 c q).col k).isSome) : k = q := by
  by_cases e : k = q
  · exact e
  · have h1 : (if k = q then some cHead else none : Option (Nat × (Int × Int) × ByteArray)).isSome := h
    rw [if_neg e] at h1; cases h1
theorem SJ.start {W w' : World} {p q N cc : Nat} {s0 : Sd} {c : Cf} {ar : Option Addr} (hsi : SI W w' p s0 N) (hq : W.heap.size ≤ q) (hne : s0.col q = none) (hc : w'.heap[q]? = some (RO c q)) (hlv : c.lv = .slice ar c.L.length cc) (hs : SRd W ar c.L) (hL : c.L.length ≤ N) : SJ W w' p s0 q (R0 c q) N := by
  have hown : ∀ (k : Nat), (Value.slice none 0 0).ownBlock = some k → False := fun k e => by simp [Value.ownBlock] at e
  have hloc : ∀ ao cap, (R0 c q).c.lv = .slice ao (R0 c q).c.L.length cap → (R0 c q).c.L ≠ [] → ∀ bb off, ao = some ⟨bb, off, none⟩ → bb < W.heap.size := fun ao cap e hne bb off e2 => by
    have e1 : c.lv = .slice ao c.L.length cap := e
    rw [hlv] at e1
    simp only [Value.slice.injEq] at e1
    obtain ⟨b', off', e3, hb, _⟩ := hs 0 (List.length_pos_iff.2 hne)
    rw [e1.1, e2] at e3
    cases e3
    exact hb
  refine ⟨hsi, ⟨.slice none 0 0, .slice none 0 0, ⟨?_, fun k e => ?_, hc, ⟨ar, cc, hlv, hs.keep hsi.kp (fun _ _ _ _ h => h), fun hne b off e => ?_⟩, Own.nil _ _ _, Own.nil _ _ _, Own.nil _ _ _, Own.nil _ _ _, Own.nil _ _ _, fun y hy => (by cases hy), fun y hy => (by cases hy), fun y hy => (by cases hy), fun y hy => (by cases hy), List.Pairwise.nil, List.Pairwise.nil, fun k hk => (by cases hk), List.nodup_nil, List.nodup_nil, List.nodup_nil, hL, Nat.zero_le _, Nat.zero_le _, Nat.zero_le _, Nat.zero_le _⟩⟩, fun k e => ?_, hloc, fun k e => ?_, fun d hd => (by cases hd)⟩
  · exact ⟨if_pos rfl, fun k e => (hown k e).elim, fun k e => (hown k e).elim, fun k e => (hown k e).elim, fun k e => (hown k e).elim, fun k e => (hown k e).elim, fun y hy => (by cases hy)⟩
  · rw [r0_col e]; exact lt_of_block hc
  · cases hcb : (R0 c q).col b with
    | none => rfl
    | some z =>
      have e1 := r0_col (c := c) (q := q) (k := b) (by rw [hcb]; rfl)
      have := hloc ar cc hlv hne b off e
      omega
  · rw [r0_col e]; exact hq
  · cases hcb : (R0 c q).col k with
    | none => rfl
    | some z =>
      have e1 := r0_col (c := c) (q := q) (k := k) (by rw [hcb]; rfl)
      rw [e1, hne] at e; cases e
/-- first the program's, then the reference's -/
theorem SJ.startA {W w z1 z2 : World} {p N cc : Nat} {s0 : Sd} {c : Cf} {ar : Option Addr} (hk : Kp (fun _ => False) W w) (hsi : SI w z1 p s0 N) (hz : z2 = z1.alloc (RO c z1.heap.size)) (hlv : c.lv = .slice ar c.L.length cc) (hs : SRd W ar c.L) (hL : c.L.length ≤ N) : SJ W z2 p s0 z1.heap.size (R0 c z1.heap.size) N := by
  subst hz
  have h1 := (hsi.base hk).calm ((Kp.refl (fun _ => False) z1).alloc (RO c z1.heap.size))
  refine SJ.start h1 (Nat.le_trans hk.size hsi.kp.size) ?_ (heap_new _) hlv hs hL
  cases hc : s0.col z1.heap.size with
  | none => rfl
  | some z => have := hsi.si.lt _ (by rw [hc]; rfl); omega
/-- first the reference's, then the program's -/
theorem SJ.startB {W w z1 z2 : World} {p N cc : Nat} {s0 : Sd} {c : Cf} {ar : Option Addr} (hk : Kp (fun _ => False) W w) (hz : z1 = w.alloc (RO c w.heap.size)) (hsi : SI z1 z2 p s0 N) (hlv : c.lv = .slice ar c.L.length cc) (hs : SRd W ar c.L) (hL : c.L.length ≤ N) : SJ W z2 p s0 w.heap.size (R0 c w.heap.size) N := by
  subst hz
  have h1 := hsi.base (hk.trans ((Kp.refl (fun _ => False) w).alloc (RO c w.heap.size)))
  refine SJ.start h1 hk.size ?_ (hsi.kp.keep (heap_new _) (fun h => h)) hlv hs hL
  cases hc : s0.col w.heap.size with
  | none => rfl
  | some z =>
    have h2 := hsi.fresh _ (show (s0.col w.heap.size).isSome by rw [hc]; rfl)
    rw [World.size_alloc] at h2
    omega
theorem exec_build {P : Program} {o : Oper} {a : Act} {w : World} (t : TypeId) (parts : Array (Nat × Operand)) (ps : List (Nat × Value)) {cells : Array Value} (ho : o.op = .build t parts) (hp : (parts.map fun (i, x) => (i, a.eval x)).toList = ps) (h : P.built t ps = some cells) : (execOp a.eval o).run P w = .ok (.value (.agg cells)) w := by
  subst hp
  unfold execOp
  simp only [ho, Sem.run_bind, run_build w t _ cells h, Result.andThen_ok]
  rfl
set_option maxRecDepth 100000 in
theorem built_sched (host : ByteArray) (lv : Value) (i1 i2 i3 i4 i5 i6 i7 i8 i9 i10 : Int) : Try.prog.built 56 [(0, .agg #[.string host, lv, .int .i64 i1, .int .i64 i2, .int .i64 i3, .int .i64 i4, .int .i64 i5, .int .i64 i6, .int .i64 i7, .int .i64 i8, .int .i64 i9, .int .i64 i10])] = some #[.string host, lv, .int .i64 i1, .int .i64 i2, .int .i64 i3, .int .i64 i4, .int .i64 i5, .int .i64 i6, .int .i64 i7, .int .i64 i8, .int .i64 i9, .int .i64 i10, .slice none 0 0, .slice none 0 0, .slice none 0 0, .slice none 0 0, .slice none 0 0, .int .i64 0, .int .i64 0] := by
  kernel_rfl
theorem Alk.start {s0 : Sd} {c : Cf} {q : Nat} {lv : Value} (hA : ab s0 = ⟨{ c with lv := lv }, [], [], [], [], false⟩) (hP : s0.Ps = []) : Alk 0 s0 (R0 c q) := by
  have hc : s0.c = { c with lv := lv } := congrArg Ab.c hA
  have hf : ∀ d, fp s0.Ps d = none := fun d => by rw [hP]; rfl
  refine ⟨⟨?_, ?_, ?_, ?_, ?_⟩, ⟨by rw [hc]; rfl, by rw [hc]; rfl, by rw [hc]; rfl, by rw [hc]; rfl⟩, ?_, tik_new hP 0, tik_new rfl 0, fun d => ?_, fun d => ?_, fun m d _ _ => ?_⟩
  · rw [hA]; exact List.Perm.refl _
  · rw [hA]; rfl
  · rw [hA]; rfl
  · rw [hA]; rfl
  · rw [hA]; rfl
  · rw [hA]; intro x hx; cases hx
  · unfold vN; rw [hf]; rfl
  · unfold vB; rw [hf]; rfl
  · unfold vT; rw [hf, hc]; rfl
end Go.Proofs.Ytbiahndpfbmoeaa
