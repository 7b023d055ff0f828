/- sched.New. Condition: no more local domains than fit into memory. -/
import Derived.Test.YtbiahndpfbmoeaaSd1
namespace Go.Proofs.Ytbiahndpfbmoeaa
open Go.RowKit Go.Maps SatAid Go.MapKept Go.ChangeMaps Go.WideShapes

theorem bool_law : Keyed Try.prog 4 := bool_keyed Try.underlying4
theorem str_law : Keyed Try.prog 9 := string_keyed Try.underlying9
theorem wpList_ins_new {P : Program} (w : World) {ops : Array Oper} {rest : List Oper} {o : Oper} {a : Act} {Q : Exit → Act → World → Prop} (hg : o.guard = none) (m x v : Operand) (t : TypeId) (hop : o.op = Op.insert t m x v)
    (k e : TypeId) (K : Keyed P k) (ht : P.underlying t = some (.map k e)) (b n : Nat) (M : List (Lit × Value))
    (hm : a.eval m = .map (some b)) (h : MapAt w P k b n M) (hn : n < maxLen) (key val : Value) (kl : Lit) (hx : a.eval x = key) (hv : a.eval v = val) (hkey : keyOf P k key = some kl) (hnew : ∀ p ∈ M, p.1 ≠ kl)
    (hK : ∀ w', MapAt w' P k b (n + 1) (M ++ [(kl, val)]) → Kp (· = b) w w' → wpList P ops Q rest (a.put o.dst undef) w') :
    wpList P ops Q (o :: rest) a w := by
  obtain ⟨w', hrun, h1, h2⟩ := h.put_run K ht hn hkey hnew (val := val)
  refine wpList_plain hg fun K' hK' => ?_
  unfold Oper.wp
  simp [execOp, hop, hm, hx, hv, hrun, Result.andThen]
  exact hK' _ _ (hK w' h1 h2)

def C0 (c : Cf) (p bm bp br r0 r1 : Nat) (lv : Value) : Sd :=
  { c := { c with lv := lv }, bm := bm, bp := bp, br := br, r0 := r0, r1 := r1, v0 := .slice none 0 0, v1 := .slice none 0 0, vg := .slice none 0 0, Ws := [], Ps := [], A0 := [], A1 := [], G := [], last := false, D := [],
    col := fun k => if k = p then some cHead else if k = bm then some cBy else if k = bp then some cPeers else if k = br then some cRings else if k = r0 then some (cRing false) else if k = r1 then some (cRing true) else if lv.ownBlock = some k then some cLoc else none }
def Snew (c : Cf) (w : World) (e : Ending) (w' : World) : Prop :=
  ∃ p bm bp br r0 r1 lv, e = .returned (.pointer (some ⟨p, 0, none⟩)) ∧ SIn w' p (C0 c p bm bp br r0 r1 lv) c.L.length ∧ (∀ k, ((C0 c p bm bp br r0 r1 lv).col k).isSome → w.heap.size ≤ k) ∧ Kp (fun _ => False) w w'
theorem src_cells {w : World} {ad : Addr} {L : List ByteArray} (h : SRd w (some ad) L) : ∀ j u, (Sc L)[j]? = some u → w.cell? (ad.add j) = some u := by
  intro j u hu
  have hj : j < L.length := by have := (List.getElem?_eq_some_iff.1 hu).1; rwa [Sc_len] at this
  obtain ⟨b, off, e, hb, hc⟩ := h j hj
  cases e
  rw [Addr.add_lit, hc]
  unfold Sc at hu
  rw [List.getElem?_map, List.getElem?_eq_getElem hj] at hu
  show some (Value.string (L.getD j ByteArray.empty)) = some u
  rw [List.getD_eq_getElem?_getD, List.getElem?_eq_getElem hj]
  exact hu
theorem sclone_rd (ao : Option Addr) (cap : Nat) (L : List ByteArray) (w : World) (hs : SRd w ao L) (hnone : ao = none → cap = 0) (hL : L.length ≤ 1000000) :
    Calls Try.prog 46 #[.slice ao L.length cap] w (Cloned 9 1 L.length (Sc L) w) := by
  cases ao with
  | none =>
    obtain rfl := hnone rfl
    have hL0 : L.length = 0 := by
      rcases Nat.eq_zero_or_pos L.length with h | h
      · exact h
      · obtain ⟨_, _, e, _⟩ := hs 0 h; cases e
    obtain rfl := List.eq_nil_of_length_eq_zero hL0
    refine (sclone_nil _).mono ?_; rintro e w1 ⟨rfl, rfl⟩
    exact ⟨_, rfl, World.ownsRow_nil _ _ _ _, Kp.refl _ _⟩
  | some ad => exact sclone_any ad L.length cap (Sc L) _ (Sc_len1 L) (src_cells hs) (Sc_one L) (by omega)
theorem map_new {P : Program} {k : TypeId} {w1 : World} {b : Nat} (h : w1.heap[b]? = some (.map #[] 0)) : MapAt w1 P k b 0 [] :=
  ⟨[], ⟨#[], 0, h, ⟨by simp, stamped_empty 0, by simp⟩, Nat.le_refl _, rfl⟩, List.Perm.refl _⟩
theorem put_run2 {P : Program} {k : TypeId} {w : World} {b n : Nat} {M : List (Lit × Value)} {t e : TypeId} (h : MapAt w P k b n M) (K : Keyed P k) (ht : P.underlying t = some (.map k e)) (hn : n < maxLen) {key val : Value} {kl : Lit} (hkey : keyOf P k key = some kl) (hnew : ∀ p ∈ M, p.1 ≠ kl) :
    ∃ w', (Instr.mapUpdate t (.map (some b)) key val).run P w = .ok () w' ∧ MapAt w' P k b (n + 1) (M ++ [(kl, val)]) ∧ Kp (· = b) w w' ∧ w'.heap.size = w.heap.size := by
  obtain ⟨es, ho, hq⟩ := h
  obtain ⟨w', hrun, h1, h2⟩ := ho.store K ht hn (d := .held val) (ps := []) (val := val) hkey rfl
  obtain ⟨es', hD, hq'⟩ := MapAt.put_new hq hnew rfl
  rw [hD] at h1
  refine ⟨w', hrun, ⟨es', h1, hq'⟩, Kp.of_turned h2, ?_⟩
  obtain ⟨_, _, _, _, _, rfl⟩ := h2
  simp [setBlock]
theorem heap_at {w : World} (o : Obj) {b : Nat} (hb : b = w.heap.size) : (w.alloc o).heap[b]? = some o := by rw [hb]; exact heap_new o
theorem snew_close {c : Cf} {w w' : World} {lv : Value} {p bm bp br r0 r1 : Nat} (hlo : Own w' 9 1 lv c.L.length (Sc c.L)) (hlb : ∀ k, lv.ownBlock = some k → w.heap.size ≤ k ∧ k < bm)
    (hle : w.heap.size ≤ bm) (h1 : bm < bp) (h2 : bp < br) (h3 : br < r0) (h4 : r0 < r1) (h5 : r1 < p) (head : w'.heap[p]? = some (.cells (Hd (C0 c p bm bp br r0 r1 lv)) 93 (0, 0)))
    (m1 : w'.heap[bm]? = some (.map #[] 0)) (m2 : w'.heap[bp]? = some (.map #[] 0)) (m3 : MapAt w' Try.prog 4 br 2 (Rm r0 r1)) (g0 : w'.heap[r0]? = some (.cells #[.slice none 0 0] 26 (0, 0)) ∧ w'.heap[r1]? = some (.cells #[.slice none 0 0] 26 (0, 0))) (hk : Kp (fun _ => False) w w') :
    Snew c w (.returned (.pointer (some ⟨p, 0, none⟩))) w' := by
  have hp := lt_of_block head
  refine ⟨p, bm, bp, br, r0, r1, lv, rfl, ⟨⟨?_, ?_, ?_, ?_, ?_, ?_, fun k e => ?_, fun k e => ?_, fun k e => ?_, fun k e => ?_, fun x e => (by cases e), fun x e => (by cases e)⟩, fun k e => ?_, head, hlo, map_new m1, map_new m2, m3, ⟨g0.1, Own.nil _ _ _, by simp [Value.ownBlock, C0]⟩, ⟨g0.2, Own.nil _ _ _, by simp [Value.ownBlock, C0]⟩, Own.nil _ _ _, fun x e => (by cases e), fun x e => (by cases e), fun x e => (by cases e), fun x e => (by cases e), fun x e => (by cases e), fun x e => (by cases e), List.nodup_nil, Nat.le_refl _, Nat.zero_le _, Nat.zero_le _, Nat.zero_le _, Nat.zero_le _⟩, fun k e => ?_, hk⟩
  · simp [C0]
  · simp [C0, show bm ≠ p by omega]
  · simp [C0, show bp ≠ p by omega, show bp ≠ bm by omega]
  · simp [C0, show br ≠ p by omega, show br ≠ bm by omega, show br ≠ bp by omega]
  · simp [C0, show r0 ≠ p by omega, show r0 ≠ bm by omega, show r0 ≠ bp by omega, show r0 ≠ br by omega]
  · simp [C0, show r1 ≠ p by omega, show r1 ≠ bm by omega, show r1 ≠ bp by omega, show r1 ≠ br by omega, show r1 ≠ r0 by omega]
  · simp [C0, Value.ownBlock] at e
  · simp [C0, Value.ownBlock] at e
  · simp [C0, Value.ownBlock] at e
  · have e' : lv.ownBlock = some k := e
    obtain ⟨_, l2⟩ := hlb k e'
    simp [C0, e', show k ≠ p by omega, show k ≠ bm by omega, show k ≠ bp by omega, show k ≠ br by omega, show k ≠ r0 by omega, show k ≠ r1 by omega]
  · simp only [C0] at e
    repeat' split at e
    all_goals first | omega | (rename_i h; have := hlb k h; omega) | cases e
  · simp only [C0] at e
    repeat' split at e
    all_goals first | omega | (rename_i h; have := hlb k h; omega) | cases e
set_option maxRecDepth 100000 in
set_option maxHeartbeats 1600000 in
theorem snew_any (c : Cf) (ao : Option Addr) (cap : Nat) (w : World) (hlv : c.lv = .slice ao c.L.length cap) (hs : SRd w ao c.L) (hL : c.L.length ≤ 1000000) (hnone : ao = none → cap = 0) :
    Calls Try.prog 24 #[.agg (Cc c).toArray] w (Snew c w) := by
  obtain ⟨host, lv, L, i1, i2, i3, i4, i5, i6, i7, i8, i9, i10⟩ := c
  simp only at hlv hs hL
  subst hlv
  have HS := Lib.hid hs; clear hs
  unfold Cc
  simp only
  go_enter Try.func24, Try.ntmps24
  go_wp2_with fail
  refine (sclone_rd ao cap L _ (HS.out.keep ((Kp.refl (fun _ => False) w).alloc _) (fun _ _ _ _ h => h)) hnone hL).mono ?_; rintro e w1 ⟨lv, rfl, ho, hk⟩
  have h1 := hk.keep (heap_new _) (fun h => h)
  have l1 := lt_of_block h1
  have e0 := cell_of h1 0
  have e1 := cell_of h1 1
  have e2 := cell_of h1 2
  have e3 := cell_of h1 3
  have e4 := cell_of h1 4
  have e5 := cell_of h1 5
  have e6 := cell_of h1 6
  have e7 := cell_of h1 7
  have e8 := cell_of h1 8
  have e9 := cell_of h1 9
  have e10 := cell_of h1 10
  have e11 := cell_of h1 11
  simp only [List.getElem?_toArray, List.getElem?_cons_zero, List.getElem?_cons_succ] at e0 e1 e2 e3 e4 e5 e6 e7 e8 e9 e10 e11
  have f1 := frozen_of h1 1
  have hmm := @run_makeMap Try.prog
  obtain ⟨lo, lc, rfl⟩ := (own_weaken ho).slice
  have hsz1 : (w1.setCell ⟨w.heap.size, 1, none⟩ (.slice lo L.length lc)).heap.size = w1.heap.size := by simp [World.setCell]
  have hks : Kp (· = w.heap.size) w1 (w1.setCell ⟨w.heap.size, 1, none⟩ (.slice lo L.length lc)) := (by repeat (first | exact Kp.refl _ _ | apply Kp.drew | apply Kp.drewN | refine Kp.setCell ?_ _ _ (Or.inl rfl) | apply Kp.alloc))
  obtain ⟨wa, hwa⟩ : ∃ wa, wa = w1.setCell ⟨w.heap.size, 1, none⟩ (.slice lo L.length lc) := ⟨_, rfl⟩
  rw [← hwa] at hsz1 hks
  have HKS := Lib.hid hks; have HO := Lib.hid ho; have HK := Lib.hid hk; have HWA := Lib.hid hwa
  have g0 := hwa ▸ (heap_set h1 (i := 1) (.slice lo L.length lc))
  clear hks ho hk h1
  obtain ⟨wA, hA⟩ : ∃ wA, wA = (((wa.alloc (.map #[] 0)).alloc (.map #[] 0)).alloc (.map #[] 0)).alloc (.cells #[.slice none 0 0] 26) := ⟨_, rfl⟩
  have hA1 : wA.heap[w1.heap.size]? = some (.map #[] 0) := by rw [hA]; exact heap_old _ (heap_old _ (heap_old _ (heap_at _ (by simp [hsz1]))))
  have hA2 : wA.heap[w1.heap.size + 1]? = some (.map #[] 0) := by rw [hA]; exact heap_old _ (heap_old _ (heap_at _ (by simp [hsz1])))
  have hA3 : wA.heap[w1.heap.size + 1 + 1]? = some (.map #[] 0) := by rw [hA]; exact heap_old _ (heap_at _ (by simp [hsz1]))
  have hA4 : wA.heap[w1.heap.size + 1 + 1 + 1]? = some (.cells #[.slice none 0 0] 26 (0, 0)) := by rw [hA]; exact heap_at _ (by simp [hsz1])
  have hAs : wA.heap.size = w1.heap.size + 1 + 1 + 1 + 1 := by rw [hA]; simp [hsz1]
  have hAk : Kp (fun _ => False) wa wA := by rw [hA]; exact (by repeat (first | exact Kp.refl _ _ | apply Kp.drew | apply Kp.drewN | refine Kp.setCell ?_ _ _ (Or.inl rfl) | apply Kp.alloc))
  obtain ⟨w2, hr2, hm2, hk2, hs2⟩ := put_run2 (map_new (P := Try.prog) (k := 4) hA3) bool_law Try.underlying90 (by unfold maxLen; omega) (keyOf_bool_mk Try.underlying4 false) (val := .pointer (some ⟨w1.heap.size + 1 + 1 + 1, 0, none⟩)) (fun _ h => by cases h)
  have hr2' := hA ▸ hr2
  have hm2B := hm2.keep ((Kp.refl (fun _ => False) w2).alloc (.cells #[.slice none 0 0] 26)) (fun h => h)
  obtain ⟨w3, hr3, hm3, hk3, hs3⟩ := put_run2 hm2B bool_law Try.underlying90 (by unfold maxLen; omega) (keyOf_bool_mk Try.underlying4 true) (val := .pointer (some ⟨w1.heap.size + 1 + 1 + 1 + 1, 0, none⟩)) (fun q h => by simp at h; subst h; simp)
  have HA := Lib.hid hA; have HM3 := Lib.hid hm3; have HK2 := Lib.hid hk2; have HK3 := Lib.hid hk3; have HAK := Lib.hid hAk; have HR2 := Lib.hid hr2
  clear hm2 hm2B hm3 hk2 hk3 hAk hr2
  subst hwa
  go_wp2_with fail
  go_ret
  have hsz2 : w2.heap.size = w1.heap.size + 1 + 1 + 1 + 1 := by rw [hs2, hAs]
  have hsz3 : w3.heap.size = w1.heap.size + 1 + 1 + 1 + 1 + 1 := by rw [hs3]; simp [hsz2]
  have k23 : Kp (· = w1.heap.size + 1 + 1) wA w3 := (HK2.out.alloc _).trans_new HK3.out (fun _ _ h => h)
  have kA : Kp (fun k => k = w.heap.size ∨ k = w1.heap.size + 1 + 1) w1 w3 := ((HKS.out.mono (T := fun k => k = w.heap.size ∨ k = w1.heap.size + 1 + 1) (fun _ _ h => Or.inl h)).trans (HAK.out.mono (fun _ _ h => h.elim))).trans (k23.mono (fun _ _ h => Or.inr h))
  have hlb : ∀ k, (Value.slice lo L.length lc).ownBlock = some k → w.heap.size + 1 ≤ k ∧ k < w1.heap.size := fun k e => by
    have := World.ownsRow.lt HO.out k e
    simp only [World.size_alloc] at this
    exact this
  refine snew_close (c := ⟨host, .slice ao L.length cap, L, i1, i2, i3, i4, i5, i6, i7, i8, i9, i10⟩) (lv := .slice lo L.length lc) (bm := w1.heap.size) (bp := w1.heap.size + 1) (br := w1.heap.size + 1 + 1) (r0 := w1.heap.size + 1 + 1 + 1) (r1 := w1.heap.size + 1 + 1 + 1 + 1) ?hlo ?hlb ?hle ?h1 ?h2 ?h3 ?h4 ?h5 ?hhd ?m1 ?m2 ?m3 ?g0 ?hk
  case hlo =>
    refine ((own_weaken HO.out).keep kA (fun k e h => ?_)).keep ((Kp.refl (fun _ => False) w3).alloc _) (fun _ _ h => h)
    have := hlb k e
    omega
  case hlb => exact fun k e => by have := hlb k e; omega
  case hle => omega
  case h1 => omega
  case h2 => omega
  case h3 => omega
  case h4 => omega
  case h5 => omega
  case hhd => exact heap_at _ (by omega)
  case m1 => exact heap_old _ (k23.keep hA1 (by omega))
  case m2 => exact heap_old _ (k23.keep hA2 (by omega))
  case m3 => exact HM3.out.keep ((Kp.refl (fun _ => False) w3).alloc _) (fun h => h)
  case g0 => exact ⟨heap_old _ (k23.keep hA4 (by omega)), heap_old _ (HK3.out.keep (heap_at _ (by omega)) (by omega))⟩
  case hk => exact (((((Kp.refl (fun _ => False) w).alloc _).trans HK.out)).trans_new kA (fun k h1 h2 => by omega)).alloc _
end Go.Proofs.Ytbiahndpfbmoeaa
