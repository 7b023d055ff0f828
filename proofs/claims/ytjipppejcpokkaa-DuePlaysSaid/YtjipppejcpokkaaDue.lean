/- What the five methods of package due's heap do. Condition: it holds no more alarms than fit into memory. -/
import Derived.Test.YtjipppejcpokkaaChecked
import Derived.Test.YtjipppejcpokkaaAppend
import Derived.Test.YtjipppejcpokkaaHeap
import Derived.Test.YtjipppejcpokkaaClamp
import Derived.WalkSpells
import Derived.Lib.SliceRun
import Derived.Deep.LoopGhost
import Derived.Deep.QuietTactic
import Derived.BigQuiet
import Derived.Deep.RegionHeld3
import Derived.Deep.RegionLaw
import Derived.Deep.AppendLies
import Derived.RegionTactic
import Derived.BigRegion
import Derived.Laws.OwnMore
namespace Go.Proofs.Ytjipppejcpokkaa
open Go.RowKit

theorem ptr_info : (Try.prog.info? 51).map (fun i => (i.zero, i.size, i.bytes)) = some (some (.pointer none), 1, 8) := by kernel_rfl
/-- the cells of the alarms' pointers -/
def Pc (L : List Al) : List Value := L.map fun a => .pointer (some ⟨a.blk, 0, none⟩)
theorem Pc_len (L : List Al) : (Pc L).length = L.length := by simp [Pc]
theorem Pc_one (L : List Al) : ∀ u ∈ Pc L, u.oneCell' = true := by
  intro u hu
  obtain ⟨z, _, rfl⟩ := List.mem_map.1 hu
  rfl
theorem Pc_get {L : List Al} {i : Nat} (h : i < L.length) : (Pc L)[i]? = some (.pointer (some ⟨(G L i).blk, 0, none⟩)) := by
  unfold Pc; rw [List.getElem?_map, G_get h]; rfl
/-- what an alarm's block holds -/
def Ac (a : Al) (i : Nat) : Obj := .cells #[.int .i64 a.id, .int .i64 a.at', .int .i64 i] 54 (0, 0)
/-- block p holds the heap of these alarms; v is its slice, m its map -/
structure AlAt (w : World) (p : Nat) (v m : Value) (L : List Al) : Prop where
  head : w.heap[p]? = some (.cells #[v, m] 28 (0, 0))
  row : Own w 51 1 v L.length (Pc L)
  apart : v.ownBlock ≠ some p
  each : ∀ i, i < L.length → w.heap[(G L i).blk]? = some (Ac (G L i) i)
  own : ∀ a ∈ L, a.blk ≠ p ∧ v.ownBlock ≠ some a.blk
  nodup : ∀ i j, i < L.length → j < L.length → (G L i).blk = (G L j).blk → i = j
/-- the blocks of a heap but for its head -/
def Bs (v : Value) (L : List Al) (k : Nat) : Prop := In v k ∨ ∃ a ∈ L, a.blk = k
theorem AlAt.keep {S : Nat → Prop} {w w' : World} {p : Nat} {v m : Value} {L : List Al} (h : AlAt w p v m L) (hk : Kp S w w') (hp : ¬ S p) (hs : ∀ k, Bs v L k → ¬ S k) : AlAt w' p v m L :=
  ⟨hk.keep h.head hp, h.row.keep hk (fun k hk' => hs k (Or.inl hk')), h.apart, fun i hi => hk.keep (h.each i hi) (hs _ (Or.inr ⟨_, G_mem hi, rfl⟩)), h.own, h.nodup⟩

theorem alen_any (v : Value) (L : List Al) (w : World) (h : Own w 51 1 v L.length (Pc L)) :
    Calls Try.prog 38 #[v] w fun e w' => e = .returned (.int .i64 L.length) ∧ w = w' := by
  obtain ⟨ao, cap, rfl⟩ := h.slice
  clear h
  go_enter Try.func38, Try.ntmps38
  go_wp2
  go_ret
  exact ⟨rfl, rfl⟩
theorem aless_any (p : Nat) (v m : Value) (L : List Al) (i j : Nat) (w : World) (h : AlAt w p v m L) (hi : i < L.length) (hj : j < L.length) :
    Calls Try.prog 39 #[v, .int .i64 i, .int .i64 j] w fun e w' => e = .returned (.bool (Lt (G L i) (G L j))) ∧ ∃ n, w' = w.drewN n := by
  rcases h.row.shape with ⟨_, h0, _⟩ | ⟨g, cap, rfl, hcap, hcm, hg⟩
  · omega
  have ci : w.cell? ⟨g, i, none⟩ = some (.pointer (some ⟨(G L i).blk, 0, none⟩)) := h.row.cell (Pc_get hi)
  have cj : w.cell? ⟨g, j, none⟩ = some (.pointer (some ⟨(G L j).blk, 0, none⟩)) := h.row.cell (Pc_get hj)
  have ei := h.each i hi; have ej := h.each j hj
  obtain ⟨A, hA⟩ : ∃ A, A = G L i := ⟨_, rfl⟩
  obtain ⟨B, hB⟩ : ∃ B, B = G L j := ⟨_, rfl⟩
  rw [← hA] at ci ei ⊢
  rw [← hB] at cj ej ⊢
  clear hA hB
  obtain ⟨ba, ia, ta⟩ := A
  obtain ⟨bb, ib, tb⟩ := B
  have i0 := cell_of ei 0; have i1 := cell_of ei 1
  have j0 := cell_of ej 0; have j1 := cell_of ej 1
  simp only [List.getElem?_toArray, List.getElem?_cons_zero, List.getElem?_cons_succ] at i0 i1 j0 j1
  clear ei ej h
  have q1 : (0 : Int) ≤ (i : Int) := by omega
  have q2 : (i : Int) < (L.length : Int) := by omega
  have q3 : (0 : Int) ≤ (j : Int) := by omega
  have q4 : (j : Int) < (L.length : Int) := by omega
  by_cases ht : ta = tb
  · have HL := Lib.hid (show Lt ⟨ba, ia, ta⟩ ⟨bb, ib, tb⟩ = decide (ia < ib) by unfold Lt; rw [if_pos ht])
    go_enter Try.func39, Try.ntmps39
    go_wp2_with fail
    go_quiet (fail)
    go_wp2_with fail
    go_quiet (fail)
    go_wp2_with fail
    go_ret
    exact ⟨by rw [HL.out]; rfl, _, World.drewN_drewN _ _ _⟩
  · have HL := Lib.hid (show Lt ⟨ba, ia, ta⟩ ⟨bb, ib, tb⟩ = decide (ta < tb) by unfold Lt; rw [if_neg ht])
    go_enter Try.func39, Try.ntmps39
    go_wp2_with fail
    go_quiet (fail)
    go_wp2_with fail
    go_quiet (fail)
    go_wp2_with fail
    go_ret
    exact ⟨by rw [HL.out]; rfl, _, World.drewN_drewN _ _ _⟩

/-- the row with two exchanged -/
structure SwapMid (w w2 : World) (g cap : Nat) (L : List Al) (i j : Nat) : Prop where
  row : Own w2 51 1 (.slice (some ⟨g, 0, none⟩) L.length cap) L.length (Pc (Sw L i j))
  kp : Kp (· = g) w w2
theorem swap_mid {w w2 : World} {p g cap : Nat} {m : Value} {L : List Al} {i j : Nat} (h : AlAt w p (.slice (some ⟨g, 0, none⟩) L.length cap) m L) {ba bb : Nat} (ha : ba = (G L i).blk) (hb : bb = (G L j).blk)
    (hw : ((w.setCell ⟨g, i, none⟩ (.pointer (some ⟨bb, 0, none⟩))).setCell ⟨g, j, none⟩ (.pointer (some ⟨ba, 0, none⟩))).drew = w2) : SwapMid w w2 g cap L i j := by
  subst hw ha hb
  have h1 := (World.ownsRow.stored h.row i (.pointer (some ⟨(G L j).blk, 0, none⟩))).1
  have h2 := (World.ownsRow.stored h1 j (.pointer (some ⟨(G L i).blk, 0, none⟩))).1
  refine ⟨?_, (by repeat (first | exact Kp.refl _ _ | apply Kp.drew | apply Kp.drewN | refine Kp.setCell ?_ _ _ (Or.inl rfl) | apply Kp.alloc))⟩
  have e : Pc (Sw L i j) = ((Pc L).set i (.pointer (some ⟨(G L j).blk, 0, none⟩))).set j (.pointer (some ⟨(G L i).blk, 0, none⟩)) := by
    unfold Pc Sw; rw [List.map_set, List.map_set]
  rw [e]
  exact h2
theorem swap_close {w w2 : World} {p g cap : Nat} {m : Value} {L : List Al} {i j : Nat} (h : AlAt w p (.slice (some ⟨g, 0, none⟩) L.length cap) m L) (hr : SwapMid w w2 g cap L i j) (hi : i < L.length) (hj : j < L.length) (hij : i ≠ j)
    {ba bb : Nat} (ha : ba = (G L i).blk) (hb : bb = (G L j).blk) :
    AlAt ((w2.setCell ⟨bb, 2, none⟩ (.int .i64 i)).setCell ⟨ba, 2, none⟩ (.int .i64 j)).drew p (.slice (some ⟨g, 0, none⟩) L.length cap) m (Sw L i j) ∧ Kp (Bs (.slice (some ⟨g, 0, none⟩) L.length cap) L) w ((w2.setCell ⟨bb, 2, none⟩ (.int .i64 i)).setCell ⟨ba, 2, none⟩ (.int .i64 j)).drew := by
  subst ha hb
  have hm1 := G_mem hi; have hm2 := G_mem hj
  have o1 := h.own _ hm1; have o2 := h.own _ hm2
  have hg1 : g ≠ (G L i).blk := by simpa [Value.ownBlock] using o1.2
  have hg2 : g ≠ (G L j).blk := by simpa [Value.ownBlock] using o2.2
  have hne : (G L i).blk ≠ (G L j).blk := fun e => hij (h.nodup i j hi hj e)
  have hgp : g ≠ p := by have := h.apart; simpa [Value.ownBlock] using this
  have k2 : Kp (fun k => k = (G L i).blk ∨ k = (G L j).blk) w2 ((w2.setCell ⟨(G L j).blk, 2, none⟩ (.int .i64 i)).setCell ⟨(G L i).blk, 2, none⟩ (.int .i64 j)).drew :=
    (((Kp.refl _ w2).setCell _ _ (Or.inl (Or.inr rfl))).setCell _ _ (Or.inl (Or.inl rfl))).drew
  have hbs : ∀ k, k = g ∨ (k = (G L i).blk ∨ k = (G L j).blk) → Bs (.slice (some ⟨g, 0, none⟩) L.length cap) L k := by
    rintro k (rfl | rfl | rfl)
    · exact Or.inl rfl
    · exact Or.inr ⟨_, hm1, rfl⟩
    · exact Or.inr ⟨_, hm2, rfl⟩
  refine ⟨⟨?_, ?_, h.apart, fun k hk => ?_, fun a ha => ?_, fun x y hx hy e => ?_⟩, ?_⟩
  · exact k2.keep (hr.kp.keep h.head (fun e => hgp e.symm)) (by rintro (e | e); exact o1.1 e.symm; exact o2.1 e.symm)
  · rw [Sw_len]
    exact hr.row.keep k2 (fun k hk => by
      have : g = k := by simpa [Value.ownBlock] using hk
      subst this
      rintro (e | e)
      · exact hg1 e
      · exact hg2 e)
  · rw [Sw_len] at hk
    rw [Sw_G hi hj]
    by_cases e1 : k = j
    · subst e1
      rw [if_pos rfl]
      have e0 := hr.kp.keep (h.each i hi) (fun e => hg1 e.symm)
      have e3 := (Below.heap_setCell w2 ⟨(G L k).blk, 2, none⟩ (.int .i64 i) (G L i).blk hne).trans e0
      exact heap_set e3 _
    · rw [if_neg e1]
      by_cases e2 : k = i
      · subst e2
        rw [if_pos rfl]
        have e0 := hr.kp.keep (h.each j hj) (fun e => hg2 e.symm)
        have e3 := heap_set e0 (i := 2) (.int .i64 k)
        exact (Below.heap_setCell _ ⟨(G L k).blk, 2, none⟩ (.int .i64 j) (G L j).blk (fun e => hne e.symm)).trans e3
      · rw [if_neg e2]
        have hgk : g ≠ (G L k).blk := by have := (h.own _ (G_mem hk)).2; simpa [Value.ownBlock] using this
        refine k2.keep (hr.kp.keep (h.each k hk) (fun e => hgk e.symm)) ?_
        rintro (e | e)
        · exact e2 (h.nodup k i hk hi e)
        · exact e1 (h.nodup k j hk hj e)
  · exact h.own a ((Sw_perm hi hj).mem_iff.1 ha)
  · rw [Sw_len] at hx hy
    rw [Sw_G hi hj, Sw_G hi hj] at e
    have hx' : (if x = j then i else if x = i then j else x) < L.length := by split; exact hi; split; exact hj; exact hx
    have hy' : (if y = j then i else if y = i then j else y) < L.length := by split; exact hi; split; exact hj; exact hy
    have ex : ∀ z, (if z = j then G L i else if z = i then G L j else G L z) = G L (if z = j then i else if z = i then j else z) := fun z => by split; rfl; split <;> rfl
    rw [ex, ex] at e
    have := h.nodup _ _ hx' hy' e
    split at this <;> (try split at this) <;> (try split at this) <;> (try split at this) <;> omega
  · exact (hr.kp.mono (fun k _ e => hbs k (Or.inl e))).trans (k2.mono (fun k _ e => hbs k (Or.inr e)))

theorem aswap_any (p : Nat) (v m : Value) (L : List Al) (i j : Nat) (w : World) (h : AlAt w p v m L) (hi : i < L.length) (hj : j < L.length) (hij : i ≠ j) :
    Calls Try.prog 40 #[v, .int .i64 i, .int .i64 j] w fun e w' => e = .returned (.tuple #[]) ∧ AlAt w' p v m (Sw L i j) ∧ Kp (Bs v L) w w' := by
  rcases h.row.shape with ⟨_, h0, _⟩ | ⟨g, cap, rfl, hcap, hcm, hg⟩
  · omega
  have ci : w.cell? ⟨g, i, none⟩ = some (.pointer (some ⟨(G L i).blk, 0, none⟩)) := h.row.cell (Pc_get hi)
  have cj : w.cell? ⟨g, j, none⟩ = some (.pointer (some ⟨(G L j).blk, 0, none⟩)) := h.row.cell (Pc_get hj)
  have fi := h.row.frozen i; have fj := h.row.frozen j
  have ei := h.each i hi; have ej := h.each j hj
  have q1 : (0 : Int) ≤ (i : Int) := by omega
  have q2 : (i : Int) < (L.length : Int) := by omega
  have q3 : (0 : Int) ≤ (j : Int) := by omega
  have q4 : (j : Int) < (L.length : Int) := by omega
  obtain ⟨A, hA⟩ : ∃ A, A = G L i := ⟨_, rfl⟩
  obtain ⟨B, hB⟩ : ∃ B, B = G L j := ⟨_, rfl⟩
  rw [← hA] at ci ei
  rw [← hB] at cj ej
  have HA := Lib.hid hA; have HB := Lib.hid hB; have HH := Lib.hid h
  clear hA hB h
  obtain ⟨ba, ia, ta⟩ := A
  obtain ⟨bb, ib, tb⟩ := B
  go_enter Try.func40, Try.ntmps40
  go_wp2_with fail
  go_region
  generalize hw2 : World.drew ((w.setCell _ _).setCell _ _) = w2
  have HR := Lib.hid (swap_mid (w2 := w2) HH.out (congrArg Al.blk HA.out) (congrArg Al.blk HB.out) hw2)
  clear hw2
  have ci2 : w2.cell? ⟨g, i, none⟩ = some (.pointer (some ⟨bb, 0, none⟩)) := by
    have := HR.out.row.cell (Pc_get (L := Sw L i j) (i := i) (by rw [Sw_len]; exact hi))
    rwa [Sw_G hi hj, if_neg hij, if_pos rfl, ← HB.out] at this
  have cj2 : w2.cell? ⟨g, j, none⟩ = some (.pointer (some ⟨ba, 0, none⟩)) := by
    have := HR.out.row.cell (Pc_get (L := Sw L i j) (i := j) (by rw [Sw_len]; exact hj))
    rwa [Sw_G hi hj, if_pos rfl, ← HA.out] at this
  have hba : ¬ g = ba := by have := (HH.out.own _ (G_mem hi)).2; rw [← HA.out] at this; simpa [Value.ownBlock] using this
  have hbb : ¬ g = bb := by have := (HH.out.own _ (G_mem hj)).2; rw [← HB.out] at this; simpa [Value.ownBlock] using this
  have hne : ¬ ba = bb := fun e => hij (HH.out.nodup i j hi hj (by rw [← HA.out, ← HB.out]; exact e))
  have hne' : ¬ bb = ba := fun e => hne e.symm
  have ei2 := HR.out.kp.keep ei (fun e => hba e.symm)
  have ej2 := HR.out.kp.keep ej (fun e => hbb e.symm)
  have i2 := cell_of ei2 2; have f2 := frozen_of ei2 2
  have j2 := cell_of ej2 2; have g2 := frozen_of ej2 2
  simp only [List.getElem?_toArray, List.getElem?_cons_zero, List.getElem?_cons_succ] at i2 j2
  have EI := Lib.hid ei2; have EJ := Lib.hid ej2
  clear ei ej ei2 ej2 ci cj fi fj
  go_wp2_with fail
  go_region
  (first | go_end0 | refine bodyPost_ret (results_none rfl _ _ _) rfl ?_)
  exact ⟨rfl, swap_close HH.out HR.out hi hj hij (congrArg Al.blk HA.out) (congrArg Al.blk HB.out)⟩
end Go.Proofs.Ytjipppejcpokkaa
