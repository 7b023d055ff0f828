/- slices.Delete of one of what is on its way (lines of the library's own worked proof of slices.Delete, turned to this program). Condition: it is there. -/
import Derived.Test.YtbiahndpfbmoeaaSd16
import Derived.Shelf.RegionOpenPlain
namespace Go.Proofs.Ytbiahndpfbmoeaa
open Go.RowKit Go.Maps SatAid Go.MapKept Go.ChangeMaps Go.WideShapes

theorem setCells_heap {g : Nat} {T : TypeId} {fr : Nat × Nat} (vs : List Value) : ∀ (o : Nat) (w : World) (cur : Array Value), w.heap[g]? = some (.cells cur T fr) → o + vs.length ≤ cur.size →
    ∃ cur', (w.setCells g o vs).heap[g]? = some (.cells cur' T fr) ∧ cur'.size = cur.size ∧ ∀ t, cur'[t]? = if o ≤ t ∧ t < o + vs.length then vs[t - o]? else cur[t]? := by
  induction vs with
  | nil => exact fun o w cur h _ => ⟨cur, h, rfl, fun t => by rw [if_neg (by simp)]⟩
  | cons v r ih =>
    intro o w cur h hs
    obtain ⟨cur', h1, h2, h3⟩ := ih (o + 1) (w.setCell ⟨g, o, none⟩ v) _ (heap_set h v) (by simp at hs ⊢; omega)
    refine ⟨cur', h1, by rw [h2]; simp, fun t => ?_⟩
    rw [h3]
    have hl : (v :: r).length = r.length + 1 := rfl
    rw [hl] at hs ⊢
    by_cases e : t = o
    · subst e
      rw [if_neg (by omega), if_pos (by omega), Nat.sub_self, List.getElem?_cons_zero, Array.getElem?_setIfInBounds_self, if_pos (by omega)]
    · by_cases h4 : o + 1 ≤ t ∧ t < o + 1 + r.length
      · rw [if_pos h4, if_pos (by omega), show t - o = t - (o + 1) + 1 by omega, List.getElem?_cons_succ]
      · rw [if_neg h4, if_neg (by omega), Array.getElem?_setIfInBounds_ne (by omega)]
theorem key_zero (w : World) : (zeroValue 95).run Try.prog w = .ok (.agg #[.int .i64 0, .int .i64 0]) w := by kernel_rfl
theorem run_clear_key (w : World) (ty : TypeId) (b o c : Nat) (hc : ∀ j, j < 2 → (w.cell? ⟨b, o + j, none⟩).isSome = true) (hf : ∀ j, j < 2 → w.frozen? ⟨b, o + j, none⟩ = false) :
    (Builtin.clear_ #[91] ty #[.slice (some ⟨b, o, none⟩) 1 c]).run Try.prog w = .ok (.tuple #[]) (w.setCells b o [.int .i64 0, .int .i64 0]) := by
  have hzc : (Builtin.zeroCells (Value.agg #[.int .i64 0, .int .i64 0]).cells 1).toList = [.int .i64 0, .int .i64 0] := by
    simp [Builtin.zeroCells, Value.cells, Array.range]
  have hst := run_storeCells_cells (P := Try.prog) b o [.int .i64 0, .int .i64 0] 0 w (by simpa using hc) (by simpa using hf) (by intro v hv'; simp at hv'; subst hv'; rfl)
  simp only [Nat.add_zero] at hst
  simp [Builtin.clear_, run_underlying Try.underlying91, hzc, hst]
def CutG (i : Nat) (G : List (Int × Int)) : List (Int × Int) := G.take i ++ G.drop (i + 1)
theorem CutG_len {i : Nat} {G : List (Int × Int)} (hi : i < G.length) : (CutG i G).length = G.length - 1 := by unfold CutG; rw [List.length_append, List.length_take, List.length_drop]; omega
theorem Gc_take (S : List (Int × Int)) (k : Nat) : Gc (S.take k) = (Gc S).take (k * 2) := by
  induction S generalizing k with
  | nil => simp [Gc]
  | cons y r ih =>
    cases k with
    | zero => simp [Gc]
    | succ k =>
      have e : Gc (y :: r) = .int .i64 y.1 :: .int .i64 y.2 :: Gc r := rfl
      have e2 : Gc (y :: r.take k) = .int .i64 y.1 :: .int .i64 y.2 :: Gc (r.take k) := rfl
      have e1 : (k + 1) * 2 = k * 2 + 1 + 1 := by omega
      rw [e, e1, List.take_succ_cons, List.take_succ_cons, List.take_succ_cons, e2, ih]
theorem Gc_drop (S : List (Int × Int)) (k : Nat) : Gc (S.drop k) = (Gc S).drop (k * 2) := by
  induction S generalizing k with
  | nil => simp [Gc]
  | cons y r ih =>
    cases k with
    | zero => simp
    | succ k =>
      have e : Gc (y :: r) = .int .i64 y.1 :: .int .i64 y.2 :: Gc r := rfl
      have e1 : (k + 1) * 2 = k * 2 + 1 + 1 := by omega
      rw [e, e1, List.drop_succ_cons, List.drop_succ_cons, List.drop_succ_cons, ih]
def Kdel (g cap i : Nat) (G : List (Int × Int)) (w : World) (e : Ending) (w' : World) : Prop :=
  e = .returned (.slice (some ⟨g, 0, none⟩) (G.length - 1) cap) ∧ Own w' 95 2 (.slice (some ⟨g, 0, none⟩) (G.length - 1) cap) (G.length - 1) (Gc (CutG i G)) ∧ Kp (· = g) w w'
theorem kdel_close {g cap i : Nat} {G : List (Int × Int)} {w : World} (h : Own w 95 2 (.slice (some ⟨g, 0, none⟩) G.length cap) G.length (Gc G)) (hi : i < G.length) :
    Own ((w.setCells g (i * 2) (Gc (G.drop (i + 1)))).setCells g ((G.length - 1) * 2) [.int .i64 0, .int .i64 0]) 95 2 (.slice (some ⟨g, 0, none⟩) (G.length - 1) cap) (G.length - 1) (Gc (CutG i G)) := by
  obtain ⟨hlen, h2⟩ := h
  rcases h2 with ⟨h2, _⟩ | ⟨g', cap', cur, he, hg, hh, hn, hm, hsz, hcur⟩
  · cases h2
  · cases he
    have hd : (Gc (G.drop (i + 1))).length = (G.length - (i + 1)) * 2 := by rw [Gc_len, List.length_drop]
    obtain ⟨c1, k1, s1, e1⟩ := setCells_heap (Gc (G.drop (i + 1))) (i * 2) w cur hh (by rw [hd, hsz]; omega)
    obtain ⟨c2, k2, s2, e2⟩ := setCells_heap [.int .i64 0, .int .i64 0] ((G.length - 1) * 2) _ c1 k1 (by rw [s1, hsz]; simp; omega)
    refine ⟨by rw [Gc_len, CutG_len hi], Or.inr ⟨g, cap, c2, rfl, hg, k2, by omega, hm, by rw [s2, s1, hsz], ?_⟩⟩
    apply List.ext_getElem?
    intro t
    rw [List.getElem?_take]
    have hold : ∀ t, t < G.length * 2 → cur[t]? = (Gc G)[t]? := fun t ht => by
      rw [← hcur, List.getElem?_take, if_pos ht, Array.getElem?_toList]
    have hcut : Gc (CutG i G) = (Gc G).take (i * 2) ++ (Gc G).drop ((i + 1) * 2) := by unfold CutG; rw [Gc_app, Gc_take, Gc_drop]
    have hGl := Gc_len G
    split
    · rename_i ht
      rw [Array.getElem?_toList, e2, if_neg (by simp; omega), e1, hd]
      rw [hcut]
      by_cases h5 : i * 2 ≤ t
      · rw [if_pos (by omega), Gc_drop, List.getElem?_append_right (by rw [List.length_take]; omega), List.length_take, show min (i * 2) (Gc G).length = i * 2 by omega]
      · rw [if_neg (by omega), hold t (by omega), List.getElem?_append_left (by rw [List.length_take]; omega), List.getElem?_take, if_pos (by omega)]
    · rename_i ht
      rw [List.getElem?_eq_none]
      rw [Gc_len, CutG_len hi]; omega
set_option maxHeartbeats 4000000 in
set_option maxRecDepth 1000000 in
theorem kdel_any (g cap i : Nat) (G : List (Int × Int)) (w : World) (h : Own w 95 2 (.slice (some ⟨g, 0, none⟩) G.length cap) G.length (Gc G)) (hi : i < G.length) (hl : G.length ≤ 1000000) :
    Calls Try.prog 60 #[.slice (some ⟨g, 0, none⟩) G.length cap, .int .i64 i, .int .i64 ((i : Int) + 1)] w (Kdel g cap i G w) := by
  obtain ⟨i0, hi0, hz0, hz1, hz2⟩ := info_parts key_info
  have mixed : Try.prog.follows Departure.mixedOrders = true := by kernel_rfl
  have hcap : G.length ≤ cap := by
    rcases h.shape with ⟨h1, _⟩ | ⟨g', cap', he, hc, _⟩
    · cases h1
    · cases he; exact hc
  have hg : g < w.heap.size := h.lt (by simp [Value.ownBlock])
  obtain ⟨j, hj⟩ : ∃ j, j = i + 1 := ⟨_, rfl⟩
  obtain ⟨news, hnews⟩ : ∃ news, news = Gc (G.drop (i + 1)) := ⟨_, rfl⟩
  have hlen : news.length = (G.length - j) * 2 := by rw [hnews, Gc_len, List.length_drop, hj]
  have hget : ∀ t u, news[t]? = some u → w.cell? ⟨g, j * 2 + t, none⟩ = some u := fun t u hu => by
    rw [hnews, Gc_drop, List.getElem?_drop] at hu
    rw [hj]
    exact h.cell hu
  obtain ⟨A, hA, hsrc⟩ : ∃ A : Addr, (if cap = j then some (⟨g, 0, none⟩ : Addr) else some ⟨g, j * 2, none⟩) = some A ∧ Hid (∀ t u, news[t]? = some u → w.drew.cell? (A.add t) = some u) := by
    by_cases hc : cap = j
    · refine ⟨⟨g, 0, none⟩, by simp [hc], Lib.hid fun t u hu => ?_⟩
      have h0 : news.length = 0 := by rw [hlen]; omega
      rw [List.length_eq_zero_iff.1 h0] at hu
      simp at hu
    · refine ⟨⟨g, j * 2, none⟩, by simp [hc], Lib.hid fun t u hu => ?_⟩
      rw [Addr.add_lit]
      exact hget t u hu
  have s1 : Hid (news.length = (G.length - j) * 2) := Lib.hid hlen
  have s2 : Hid (∀ u ∈ news, u.oneCell' = true) := Lib.hid (by rw [hnews]; exact Gc_one _)
  have hpres : ∀ t, t < G.length * 2 → (w.cell? ⟨g, t, none⟩).isSome = true ∧ w.frozen? ⟨g, t, none⟩ = false := fun t ht => by
    obtain ⟨u, hu⟩ : ∃ u, (Gc G)[t]? = some u := ⟨_, List.getElem?_eq_getElem (by rw [Gc_len]; exact ht)⟩
    exact ⟨by rw [h.cell hu]; rfl, h.frozen t⟩
  have s3 : Hid (∀ t, t < news.length → (w.drew.cell? ⟨g, 0 + i * 2 + t, none⟩).isSome = true ∧ w.drew.frozen? ⟨g, 0 + i * 2 + t, none⟩ = false) := Lib.hid (by
    intro t ht
    rw [hlen] at ht
    rw [Nat.zero_add]
    exact hpres (i * 2 + t) (by omega))
  obtain ⟨W1, hW1⟩ : ∃ W1, W1 = w.drew.setCells g (0 + i * 2) news := ⟨_, rfl⟩
  have hW : Hid (W1 = w.drew.setCells g (0 + i * 2) news) := Lib.hid hW1
  have him : i + (G.length - j) = G.length - 1 := by omega
  have hpres1 : ∀ t, t < G.length * 2 → (W1.cell? ⟨g, t, none⟩).isSome = true ∧ W1.frozen? ⟨g, t, none⟩ = false := fun t ht => by
    obtain ⟨a, b⟩ := hpres t ht
    rw [hW1]
    exact ⟨World.isSome_setCells g _ _ _ _ a, by rw [World.frozen?_setCells]; exact b⟩
  have hone : G.length - (i + (G.length - j)) = 1 := by omega
  have hcl : ∀ ty, (Builtin.clear_ #[91] ty #[.slice (some ⟨g, (i + (G.length - j)) * 2, none⟩) (G.length - (i + (G.length - j))) (cap - (i + (G.length - j)))]).run Try.prog W1 = .ok (.tuple #[]) (W1.setCells g ((i + (G.length - j)) * 2) [.int .i64 0, .int .i64 0]) := fun ty => by
    rw [hone]
    exact run_clear_key W1 ty g ((i + (G.length - j)) * 2) (cap - (i + (G.length - j))) (fun t ht => (hpres1 _ (by omega)).1) (fun t ht => (hpres1 _ (by omega)).2)
  have HFIN := Lib.hid (show Kdel g cap i G w (.returned (.slice (some ⟨g, 0, none⟩) (i + (G.length - j)) cap)) (W1.setCells g ((i + (G.length - j)) * 2) [.int .i64 0, .int .i64 0]) from by
    rw [him, hW1, hnews, Nat.zero_add]
    have hd : (w.drew.setCells g (i * 2) (Gc (G.drop (i + 1)))).setCells g ((G.length - 1) * 2) [.int .i64 0, .int .i64 0] = (w.drew.setCells g (i * 2) (Gc (G.drop (i + 1)))).setCells g ((G.length - 1) * 2) [.int .i64 0, .int .i64 0] := rfl
    exact ⟨rfl, kdel_close (w := w.drew) h hi, (((Kp.refl _ w).drew).trans (kp_setCells _ _)).trans (kp_setCells _ _)⟩)
  rw [show ((i : Int) + 1) = (j : Int) by rw [hj]; rfl]
  have q1 : (0 : Int) ≤ (i : Int) := by omega
  have q2 : (i : Int) ≤ (j : Int) := by omega
  have q3 : (j : Int) ≤ (G.length : Int) := by omega
  have q4 : (G.length : Int) ≤ (cap : Int) := by omega
  have q5 : ¬ (i : Int) = (j : Int) := by omega
  have q6 : (i : Int) ≤ (cap : Int) := by omega
  have q7 : (j : Int) ≤ (cap : Int) := by omega
  have HIM := Lib.hid him; have HONE := Lib.hid hone
  have q8 : ¬ cap = i + (G.length - j) := by omega
  have q9 : i + (G.length - j) ≤ G.length := by omega
  have q10 : i + (G.length - j) ≤ cap := by omega
  have q11 : i ≤ cap := by omega
  have q12 : i + (G.length - j) ≤ 1000000 := by omega
  clear hj hnews hlen hget hpres hpres1 hW1 him h hone
  go_enter Try.func60, Try.ntmps60
  go_wp2_with fail
  go_region_law_o (refine step_append_room rfl (.tmp 22) (.tmp 25) 91 rfl 95 i0 2 Try.underlying91 hi0 hz1 g 0 i cap (by simp [Act.eval, Act.put]) A (G.length - j) (cap - j) news (by simp [Act.eval, Act.put]; first | exact hA | skip) s1.out hsrc.out s2.out (by omega) s3.out ?_; rw [← hW.out])
  go_wp2_with fail
  go_ret
  exact HFIN.out
end Go.Proofs.Ytbiahndpfbmoeaa
