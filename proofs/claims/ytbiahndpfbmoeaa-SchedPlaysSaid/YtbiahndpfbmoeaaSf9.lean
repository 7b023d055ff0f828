/- What the reference's End does: the walk. Conditions: there are no more recipients than fit into memory; times do not go back. -/
import Derived.Test.YtbiahndpfbmoeaaSfB
namespace Go.Proofs.Ytbiahndpfbmoeaa
open Go.RowKit SatAid

def FEndY (q N : Nat) (s : Sd) (i : Nat) (good stays : Bool) (n now : Int) (w : World) (e : Ending) (w' : World) : Prop :=
  ∃ x s' vl' vp', x ∈ (ab s).W ∧ (ab s).G[i]? = some (x.id, x.rc) ∧ e = .returned (.tuple #[.agg #[.int .i64 x.id, .int .i64 x.rc, .string x.dom], .bool true]) ∧ MIn w' q s' vl' vp' N ∧ St w w' s s' ∧
    Aeq (ab s') (aEnd (ab s) i x stays (C n)) ∧ Ve now x.dom good s s' ∧ s'.D = s.D
set_option maxRecDepth 100000 in
set_option maxHeartbeats 6400000 in
theorem fend_no (q N : Nat) (s : Sd) (vl vp : Value) (i : Int) (good stays : Bool) (n : Int) (w : World) (h : MIn w q s vl vp N) (hi : i < 0 ∨ (s.G.length : Int) ≤ i) :
    Calls Try.prog 33 #[.pointer (some ⟨q, 0, none⟩), .int .i64 i, .bool good, .bool stays, .int .i64 n] w fun e w' => e = .returned (.tuple #[z3, .bool false]) ∧ Kp (fun _ => False) w w' := by
  obtain ⟨vo, vc, hvg⟩ := h.gng.slice
  have c13 : w.cell? ⟨q, 13, none⟩ = some s.vg := (cell_of h.head 13).trans rfl
  rw [hvg] at c13
  have lp := lt_of_block h.head
  clear h hvg
  by_cases h1 : i < 0
  · clear hi
    go_enter Try.func33, Try.ntmps33
    go_wp2_with fail
    refine bodyPost_ret (v := .tuple #[z3, .bool false]) ?_ rfl ⟨rfl, (by repeat (first | exact Kp.refl _ _ | apply Kp.drew | apply Kp.drewN | refine Kp.setCell ?_ _ _ (Or.inl rfl) | apply Kp.alloc))⟩
    rw [results_cell_tmp rfl]
    go_simp
    rfl
  · have h2 : (s.G.length : Int) ≤ i := by omega
    clear hi
    go_enter Try.func33, Try.ntmps33
    go_wp2_with fail
    refine bodyPost_ret (v := .tuple #[z3, .bool false]) ?_ rfl ⟨rfl, (by repeat (first | exact Kp.refl _ _ | apply Kp.drew | apply Kp.drewN | refine Kp.setCell ?_ _ _ (Or.inl rfl) | apply Kp.alloc))⟩
    rw [results_cell_tmp rfl]
    go_simp
    rfl
set_option maxRecDepth 100000 in
set_option maxHeartbeats 12800000 in
theorem fend_yes (q N : Nat) (s : Sd) (vl vp : Value) (i : Nat) (good stays : Bool) (n now : Int) (w : World) (h : MIn w q s vl vp N) (hil : i < s.G.length) (ht : Tik s now) (hn : 0 ≤ now) (hn2 : now ≤ 1099511627776) (hN : N ≤ 1000000) :
    Calls Try.prog 33 #[.pointer (some ⟨q, 0, none⟩), .int .i64 i, .bool good, .bool stays, .int .i64 n] w (FEndY q N s i good stays n now w) := by
  obtain ⟨k, hk⟩ : ∃ k, s.G[i]? = some k := ⟨_, List.getElem?_eq_getElem hil⟩
  obtain ⟨x, hx, hxk, hxg⟩ := h.gin k (List.mem_of_getElem? hk)
  subst hxk
  obtain ⟨T, hT⟩ : ∃ T, T = aStarts (ab s) := ⟨_, rfl⟩
  have hTl : T.length = s.G.length := by rw [hT]; unfold aStarts; rw [List.length_map]; rfl
  have hTi : T[i]? = some (x.id, x.rc, x.dom) := by rw [hT]; exact h.start hx hk
  rcases h.gng.shape with ⟨_, h1, _⟩ | ⟨g, cap, hvg, hcap, hcm, hg⟩
  · omega
  have hgng := h.gng
  rw [hvg, ← hT] at hgng
  have c13 : w.cell? ⟨q, 13, none⟩ = some (.slice (some ⟨g, 0, none⟩) s.G.length cap) := (cell_of h.head 13).trans (by show some s.vg = _; rw [hvg])
  have g0 := hgng.cell (Stc_get hTi).1
  have g1 := hgng.cell (Stc_get hTi).2.1
  have g2 := hgng.cell (Stc_get hTi).2.2
  simp only at g0 g1 g2
  have lp := lt_of_block h.head
  have q0 : (0 : Int) ≤ (i : Int) := by omega
  have q1 : (i : Int) < (s.G.length : Int) := by omega
  have q2 : ¬ (i : Int) < 0 := by omega
  have q3 : ¬ (s.G.length : Int) ≤ (i : Int) := by omega
  have hGl : s.G.length ≤ N := h.glen
  have HX := Lib.hid hx; have HK := Lib.hid hk; have HT := Lib.hid hT; have HTL := Lib.hid hTl; have HTI := Lib.hid hTi; have H := Lib.hid h; have HGN := Lib.hid hgng; have HVG := Lib.hid hvg; have HTK := Lib.hid ht
  clear hx hk hT hTl hTi h hgng hvg hxg ht
  go_enter Try.func33, Try.ntmps33
  go_wp2_with fail
  have hk5 : Kp (fun _ => False) w ((w.alloc (.cells #[.int .i64 0, .int .i64 0, .string ({ data := #[] } : ByteArray)] 66)).alloc (.cells #[.int .i64 x.id, .int .i64 x.rc, .string x.dom] 66)) := (by repeat (first | exact Kp.refl _ _ | apply Kp.drew | apply Kp.drewN | refine Kp.setCell ?_ _ _ (Or.inl rfl) | apply Kp.alloc))
  have hr5 := heap_old (.cells #[.int .i64 x.id, .int .i64 x.rc, .string x.dom] 66) (heap_new (w := w) (.cells #[.int .i64 0, .int .i64 0, .string ({ data := #[] } : ByteArray)] 66))
  have hx5 := heap_new2 (w := w) (.cells #[.int .i64 0, .int .i64 0, .string ({ data := #[] } : ByteArray)] 66) (.cells #[.int .i64 x.id, .int .i64 x.rc, .string x.dom] 66)
  obtain ⟨w5, hw5⟩ : ∃ w5, w5 = (w.alloc (.cells #[.int .i64 0, .int .i64 0, .string ({ data := #[] } : ByteArray)] 66)).alloc (.cells #[.int .i64 x.id, .int .i64 x.rc, .string x.dom] 66) := ⟨_, rfl⟩
  obtain ⟨b12, hb12⟩ : ∃ b, b = w.heap.size + 1 := ⟨_, rfl⟩
  obtain ⟨b10, hb10⟩ : ∃ b, b = w.heap.size := ⟨_, rfl⟩
  rw [← hw5] at hk5 hr5 hx5 ⊢
  rw [← hb12] at hx5 ⊢
  rw [← hb10] at hr5 ⊢
  have HRS := Lib.hid (H.out.local (Nat.le_of_eq hb10.symm) hr5)
  have HXS := Lib.hid (H.out.local (by omega : w.heap.size ≤ b12) hx5)
  have HBN := Lib.hid (show b10 ≠ b12 ∧ w.heap.size ≤ b10 ∧ w.heap.size ≤ b12 from by omega)
  have H5 := Lib.hid (H.out.calm hk5)
  have HST5 := Lib.hid (show St w w5 s s from St.of hk5 (fun _ _ h => h.elim) rfl)
  have HF := Lib.hid (show ∀ w', Kp (fun _ => False) w5 w' → w'.cell? ⟨q, 13, none⟩ = some (.slice (some ⟨g, 0, none⟩) s.G.length cap) from fun w' hk => (cell_of (hk.keep H5.out.head (fun h => h)) 13).trans (by show some s.vg = _; rw [HVG.out]))
  have HSRC := Lib.hid (show ∀ w', Kp (fun _ => False) w5 w' → ∀ j u, (Stc T)[j]? = some u → w'.cell? ⟨g, j, none⟩ = some u from fun w' hk => row_src HGN.out (hk5.trans hk))
  have HQ5 := Lib.hid (show q < w5.heap.size ∧ w5.frozen? ⟨q, 13, none⟩ = false from ⟨lt_of_block H5.out.head, frozen_of H5.out.head 13⟩)
  clear hw5 hk5 hr5 hx5 hb10 hb12 c13 g0 g1 g2
  go_cut [] from 34 (fun wx => ∃ (z : World) (a9 : Option Addr) (n9 c9 : Nat), wx = z.setCell ⟨q, 13, none⟩ (.slice a9 n9 c9) ∧ Kp (fun _ => False) w5 z ∧ z.ownsRow w5.heap.size 66 3 (.slice a9 n9 c9) n9 (Stc (T.take i) ++ Stc (T.drop (i + 1))) ∧ n9 = s.G.length - 1)
  case first =>
    obtain ⟨i0, hi, hi0, hi1, hi2⟩ := info_parts st_info
    have q1 : (0 : Int) ≤ (i : Int) := by omega
    have q2 : (i : Int) ≤ (cap : Int) := by omega
    have q3 : (0 : Int) ≤ (i : Int) + 1 := by omega
    have q4 : (i : Int) + 1 ≤ (s.G.length : Int) := by omega
    have q5 : ((i : Int) + 1).toNat = i + 1 := by omega
    have q6 : (i : Int) ≤ (i : Int) + 1 := by omega
    have hw1 : IntKind.i64.wrap ((i : Int) + 1) = (i : Int) + 1 := IntWalk.i64_in _ (by omega)
    have HN1 := Lib.hid (show ∀ w', Kp (fun _ => False) w5 w' → ∀ j u, (Stc (T.take i))[j]? = some u → w'.cell? ((⟨g, 0, none⟩ : Addr).add j) = some u from fun w' hk => by
      rw [show Stc (T.take i) = (Stc T).take (i * 3) from flat_take (n := 3) (fun _ => rfl) _ _]
      exact take_src (HSRC.out w' hk))
    have HL1 := Lib.hid (show (Stc (T.take i)).length = i * 3 from by rw [Stc_len, List.length_take]; have := HTL.out; omega)
    by_cases hcc : cap = i + 1
    · have hlen : s.G.length = i + 1 := by omega
      have HN2 := Lib.hid (show ∀ w', Kp (fun _ => False) w5 w' → ∀ j u, (Stc (T.drop (i + 1)))[j]? = some u → w'.cell? ((⟨g, 0, none⟩ : Addr).add j) = some u from fun w' hk j u hu => by
        rw [List.drop_eq_nil_of_le (by have := HTL.out; omega)] at hu
        simp [Stc] at hu)
      have HL2 := Lib.hid (show (Stc (T.drop (i + 1))).length = 0 * 3 from by rw [Stc_len, List.length_drop]; have := HTL.out; omega)
      have HLN := Lib.hid hlen
      subst hcc
      clear hlen
      refine region_E 19 (fun w' => Kp (fun _ => False) w5 w') (by kernel_rfl) (Kp.refl _ _).drew (fun hS => ?_)
      refine takeE (i := 0) (v := ?_) rfl (by kernel_rfl) (by kernel_rfl) (by kernel_rfl) (by kernel_rfl) (fun _ _ _ h => h) hS (Or.inl ⟨by rfl, ?_⟩) ?_
      rotate_left
      · intro w hSw; obtain f12 := HF.out w hSw; go_simp <;> with_reducible rfl
      try simp only [Act.put, List.setIfInBounds_toArray, List.set_cons_zero, List.set_cons_succ]
      refine takeE (i := 2) (v := ?_) rfl (by kernel_rfl) (by kernel_rfl) (by kernel_rfl) (by kernel_rfl) (fun _ _ _ h => h) hS (Or.inl ⟨by rfl, ?_⟩) ?_
      rotate_left
      · intro w hSw; obtain f12 := HF.out w hSw; go_simp <;> with_reducible rfl
      try simp only [Act.put, List.setIfInBounds_toArray, List.set_cons_zero, List.set_cons_succ]
      refine takeE (i := 3) (v := ?_) rfl (by kernel_rfl) (by kernel_rfl) (by kernel_rfl) (by kernel_rfl) (fun _ _ _ h => h) hS (Or.inl ⟨by rfl, ?_⟩) ?_
      rotate_left
      · intro w hSw; obtain f12 := HF.out w hSw; go_simp <;> with_reducible rfl
      try simp only [Act.put, List.setIfInBounds_toArray, List.set_cons_zero, List.set_cons_succ]
      refine takeE (i := 4) (v := ?_) rfl (by kernel_rfl) (by kernel_rfl) (by kernel_rfl) (by kernel_rfl) (fun _ _ _ h => h) hS (Or.inl ⟨by rfl, ?_⟩) ?_
      rotate_left
      · intro w hSw; obtain f12 := HF.out w hSw; go_simp <;> with_reducible rfl
      try simp only [Act.put, List.setIfInBounds_toArray, List.set_cons_zero, List.set_cons_succ]
      refine takeE (i := 5) (v := ?_) rfl (by kernel_rfl) (by kernel_rfl) (by kernel_rfl) (by kernel_rfl) (fun _ _ _ h => h) hS (Or.inl ⟨by rfl, ?_⟩) ?_
      rotate_left
      · intro w hSw; obtain f12 := HF.out w hSw; go_simp <;> with_reducible rfl
      try simp only [Act.put, List.setIfInBounds_toArray, List.set_cons_zero, List.set_cons_succ]
      refine takeE (i := 6) (v := ?_) rfl (by kernel_rfl) (by kernel_rfl) (by kernel_rfl) (by kernel_rfl) (fun _ _ _ h => h) hS (Or.inl ⟨by rfl, ?_⟩) ?_
      rotate_left
      · intro w hSw; obtain f12 := HF.out w hSw; go_simp <;> with_reducible rfl
      try simp only [Act.put, List.setIfInBounds_toArray, List.set_cons_zero, List.set_cons_succ]
      refine takeE (i := 7) (v := ?_) rfl (by kernel_rfl) (by kernel_rfl) (by kernel_rfl) (by kernel_rfl) (fun _ _ _ h => h) hS (Or.inl ⟨by rfl, ?_⟩) ?_
      rotate_left
      · intro w hSw; obtain f12 := HF.out w hSw; go_simp <;> with_reducible rfl
      try simp only [Act.put, List.setIfInBounds_toArray, List.set_cons_zero, List.set_cons_succ]
      refine takeE (i := 9) (v := ?_) rfl (by kernel_rfl) (by kernel_rfl) (by kernel_rfl) (by kernel_rfl) (fun _ _ _ h => h) hS (Or.inl ⟨by rfl, ?_⟩) ?_
      rotate_left
      · intro w hSw; obtain f12 := HF.out w hSw; go_simp <;> with_reducible rfl
      try simp only [Act.put, List.setIfInBounds_toArray, List.set_cons_zero, List.set_cons_succ]
      refine takeE (i := 10) (v := ?_) rfl (by kernel_rfl) (by kernel_rfl) (by kernel_rfl) (by kernel_rfl) (fun _ _ _ h => h) hS (Or.inl ⟨by rfl, ?_⟩) ?_
      rotate_left
      · intro w hSw; obtain f12 := HF.out w hSw; go_simp <;> with_reducible rfl
      try simp only [Act.put, List.setIfInBounds_toArray, List.set_cons_zero, List.set_cons_succ]
      refine takeE (i := 11) (v := ?_) rfl (by kernel_rfl) (by kernel_rfl) (by kernel_rfl) (by kernel_rfl) (fun _ _ _ h => h) hS (Or.inl ⟨by rfl, ?_⟩) ?_
      rotate_left
      · intro w hSw; obtain f12 := HF.out w hSw; go_simp <;> with_reducible rfl
      try simp only [Act.put, List.setIfInBounds_toArray, List.set_cons_zero, List.set_cons_succ]
      refine takeE (i := 12) (v := ?_) rfl (by kernel_rfl) (by kernel_rfl) (by kernel_rfl) (by kernel_rfl) (fun _ _ _ h => h) hS (Or.inl ⟨by rfl, ?_⟩) ?_
      rotate_left
      · intro w hSw; obtain f12 := HF.out w hSw; go_simp <;> with_reducible rfl
      try simp only [Act.put, List.setIfInBounds_toArray, List.set_cons_zero, List.set_cons_succ]
      refine takeE (i := 13) (v := ?_) rfl (by kernel_rfl) (by kernel_rfl) (by kernel_rfl) (by kernel_rfl) (fun _ _ _ h => h) hS (Or.inl ⟨by rfl, ?_⟩) ?_
      rotate_left
      · intro w hSw; obtain f12 := HF.out w hSw; go_simp <;> with_reducible rfl
      try simp only [Act.put, List.setIfInBounds_toArray, List.set_cons_zero, List.set_cons_succ]
      refine takeE (i := 14) (v := ?_) rfl (by kernel_rfl) (by kernel_rfl) (by kernel_rfl) (by kernel_rfl) (fun _ _ _ h => h) hS (Or.inl ⟨by rfl, ?_⟩) ?_
      rotate_left
      · intro w hSw; obtain f12 := HF.out w hSw; go_simp <;> with_reducible rfl
      try simp only [Act.put, List.setIfInBounds_toArray, List.set_cons_zero, List.set_cons_succ]
      refine takeE (i := 15) (v := ?_) rfl (by kernel_rfl) (by kernel_rfl) (by kernel_rfl) (by kernel_rfl) (fun _ _ _ h => h) hS (Or.inl ⟨by rfl, ?_⟩) ?_
      rotate_left
      · intro w hSw; obtain f12 := HF.out w hSw; go_simp <;> with_reducible rfl
      try simp only [Act.put, List.setIfInBounds_toArray, List.set_cons_zero, List.set_cons_succ]
      refine readyE (rs := [1]) (by kernel_rfl) (by simp) ?_
      refine consE (o := _) rfl (fun K hK => ?_) nilE
      -- 1 buildSlice
      go_simp
      have hsz1 := hS.size
      refine allocE hK (hS.alloc _) (fun z1 hz1 hS => ?_)
      have hO1 : z1.ownsRow w5.heap.size 66 3 (.slice (some ⟨w5.drew.heap.size, 0, none⟩) 0 0) 0 [] := by rw [hz1]; exact World.ownsRow_lit _ #[] 0 hsz1 (by unfold maxLen; omega) rfl
      have hin1 : ∀ k, In (.slice (some ⟨w5.drew.heap.size, 0, none⟩) 0 0) k → k = w5.drew.heap.size := fun k e => by have e2 : some w5.drew.heap.size = some k := e; cases e2; rfl
      clear hz1
      clear hK K
      try simp only [Act.put, List.setIfInBounds_toArray, List.set_cons_zero, List.set_cons_succ]
      refine readyE (rs := [8]) (by kernel_rfl) (by simp) ?_
      refine consE (o := _) rfl (fun K hK => ?_) nilE
      -- 8 call
      refine step_append_src rfl _ _ 52 rfl w5.heap.size 66 i0 _ 3 32 Try.underlying52 hi hi0 hi1 hi2 rfl (by decide) _ 0 [] rfl hO1 (some ⟨g, 0, none⟩) i (i + 1) (Stc (T.take i)) rfl (fun h => by cases h) HL1.out (by intro ad e; cases e; exact HN1.out _ hS) (Stc_one _) (by unfold maxLen; omega) (by omega) hS.size ?_
      intro v6 z2 hO6 hk6
      have hS6 : Kp (fun _ => False) w5 z2 := hS.trans_new hk6 (fun k h1 h2 => by have := hin1 k h2; omega)
      refine keepE hK hS6 (fun hS => ?_)
      clear hK K
      try simp only [Act.put, List.setIfInBounds_toArray, List.set_cons_zero, List.set_cons_succ]
      refine readyE (rs := [16]) (by kernel_rfl) (by simp) ?_
      refine consE (o := _) rfl (fun K hK => ?_) nilE
      -- 16 call
      refine step_append_src rfl _ _ 52 rfl w5.heap.size 66 i0 _ 3 32 Try.underlying52 hi hi0 hi1 hi2 rfl (by decide) _ _ _ rfl hO6 (some ⟨g, 0, none⟩) 0 0 (Stc (T.drop (i + 1))) rfl (fun h => by cases h) HL2.out (by intro ad e; cases e; exact HN2.out _ hS) (Stc_one _) (by unfold maxLen; omega) (by omega) hS.size ?_
      intro v9 z3 hO9 hk9
      obtain ⟨a9, c9, rfl⟩ := (own_weaken hO9).slice
      have hS9 : Kp (fun _ => False) w5 z3 := hS.trans_new hk9 (fun k h1 h2 => by have := (World.ownsRow.lt hO6 k h2).1; omega)
      refine keepE hK hS9 (fun hS => ?_)
      clear hK K
      try simp only [Act.put, List.setIfInBounds_toArray, List.set_cons_zero, List.set_cons_succ]
      refine readyE (rs := [17]) (by kernel_rfl) (by simp) ?_
      refine consE (o := _) rfl (fun K hK => ?_) nilE
      -- 17 nilCheck
      go_simp
      refine keepE hK hS (fun hS => ?_)
      clear hK K
      try simp only [Act.put, List.setIfInBounds_toArray, List.set_cons_zero, List.set_cons_succ]
      refine takeE (i := 18) (v := ?_) rfl (by kernel_rfl) (by kernel_rfl) (by kernel_rfl) (by kernel_rfl) (fun _ _ _ h => h) hS (Or.inl ⟨by rfl, ?_⟩) ?_
      rotate_left
      · intro w hSw; obtain f12 := HF.out w hSw; go_simp <;> with_reducible rfl
      try simp only [Act.put, List.setIfInBounds_toArray, List.set_cons_zero, List.set_cons_succ]
      refine readyE (rs := [19]) (by kernel_rfl) (by simp) ?_
      refine consE (o := _) rfl (fun K hK => ?_) nilE
      -- 19 store
      have e12 := (hS.frozen 13 HQ5.out.1 (fun h => h)).trans HQ5.out.2
      have f12 := HF.out _ hS
      go_simp
      refine hK.out _ _ (fun h => absurd rfl h) ?_
      clear hK K
      try simp only [Act.put, List.setIfInBounds_toArray, List.set_cons_zero, List.set_cons_succ]
      refine doneE (by kernel_rfl) ?_ _
      go_wp2_with fail
      go_meet
      exact ⟨_, _, _, _, rfl, hS, by have h := hO9; rw [List.nil_append, Nat.zero_add] at h; exact h, by omega⟩
    · have HN2 := Lib.hid (show ∀ w', Kp (fun _ => False) w5 w' → ∀ j u, (Stc (T.drop (i + 1)))[j]? = some u → w'.cell? ((⟨g, (i + 1) * 3, none⟩ : Addr).add j) = some u from fun w' hk => by
        rw [show Stc (T.drop (i + 1)) = (Stc T).drop ((i + 1) * 3) from flat_drop (n := 3) (fun _ => rfl) _ _]
        exact drop_src (HSRC.out w' hk))
      have HL2 := Lib.hid (show (Stc (T.drop (i + 1))).length = (s.G.length - (i + 1)) * 3 from by rw [Stc_len, List.length_drop]; have := HTL.out; omega)
      refine region_E 19 (fun w' => Kp (fun _ => False) w5 w') (by kernel_rfl) (Kp.refl _ _).drew (fun hS => ?_)
      refine takeE (i := 0) (v := ?_) rfl (by kernel_rfl) (by kernel_rfl) (by kernel_rfl) (by kernel_rfl) (fun _ _ _ h => h) hS (Or.inl ⟨by rfl, ?_⟩) ?_
      rotate_left
      · intro w hSw; obtain f12 := HF.out w hSw; go_simp <;> with_reducible rfl
      try simp only [Act.put, List.setIfInBounds_toArray, List.set_cons_zero, List.set_cons_succ]
      refine takeE (i := 2) (v := ?_) rfl (by kernel_rfl) (by kernel_rfl) (by kernel_rfl) (by kernel_rfl) (fun _ _ _ h => h) hS (Or.inl ⟨by rfl, ?_⟩) ?_
      rotate_left
      · intro w hSw; obtain f12 := HF.out w hSw; go_simp <;> with_reducible rfl
      try simp only [Act.put, List.setIfInBounds_toArray, List.set_cons_zero, List.set_cons_succ]
      refine takeE (i := 3) (v := ?_) rfl (by kernel_rfl) (by kernel_rfl) (by kernel_rfl) (by kernel_rfl) (fun _ _ _ h => h) hS (Or.inl ⟨by rfl, ?_⟩) ?_
      rotate_left
      · intro w hSw; obtain f12 := HF.out w hSw; go_simp <;> with_reducible rfl
      try simp only [Act.put, List.setIfInBounds_toArray, List.set_cons_zero, List.set_cons_succ]
      refine takeE (i := 4) (v := ?_) rfl (by kernel_rfl) (by kernel_rfl) (by kernel_rfl) (by kernel_rfl) (fun _ _ _ h => h) hS (Or.inl ⟨by rfl, ?_⟩) ?_
      rotate_left
      · intro w hSw; obtain f12 := HF.out w hSw; go_simp <;> with_reducible rfl
      try simp only [Act.put, List.setIfInBounds_toArray, List.set_cons_zero, List.set_cons_succ]
      refine takeE (i := 5) (v := ?_) rfl (by kernel_rfl) (by kernel_rfl) (by kernel_rfl) (by kernel_rfl) (fun _ _ _ h => h) hS (Or.inl ⟨by rfl, ?_⟩) ?_
      rotate_left
      · intro w hSw; obtain f12 := HF.out w hSw; go_simp <;> with_reducible rfl
      try simp only [Act.put, List.setIfInBounds_toArray, List.set_cons_zero, List.set_cons_succ]
      refine takeE (i := 6) (v := ?_) rfl (by kernel_rfl) (by kernel_rfl) (by kernel_rfl) (by kernel_rfl) (fun _ _ _ h => h) hS (Or.inl ⟨by rfl, ?_⟩) ?_
      rotate_left
      · intro w hSw; obtain f12 := HF.out w hSw; go_simp <;> with_reducible rfl
      try simp only [Act.put, List.setIfInBounds_toArray, List.set_cons_zero, List.set_cons_succ]
      refine takeE (i := 7) (v := ?_) rfl (by kernel_rfl) (by kernel_rfl) (by kernel_rfl) (by kernel_rfl) (fun _ _ _ h => h) hS (Or.inl ⟨by rfl, ?_⟩) ?_
      rotate_left
      · intro w hSw; obtain f12 := HF.out w hSw; go_simp <;> with_reducible rfl
      try simp only [Act.put, List.setIfInBounds_toArray, List.set_cons_zero, List.set_cons_succ]
      refine takeE (i := 9) (v := ?_) rfl (by kernel_rfl) (by kernel_rfl) (by kernel_rfl) (by kernel_rfl) (fun _ _ _ h => h) hS (Or.inl ⟨by rfl, ?_⟩) ?_
      rotate_left
      · intro w hSw; obtain f12 := HF.out w hSw; go_simp <;> with_reducible rfl
      try simp only [Act.put, List.setIfInBounds_toArray, List.set_cons_zero, List.set_cons_succ]
      refine takeE (i := 10) (v := ?_) rfl (by kernel_rfl) (by kernel_rfl) (by kernel_rfl) (by kernel_rfl) (fun _ _ _ h => h) hS (Or.inl ⟨by rfl, ?_⟩) ?_
      rotate_left
      · intro w hSw; obtain f12 := HF.out w hSw; go_simp <;> with_reducible rfl
      try simp only [Act.put, List.setIfInBounds_toArray, List.set_cons_zero, List.set_cons_succ]
      refine takeE (i := 11) (v := ?_) rfl (by kernel_rfl) (by kernel_rfl) (by kernel_rfl) (by kernel_rfl) (fun _ _ _ h => h) hS (Or.inl ⟨by rfl, ?_⟩) ?_
      rotate_left
      · intro w hSw; obtain f12 := HF.out w hSw; go_simp <;> with_reducible rfl
      try simp only [Act.put, List.setIfInBounds_toArray, List.set_cons_zero, List.set_cons_succ]
      refine takeE (i := 12) (v := ?_) rfl (by kernel_rfl) (by kernel_rfl) (by kernel_rfl) (by kernel_rfl) (fun _ _ _ h => h) hS (Or.inl ⟨by rfl, ?_⟩) ?_
      rotate_left
      · intro w hSw; obtain f12 := HF.out w hSw; go_simp <;> with_reducible rfl
      try simp only [Act.put, List.setIfInBounds_toArray, List.set_cons_zero, List.set_cons_succ]
      refine takeE (i := 13) (v := ?_) rfl (by kernel_rfl) (by kernel_rfl) (by kernel_rfl) (by kernel_rfl) (fun _ _ _ h => h) hS (Or.inl ⟨by rfl, ?_⟩) ?_
      rotate_left
      · intro w hSw; obtain f12 := HF.out w hSw; go_simp <;> with_reducible rfl
      try simp only [Act.put, List.setIfInBounds_toArray, List.set_cons_zero, List.set_cons_succ]
      refine takeE (i := 14) (v := ?_) rfl (by kernel_rfl) (by kernel_rfl) (by kernel_rfl) (by kernel_rfl) (fun _ _ _ h => h) hS (Or.inl ⟨by rfl, ?_⟩) ?_
      rotate_left
      · intro w hSw; obtain f12 := HF.out w hSw; go_simp <;> with_reducible rfl
      try simp only [Act.put, List.setIfInBounds_toArray, List.set_cons_zero, List.set_cons_succ]
      refine takeE (i := 15) (v := ?_) rfl (by kernel_rfl) (by kernel_rfl) (by kernel_rfl) (by kernel_rfl) (fun _ _ _ h => h) hS (Or.inl ⟨by rfl, ?_⟩) ?_
      rotate_left
      · intro w hSw; obtain f12 := HF.out w hSw; go_simp <;> with_reducible rfl
      try simp only [Act.put, List.setIfInBounds_toArray, List.set_cons_zero, List.set_cons_succ]
      refine readyE (rs := [1]) (by kernel_rfl) (by simp) ?_
      refine consE (o := _) rfl (fun K hK => ?_) nilE
      -- 1 buildSlice
      go_simp
      have hsz1 := hS.size
      refine allocE hK (hS.alloc _) (fun z1 hz1 hS => ?_)
      have hO1 : z1.ownsRow w5.heap.size 66 3 (.slice (some ⟨w5.drew.heap.size, 0, none⟩) 0 0) 0 [] := by rw [hz1]; exact World.ownsRow_lit _ #[] 0 hsz1 (by unfold maxLen; omega) rfl
      have hin1 : ∀ k, In (.slice (some ⟨w5.drew.heap.size, 0, none⟩) 0 0) k → k = w5.drew.heap.size := fun k e => by have e2 : some w5.drew.heap.size = some k := e; cases e2; rfl
      clear hz1
      clear hK K
      try simp only [Act.put, List.setIfInBounds_toArray, List.set_cons_zero, List.set_cons_succ]
      refine readyE (rs := [8]) (by kernel_rfl) (by simp) ?_
      refine consE (o := _) rfl (fun K hK => ?_) nilE
      -- 8 call
      refine step_append_src rfl _ _ 52 rfl w5.heap.size 66 i0 _ 3 32 Try.underlying52 hi hi0 hi1 hi2 rfl (by decide) _ 0 [] rfl hO1 (some ⟨g, 0, none⟩) i cap (Stc (T.take i)) rfl (fun h => by cases h) HL1.out (by intro ad e; cases e; exact HN1.out _ hS) (Stc_one _) (by unfold maxLen; omega) (by omega) hS.size ?_
      intro v6 z2 hO6 hk6
      have hS6 : Kp (fun _ => False) w5 z2 := hS.trans_new hk6 (fun k h1 h2 => by have := hin1 k h2; omega)
      refine keepE hK hS6 (fun hS => ?_)
      clear hK K
      try simp only [Act.put, List.setIfInBounds_toArray, List.set_cons_zero, List.set_cons_succ]
      refine readyE (rs := [16]) (by kernel_rfl) (by simp) ?_
      refine consE (o := _) rfl (fun K hK => ?_) nilE
      -- 16 call
      refine step_append_src rfl _ _ 52 rfl w5.heap.size 66 i0 _ 3 32 Try.underlying52 hi hi0 hi1 hi2 rfl (by decide) _ _ _ rfl hO6 (some ⟨g, (i + 1) * 3, none⟩) (s.G.length - (i + 1)) (cap - (i + 1)) (Stc (T.drop (i + 1))) rfl (fun h => by cases h) HL2.out (by intro ad e; cases e; exact HN2.out _ hS) (Stc_one _) (by unfold maxLen; omega) (by omega) hS.size ?_
      intro v9 z3 hO9 hk9
      obtain ⟨a9, c9, rfl⟩ := (own_weaken hO9).slice
      have hS9 : Kp (fun _ => False) w5 z3 := hS.trans_new hk9 (fun k h1 h2 => by have := (World.ownsRow.lt hO6 k h2).1; omega)
      refine keepE hK hS9 (fun hS => ?_)
      clear hK K
      try simp only [Act.put, List.setIfInBounds_toArray, List.set_cons_zero, List.set_cons_succ]
      refine readyE (rs := [17]) (by kernel_rfl) (by simp) ?_
      refine consE (o := _) rfl (fun K hK => ?_) nilE
      -- 17 nilCheck
      go_simp
      refine keepE hK hS (fun hS => ?_)
      clear hK K
      try simp only [Act.put, List.setIfInBounds_toArray, List.set_cons_zero, List.set_cons_succ]
      refine takeE (i := 18) (v := ?_) rfl (by kernel_rfl) (by kernel_rfl) (by kernel_rfl) (by kernel_rfl) (fun _ _ _ h => h) hS (Or.inl ⟨by rfl, ?_⟩) ?_
      rotate_left
      · intro w hSw; obtain f12 := HF.out w hSw; go_simp <;> with_reducible rfl
      try simp only [Act.put, List.setIfInBounds_toArray, List.set_cons_zero, List.set_cons_succ]
      refine readyE (rs := [19]) (by kernel_rfl) (by simp) ?_
      refine consE (o := _) rfl (fun K hK => ?_) nilE
      -- 19 store
      have e12 := (hS.frozen 13 HQ5.out.1 (fun h => h)).trans HQ5.out.2
      have f12 := HF.out _ hS
      go_simp
      refine hK.out _ _ (fun h => absurd rfl h) ?_
      clear hK K
      try simp only [Act.put, List.setIfInBounds_toArray, List.set_cons_zero, List.set_cons_succ]
      refine doneE (by kernel_rfl) ?_ _
      go_wp2_with fail
      go_meet
      exact ⟨_, _, _, _, rfl, hS, by have h := hO9; rw [List.nil_append, Nat.zero_add] at h; exact h, by omega⟩
  case rest =>
    obtain ⟨z, a9, n9, c9, rfl, hzk, hzo, hn9⟩ := hcut
    rw [HT.out] at hzo
    obtain ⟨h6, st6⟩ := H5.out.cutG hzk hil hn9 hzo rfl
    obtain ⟨w6, hw6⟩ : ∃ w6, w6 = z.setCell ⟨q, 13, none⟩ (.slice a9 n9 c9) := ⟨_, rfl⟩
    obtain ⟨s1, hs1⟩ : ∃ s1, s1 = fG s (.slice a9 n9 c9) (CutG i s.G) := ⟨_, rfl⟩
    rw [← hw6, ← hs1] at h6 st6
    rw [← hw6]
    have HS1 := Lib.hid (show s1.Ws = s.Ws ∧ s1.D = s.D ∧ s1.c = s.c ∧ s1.Ps = s.Ps ∧ ab s1 = { ab s with G := CutG i s.G } ∧ s1.G = CutG i s.G from by rw [hs1]; exact ⟨rfl, rfl, rfl, rfl, rfl, rfl⟩)
    have H6 := Lib.hid h6
    have HST6 := Lib.hid (HST5.out.trans st6)
    have HR6 := Lib.hid (HRS.out.next st6 HS1.out.2.2.1)
    have HX6 := Lib.hid (HXS.out.next st6 HS1.out.2.2.1)
    have x2 : w6.cell? ⟨b12, 2, none⟩ = some (.string x.dom) := (cell_of HX6.out.cells 2).trans rfl
    have lb12 := lt_of_block HX6.out.cells
    have HD1 := Lib.hid (show x.dom ∈ s1.D from by rw [HS1.out.2.1]; exact H.out.wfs x HX.out)
    have HT1 := Lib.hid (show Tik s1 now from by unfold Tik; rw [HS1.out.2.2.2.1]; exact HTK.out)
    clear hzk hzo h6 st6 hw6 hs1 hn9 HF HSRC
    go_wp2_with fail
    refine (fpeer_any q N s1 vl vp x.dom 0 _ H6.out HD1.out hN).mono ?_; rintro e w7 ⟨vp', y, Ps', col', gp, i2, rfl, h7, st7, hx7, hyd, hyi, hgp⟩
    have hv7 : Vq now s1 (fE s1 Ps' col') := Vq.ext0 HT1.out (Int.le_refl 0) hn hn2 hx7 rfl
    have HYI := Lib.hid hyi; have HYD := Lib.hid hyd; have HV7 := Lib.hid hv7; have H7 := Lib.hid h7
    have HR7 := Lib.hid (HR6.out.next st7 rfl)
    have HX7 := Lib.hid (HX6.out.next st7 rfl)
    have HST7 := Lib.hid (HST6.out.trans st7)
    obtain ⟨_, p1, _, lgp⟩ := h7.pcell (y := y) hyi hgp
    clear h7 st7 hx7 hyd hyi hgp hv7 x2
    go_wp2_with fail
    refine (pwend_any q N (fE s1 Ps' col') vl vp' y good now _ H7.out (List.mem_of_getElem? HYI.out) HV7.out.le).mono ?_; rintro e w8a ⟨⟨rb, rfl⟩, h8, hv8, st8⟩
    obtain ⟨s3, hs3⟩ : ∃ s3, s3 = fQ (fE s1 Ps' col') (yEnd (fE s1 Ps' col') y good) := ⟨_, rfl⟩
    rw [← hs3] at h8 hv8 st8
    have HS3 := Lib.hid (show s3.Ws = s.Ws ∧ s3.D = s.D ∧ s3.c = s.c ∧ ab s3 = { ab s with G := CutG i s.G } ∧ s3.G = CutG i s.G from by rw [hs3]; exact HS1.out.elim (fun a b => ⟨a, b.1, b.2.1, b.2.2.2.1, b.2.2.2.2⟩))
    have HVE := Lib.hid (show Ve now x.dom good s s3 from by
      have h1 : Vq now s s1 := Vq.of HS1.out.2.2.2.1 HS1.out.2.2.1 HTK.out
      have h2 := Ve.of_vq (h1.trans HV7.out) (HYD.out ▸ hv8) (show (fE s1 Ps' col').c = s.c from HS1.out.2.2.1)
      exact h2)
    have H8 := Lib.hid h8
    have HR8 := Lib.hid (HR7.out.next st8 (by rw [hs3]; rfl))
    have HX8 := Lib.hid (HX7.out.next st8 (by rw [hs3]; rfl))
    have HST8 := Lib.hid (HST7.out.trans st8)
    have x0 : w8a.cell? ⟨b12, 0, none⟩ = some (.int .i64 x.id) := (cell_of HX8.out.cells 0).trans rfl
    have x1 : w8a.cell? ⟨b12, 1, none⟩ = some (.int .i64 x.rc) := (cell_of HX8.out.cells 1).trans rfl
    have lb8 := lt_of_block HX8.out.cells
    clear h8 hv8 st8 hs3 p1 lgp
    go_wp2_with fail
    refine (fat_any q N s3 vl vp' x.id x.rc _ H8.out hN).mono ?_; rintro e w8b ⟨r, rfl, hr, rfl⟩
    rcases hr with ⟨j, y2, hy2, e1, e2, rfl, _⟩ | ⟨hno, rfl⟩
    rotate_left
    · exact absurd ⟨rfl, rfl⟩ (hno x (by rw [HS3.out.1]; exact HX.out))
    have hxm3 : x ∈ s3.Ws := by rw [HS3.out.1]; exact HX.out
    have hyx : y2 = x := H8.out.key_eq (List.mem_of_getElem? hy2) hxm3 (by rw [e1, e2])
    rw [hyx] at hy2
    obtain ⟨ao, cap, rfl, hrow, hcp, _⟩ := lrow_own H8.out.lst
    obtain ⟨g, rfl, hg2, z0, z1, z2, z3', z4, z5, z6⟩ := hrow j x hy2
    have hjl := (List.getElem?_eq_some_iff.1 hy2).1
    have hcap2 := (hcp (by omega)).1
    have hcm2 := (hcp (by omega)).2
    have hl3 : s3.Ws.length ≤ 1000000 := Nat.le_trans H8.out.lw hN
    have c12 : w8a.cell? ⟨q, 12, none⟩ = some (.slice (some ⟨g, 0, none⟩) s3.Ws.length cap) := (cell_of H8.out.head 12).trans rfl
    have q4 : (0 : Int) ≤ (j : Int) := by omega
    have q5 : (j : Int) < (s3.Ws.length : Int) := by omega
    have HXJ := Lib.hid hy2
    clear hy2 hyx e1 e2 hrow hcp
    go_wp2_with fail
    have hk8 : Kp (fun _ => False) w8a (w8a.alloc (.cells #[.int .i64 x.id, .int .i64 x.rc, .int .i64 x.nx, .string x.snd, .string x.dom, .bool x.loc, .bool x.go] 62)) := (by repeat (first | exact Kp.refl _ _ | apply Kp.drew | apply Kp.drewN | refine Kp.setCell ?_ _ _ (Or.inl rfl) | apply Kp.alloc))
    have hx8 := heap_new (w := w8a) (.cells #[.int .i64 x.id, .int .i64 x.rc, .int .i64 x.nx, .string x.snd, .string x.dom, .bool x.loc, .bool x.go] 62)
    obtain ⟨w8, hw8⟩ : ∃ w8, w8 = w8a.alloc (.cells #[.int .i64 x.id, .int .i64 x.rc, .int .i64 x.nx, .string x.snd, .string x.dom, .bool x.loc, .bool x.go] 62) := ⟨_, rfl⟩
    obtain ⟨b14, hb14⟩ : ∃ b, b = w8a.heap.size := ⟨_, rfl⟩
    rw [← hw8] at hk8 hx8 ⊢
    rw [← hb14] at hx8 ⊢
    have HWS := Lib.hid (H8.out.local (Nat.le_of_eq hb14.symm) hx8)
    have HRS8 := Lib.hid (HR8.out.calm hk8)
    have HXS8 := Lib.hid (HX8.out.calm hk8)
    have HBN2 := Lib.hid (show b14 ≠ b10 ∧ b14 ≠ b12 ∧ w.heap.size ≤ b14 from by have := lt_of_block HR8.out.cells; have := lt_of_block HX8.out.cells; have := HST8.out.kp.size; omega)
    have H8b := Lib.hid (H8.out.calm hk8)
    have HST8b := Lib.hid (HST8.out.calm hk8)
    have HF := Lib.hid (show ∀ w', Kp (fun _ => False) w8 w' → w'.cell? ⟨q, 12, none⟩ = some (.slice (some ⟨g, 0, none⟩) s3.Ws.length cap) from fun w' hk => (cell_of (hk.keep H8b.out.head (fun h => h)) 12).trans rfl)
    have HSRC := Lib.hid (show ∀ w', Kp (fun _ => False) w8 w' → ∀ i u, (Wl s3.Ws)[i]? = some u → w'.cell? ⟨g, i, none⟩ = some u from fun w' hk => row_src H8b.out.lst hk)
    have HQ5 := Lib.hid (show q < w8.heap.size ∧ w8.frozen? ⟨q, 12, none⟩ = false from ⟨lt_of_block H8b.out.head, frozen_of H8b.out.head 12⟩)
    clear hw8 hk8 hx8 hb14 c12 z0 z1 z2 z3' z4 z5 z6 x0 x1
    go_cut [] from 75 (fun wx => ∃ (z : World) (a9 : Option Addr) (n9 c9 : Nat), wx = z.setCell ⟨q, 12, none⟩ (.slice a9 n9 c9) ∧ Kp (fun _ => False) w8 z ∧ z.ownsRow w8.heap.size 62 7 (.slice a9 n9 c9) n9 (Wl (s3.Ws.take j) ++ Wl (s3.Ws.drop (j + 1))) ∧ n9 = s3.Ws.length - 1)
    case first =>
      obtain ⟨i0, hi, hi0, hi1, hi2⟩ := info_parts wait_info
      have hwi := (List.getElem?_eq_some_iff.1 HXJ.out).1
      have q1 : (0 : Int) ≤ (j : Int) := by omega
      have q2 : (j : Int) ≤ (cap : Int) := by omega
      have q3 : (0 : Int) ≤ (j : Int) + 1 := by omega
      have q4 : (j : Int) + 1 ≤ (s3.Ws.length : Int) := by omega
      have q5 : ((j : Int) + 1).toNat = j + 1 := by omega
      have q6 : (j : Int) ≤ (j : Int) + 1 := by omega
      have hw1 : IntKind.i64.wrap ((j : Int) + 1) = (j : Int) + 1 := IntWalk.i64_in _ (by omega)
      have HN1 := Lib.hid (show ∀ w', Kp (fun _ => False) w8 w' → ∀ i u, (Wl (s3.Ws.take j))[i]? = some u → w'.cell? ((⟨g, 0, none⟩ : Addr).add i) = some u from fun w' hk => by
        rw [show Wl (s3.Ws.take j) = (Wl s3.Ws).take (j * 7) from flat_take (f := Wf) (n := 7) (fun _ => rfl) _ _]
        exact take_src (HSRC.out w' hk))
      have HL1 := Lib.hid (show (Wl (s3.Ws.take j)).length = j * 7 from by rw [Wl_len, List.length_take]; omega)
      by_cases hcc : cap = j + 1
      · have hlen : s3.Ws.length = j + 1 := by omega
        have HN2 := Lib.hid (show ∀ w', Kp (fun _ => False) w8 w' → ∀ i u, (Wl (s3.Ws.drop (j + 1)))[i]? = some u → w'.cell? ((⟨g, 0, none⟩ : Addr).add i) = some u from fun w' hk i u hu => by
          rw [List.drop_eq_nil_of_le (by omega)] at hu
          simp [Wl] at hu)
        have HL2 := Lib.hid (show (Wl (s3.Ws.drop (j + 1))).length = 0 * 7 from by rw [Wl_len, List.length_drop]; omega)
        have HLN := Lib.hid hlen
        subst hcc
        clear hlen
        refine region_E 19 (fun w' => Kp (fun _ => False) w8 w') (by kernel_rfl) (Kp.refl _ _).drew (fun hS => ?_)
        refine takeE (i := 0) (v := ?_) rfl (by kernel_rfl) (by kernel_rfl) (by kernel_rfl) (by kernel_rfl) (fun _ _ _ h => h) hS (Or.inl ⟨by rfl, ?_⟩) ?_
        rotate_left
        · intro w hSw; obtain f12 := HF.out w hSw; go_simp <;> with_reducible rfl
        try simp only [Act.put, List.setIfInBounds_toArray, List.set_cons_zero, List.set_cons_succ]
        refine takeE (i := 2) (v := ?_) rfl (by kernel_rfl) (by kernel_rfl) (by kernel_rfl) (by kernel_rfl) (fun _ _ _ h => h) hS (Or.inl ⟨by rfl, ?_⟩) ?_
        rotate_left
        · intro w hSw; obtain f12 := HF.out w hSw; go_simp <;> with_reducible rfl
        try simp only [Act.put, List.setIfInBounds_toArray, List.set_cons_zero, List.set_cons_succ]
        refine takeE (i := 3) (v := ?_) rfl (by kernel_rfl) (by kernel_rfl) (by kernel_rfl) (by kernel_rfl) (fun _ _ _ h => h) hS (Or.inl ⟨by rfl, ?_⟩) ?_
        rotate_left
        · intro w hSw; obtain f12 := HF.out w hSw; go_simp <;> with_reducible rfl
        try simp only [Act.put, List.setIfInBounds_toArray, List.set_cons_zero, List.set_cons_succ]
        refine takeE (i := 4) (v := ?_) rfl (by kernel_rfl) (by kernel_rfl) (by kernel_rfl) (by kernel_rfl) (fun _ _ _ h => h) hS (Or.inl ⟨by rfl, ?_⟩) ?_
        rotate_left
        · intro w hSw; obtain f12 := HF.out w hSw; go_simp <;> with_reducible rfl
        try simp only [Act.put, List.setIfInBounds_toArray, List.set_cons_zero, List.set_cons_succ]
        refine takeE (i := 5) (v := ?_) rfl (by kernel_rfl) (by kernel_rfl) (by kernel_rfl) (by kernel_rfl) (fun _ _ _ h => h) hS (Or.inl ⟨by rfl, ?_⟩) ?_
        rotate_left
        · intro w hSw; obtain f12 := HF.out w hSw; go_simp <;> with_reducible rfl
        try simp only [Act.put, List.setIfInBounds_toArray, List.set_cons_zero, List.set_cons_succ]
        refine takeE (i := 6) (v := ?_) rfl (by kernel_rfl) (by kernel_rfl) (by kernel_rfl) (by kernel_rfl) (fun _ _ _ h => h) hS (Or.inl ⟨by rfl, ?_⟩) ?_
        rotate_left
        · intro w hSw; obtain f12 := HF.out w hSw; go_simp <;> with_reducible rfl
        try simp only [Act.put, List.setIfInBounds_toArray, List.set_cons_zero, List.set_cons_succ]
        refine takeE (i := 7) (v := ?_) rfl (by kernel_rfl) (by kernel_rfl) (by kernel_rfl) (by kernel_rfl) (fun _ _ _ h => h) hS (Or.inl ⟨by rfl, ?_⟩) ?_
        rotate_left
        · intro w hSw; obtain f12 := HF.out w hSw; go_simp <;> with_reducible rfl
        try simp only [Act.put, List.setIfInBounds_toArray, List.set_cons_zero, List.set_cons_succ]
        refine takeE (i := 9) (v := ?_) rfl (by kernel_rfl) (by kernel_rfl) (by kernel_rfl) (by kernel_rfl) (fun _ _ _ h => h) hS (Or.inl ⟨by rfl, ?_⟩) ?_
        rotate_left
        · intro w hSw; obtain f12 := HF.out w hSw; go_simp <;> with_reducible rfl
        try simp only [Act.put, List.setIfInBounds_toArray, List.set_cons_zero, List.set_cons_succ]
        refine takeE (i := 10) (v := ?_) rfl (by kernel_rfl) (by kernel_rfl) (by kernel_rfl) (by kernel_rfl) (fun _ _ _ h => h) hS (Or.inl ⟨by rfl, ?_⟩) ?_
        rotate_left
        · intro w hSw; obtain f12 := HF.out w hSw; go_simp <;> with_reducible rfl
        try simp only [Act.put, List.setIfInBounds_toArray, List.set_cons_zero, List.set_cons_succ]
        refine takeE (i := 11) (v := ?_) rfl (by kernel_rfl) (by kernel_rfl) (by kernel_rfl) (by kernel_rfl) (fun _ _ _ h => h) hS (Or.inl ⟨by rfl, ?_⟩) ?_
        rotate_left
        · intro w hSw; obtain f12 := HF.out w hSw; go_simp <;> with_reducible rfl
        try simp only [Act.put, List.setIfInBounds_toArray, List.set_cons_zero, List.set_cons_succ]
        refine takeE (i := 12) (v := ?_) rfl (by kernel_rfl) (by kernel_rfl) (by kernel_rfl) (by kernel_rfl) (fun _ _ _ h => h) hS (Or.inl ⟨by rfl, ?_⟩) ?_
        rotate_left
        · intro w hSw; obtain f12 := HF.out w hSw; go_simp <;> with_reducible rfl
        try simp only [Act.put, List.setIfInBounds_toArray, List.set_cons_zero, List.set_cons_succ]
        refine takeE (i := 13) (v := ?_) rfl (by kernel_rfl) (by kernel_rfl) (by kernel_rfl) (by kernel_rfl) (fun _ _ _ h => h) hS (Or.inl ⟨by rfl, ?_⟩) ?_
        rotate_left
        · intro w hSw; obtain f12 := HF.out w hSw; go_simp <;> with_reducible rfl
        try simp only [Act.put, List.setIfInBounds_toArray, List.set_cons_zero, List.set_cons_succ]
        refine takeE (i := 14) (v := ?_) rfl (by kernel_rfl) (by kernel_rfl) (by kernel_rfl) (by kernel_rfl) (fun _ _ _ h => h) hS (Or.inl ⟨by rfl, ?_⟩) ?_
        rotate_left
        · intro w hSw; obtain f12 := HF.out w hSw; go_simp <;> with_reducible rfl
        try simp only [Act.put, List.setIfInBounds_toArray, List.set_cons_zero, List.set_cons_succ]
        refine takeE (i := 15) (v := ?_) rfl (by kernel_rfl) (by kernel_rfl) (by kernel_rfl) (by kernel_rfl) (fun _ _ _ h => h) hS (Or.inl ⟨by rfl, ?_⟩) ?_
        rotate_left
        · intro w hSw; obtain f12 := HF.out w hSw; go_simp <;> with_reducible rfl
        try simp only [Act.put, List.setIfInBounds_toArray, List.set_cons_zero, List.set_cons_succ]
        refine readyE (rs := [1]) (by kernel_rfl) (by simp) ?_
        refine consE (o := _) rfl (fun K hK => ?_) nilE
        -- 1 buildSlice
        go_simp
        have hsz1 := hS.size
        refine allocE hK (hS.alloc _) (fun z1 hz1 hS => ?_)
        have hO1 : z1.ownsRow w8.heap.size 62 7 (.slice (some ⟨w8.drew.heap.size, 0, none⟩) 0 0) 0 [] := by rw [hz1]; exact World.ownsRow_lit _ #[] 0 hsz1 (by unfold maxLen; omega) rfl
        have hin1 : ∀ k, In (.slice (some ⟨w8.drew.heap.size, 0, none⟩) 0 0) k → k = w8.drew.heap.size := fun k e => by have e2 : some w8.drew.heap.size = some k := e; cases e2; rfl
        clear hz1
        clear hK K
        try simp only [Act.put, List.setIfInBounds_toArray, List.set_cons_zero, List.set_cons_succ]
        refine readyE (rs := [8]) (by kernel_rfl) (by simp) ?_
        refine consE (o := _) rfl (fun K hK => ?_) nilE
        -- 8 call
        refine step_append_src rfl _ _ 51 rfl w8.heap.size 62 i0 _ 7 64 Try.underlying51 hi hi0 hi1 hi2 rfl (by decide) _ 0 [] rfl hO1 (some ⟨g, 0, none⟩) j (j + 1) (Wl (s3.Ws.take j)) rfl (fun h => by cases h) HL1.out (by intro ad e; cases e; exact HN1.out _ hS) (Wl_one _) (by unfold maxLen; omega) (by omega) hS.size ?_
        intro v6 z2 hO6 hk6
        have hS6 : Kp (fun _ => False) w8 z2 := hS.trans_new hk6 (fun k h1 h2 => by have := hin1 k h2; omega)
        refine keepE hK hS6 (fun hS => ?_)
        clear hK K
        try simp only [Act.put, List.setIfInBounds_toArray, List.set_cons_zero, List.set_cons_succ]
        refine readyE (rs := [16]) (by kernel_rfl) (by simp) ?_
        refine consE (o := _) rfl (fun K hK => ?_) nilE
        -- 16 call
        refine step_append_src rfl _ _ 51 rfl w8.heap.size 62 i0 _ 7 64 Try.underlying51 hi hi0 hi1 hi2 rfl (by decide) _ _ _ rfl hO6 (some ⟨g, 0, none⟩) 0 0 (Wl (s3.Ws.drop (j + 1))) rfl (fun h => by cases h) HL2.out (by intro ad e; cases e; exact HN2.out _ hS) (Wl_one _) (by unfold maxLen; omega) (by omega) hS.size ?_
        intro v9 z3 hO9 hk9
        obtain ⟨a9, c9, rfl⟩ := (own_weaken hO9).slice
        have hS9 : Kp (fun _ => False) w8 z3 := hS.trans_new hk9 (fun k h1 h2 => by have := (World.ownsRow.lt hO6 k h2).1; omega)
        refine keepE hK hS9 (fun hS => ?_)
        clear hK K
        try simp only [Act.put, List.setIfInBounds_toArray, List.set_cons_zero, List.set_cons_succ]
        refine readyE (rs := [17]) (by kernel_rfl) (by simp) ?_
        refine consE (o := _) rfl (fun K hK => ?_) nilE
        -- 17 nilCheck
        go_simp
        refine keepE hK hS (fun hS => ?_)
        clear hK K
        try simp only [Act.put, List.setIfInBounds_toArray, List.set_cons_zero, List.set_cons_succ]
        refine takeE (i := 18) (v := ?_) rfl (by kernel_rfl) (by kernel_rfl) (by kernel_rfl) (by kernel_rfl) (fun _ _ _ h => h) hS (Or.inl ⟨by rfl, ?_⟩) ?_
        rotate_left
        · intro w hSw; obtain f12 := HF.out w hSw; go_simp <;> with_reducible rfl
        try simp only [Act.put, List.setIfInBounds_toArray, List.set_cons_zero, List.set_cons_succ]
        refine readyE (rs := [19]) (by kernel_rfl) (by simp) ?_
        refine consE (o := _) rfl (fun K hK => ?_) nilE
        -- 19 store
        have e12 := (hS.frozen 12 HQ5.out.1 (fun h => h)).trans HQ5.out.2
        have f12 := HF.out _ hS
        go_simp
        refine hK.out _ _ (fun h => absurd rfl h) ?_
        clear hK K
        try simp only [Act.put, List.setIfInBounds_toArray, List.set_cons_zero, List.set_cons_succ]
        refine doneE (by kernel_rfl) ?_ _
        go_wp2_with fail
        go_meet
        exact ⟨_, _, _, _, rfl, hS, by have h := hO9; rw [List.nil_append, Nat.zero_add] at h; exact h, by omega⟩
      · have HN2 := Lib.hid (show ∀ w', Kp (fun _ => False) w8 w' → ∀ i u, (Wl (s3.Ws.drop (j + 1)))[i]? = some u → w'.cell? ((⟨g, (j + 1) * 7, none⟩ : Addr).add i) = some u from fun w' hk => by
          rw [show Wl (s3.Ws.drop (j + 1)) = (Wl s3.Ws).drop ((j + 1) * 7) from flat_drop (f := Wf) (n := 7) (fun _ => rfl) _ _]
          exact drop_src (HSRC.out w' hk))
        have HL2 := Lib.hid (show (Wl (s3.Ws.drop (j + 1))).length = (s3.Ws.length - (j + 1)) * 7 from by rw [Wl_len, List.length_drop])
        refine region_E 19 (fun w' => Kp (fun _ => False) w8 w') (by kernel_rfl) (Kp.refl _ _).drew (fun hS => ?_)
        refine takeE (i := 0) (v := ?_) rfl (by kernel_rfl) (by kernel_rfl) (by kernel_rfl) (by kernel_rfl) (fun _ _ _ h => h) hS (Or.inl ⟨by rfl, ?_⟩) ?_
        rotate_left
        · intro w hSw; obtain f12 := HF.out w hSw; go_simp <;> with_reducible rfl
        try simp only [Act.put, List.setIfInBounds_toArray, List.set_cons_zero, List.set_cons_succ]
        refine takeE (i := 2) (v := ?_) rfl (by kernel_rfl) (by kernel_rfl) (by kernel_rfl) (by kernel_rfl) (fun _ _ _ h => h) hS (Or.inl ⟨by rfl, ?_⟩) ?_
        rotate_left
        · intro w hSw; obtain f12 := HF.out w hSw; go_simp <;> with_reducible rfl
        try simp only [Act.put, List.setIfInBounds_toArray, List.set_cons_zero, List.set_cons_succ]
        refine takeE (i := 3) (v := ?_) rfl (by kernel_rfl) (by kernel_rfl) (by kernel_rfl) (by kernel_rfl) (fun _ _ _ h => h) hS (Or.inl ⟨by rfl, ?_⟩) ?_
        rotate_left
        · intro w hSw; obtain f12 := HF.out w hSw; go_simp <;> with_reducible rfl
        try simp only [Act.put, List.setIfInBounds_toArray, List.set_cons_zero, List.set_cons_succ]
        refine takeE (i := 4) (v := ?_) rfl (by kernel_rfl) (by kernel_rfl) (by kernel_rfl) (by kernel_rfl) (fun _ _ _ h => h) hS (Or.inl ⟨by rfl, ?_⟩) ?_
        rotate_left
        · intro w hSw; obtain f12 := HF.out w hSw; go_simp <;> with_reducible rfl
        try simp only [Act.put, List.setIfInBounds_toArray, List.set_cons_zero, List.set_cons_succ]
        refine takeE (i := 5) (v := ?_) rfl (by kernel_rfl) (by kernel_rfl) (by kernel_rfl) (by kernel_rfl) (fun _ _ _ h => h) hS (Or.inl ⟨by rfl, ?_⟩) ?_
        rotate_left
        · intro w hSw; obtain f12 := HF.out w hSw; go_simp <;> with_reducible rfl
        try simp only [Act.put, List.setIfInBounds_toArray, List.set_cons_zero, List.set_cons_succ]
        refine takeE (i := 6) (v := ?_) rfl (by kernel_rfl) (by kernel_rfl) (by kernel_rfl) (by kernel_rfl) (fun _ _ _ h => h) hS (Or.inl ⟨by rfl, ?_⟩) ?_
        rotate_left
        · intro w hSw; obtain f12 := HF.out w hSw; go_simp <;> with_reducible rfl
        try simp only [Act.put, List.setIfInBounds_toArray, List.set_cons_zero, List.set_cons_succ]
        refine takeE (i := 7) (v := ?_) rfl (by kernel_rfl) (by kernel_rfl) (by kernel_rfl) (by kernel_rfl) (fun _ _ _ h => h) hS (Or.inl ⟨by rfl, ?_⟩) ?_
        rotate_left
        · intro w hSw; obtain f12 := HF.out w hSw; go_simp <;> with_reducible rfl
        try simp only [Act.put, List.setIfInBounds_toArray, List.set_cons_zero, List.set_cons_succ]
        refine takeE (i := 9) (v := ?_) rfl (by kernel_rfl) (by kernel_rfl) (by kernel_rfl) (by kernel_rfl) (fun _ _ _ h => h) hS (Or.inl ⟨by rfl, ?_⟩) ?_
        rotate_left
        · intro w hSw; obtain f12 := HF.out w hSw; go_simp <;> with_reducible rfl
        try simp only [Act.put, List.setIfInBounds_toArray, List.set_cons_zero, List.set_cons_succ]
        refine takeE (i := 10) (v := ?_) rfl (by kernel_rfl) (by kernel_rfl) (by kernel_rfl) (by kernel_rfl) (fun _ _ _ h => h) hS (Or.inl ⟨by rfl, ?_⟩) ?_
        rotate_left
        · intro w hSw; obtain f12 := HF.out w hSw; go_simp <;> with_reducible rfl
        try simp only [Act.put, List.setIfInBounds_toArray, List.set_cons_zero, List.set_cons_succ]
        refine takeE (i := 11) (v := ?_) rfl (by kernel_rfl) (by kernel_rfl) (by kernel_rfl) (by kernel_rfl) (fun _ _ _ h => h) hS (Or.inl ⟨by rfl, ?_⟩) ?_
        rotate_left
        · intro w hSw; obtain f12 := HF.out w hSw; go_simp <;> with_reducible rfl
        try simp only [Act.put, List.setIfInBounds_toArray, List.set_cons_zero, List.set_cons_succ]
        refine takeE (i := 12) (v := ?_) rfl (by kernel_rfl) (by kernel_rfl) (by kernel_rfl) (by kernel_rfl) (fun _ _ _ h => h) hS (Or.inl ⟨by rfl, ?_⟩) ?_
        rotate_left
        · intro w hSw; obtain f12 := HF.out w hSw; go_simp <;> with_reducible rfl
        try simp only [Act.put, List.setIfInBounds_toArray, List.set_cons_zero, List.set_cons_succ]
        refine takeE (i := 13) (v := ?_) rfl (by kernel_rfl) (by kernel_rfl) (by kernel_rfl) (by kernel_rfl) (fun _ _ _ h => h) hS (Or.inl ⟨by rfl, ?_⟩) ?_
        rotate_left
        · intro w hSw; obtain f12 := HF.out w hSw; go_simp <;> with_reducible rfl
        try simp only [Act.put, List.setIfInBounds_toArray, List.set_cons_zero, List.set_cons_succ]
        refine takeE (i := 14) (v := ?_) rfl (by kernel_rfl) (by kernel_rfl) (by kernel_rfl) (by kernel_rfl) (fun _ _ _ h => h) hS (Or.inl ⟨by rfl, ?_⟩) ?_
        rotate_left
        · intro w hSw; obtain f12 := HF.out w hSw; go_simp <;> with_reducible rfl
        try simp only [Act.put, List.setIfInBounds_toArray, List.set_cons_zero, List.set_cons_succ]
        refine takeE (i := 15) (v := ?_) rfl (by kernel_rfl) (by kernel_rfl) (by kernel_rfl) (by kernel_rfl) (fun _ _ _ h => h) hS (Or.inl ⟨by rfl, ?_⟩) ?_
        rotate_left
        · intro w hSw; obtain f12 := HF.out w hSw; go_simp <;> with_reducible rfl
        try simp only [Act.put, List.setIfInBounds_toArray, List.set_cons_zero, List.set_cons_succ]
        refine readyE (rs := [1]) (by kernel_rfl) (by simp) ?_
        refine consE (o := _) rfl (fun K hK => ?_) nilE
        -- 1 buildSlice
        go_simp
        have hsz1 := hS.size
        refine allocE hK (hS.alloc _) (fun z1 hz1 hS => ?_)
        have hO1 : z1.ownsRow w8.heap.size 62 7 (.slice (some ⟨w8.drew.heap.size, 0, none⟩) 0 0) 0 [] := by rw [hz1]; exact World.ownsRow_lit _ #[] 0 hsz1 (by unfold maxLen; omega) rfl
        have hin1 : ∀ k, In (.slice (some ⟨w8.drew.heap.size, 0, none⟩) 0 0) k → k = w8.drew.heap.size := fun k e => by have e2 : some w8.drew.heap.size = some k := e; cases e2; rfl
        clear hz1
        clear hK K
        try simp only [Act.put, List.setIfInBounds_toArray, List.set_cons_zero, List.set_cons_succ]
        refine readyE (rs := [8]) (by kernel_rfl) (by simp) ?_
        refine consE (o := _) rfl (fun K hK => ?_) nilE
        -- 8 call
        refine step_append_src rfl _ _ 51 rfl w8.heap.size 62 i0 _ 7 64 Try.underlying51 hi hi0 hi1 hi2 rfl (by decide) _ 0 [] rfl hO1 (some ⟨g, 0, none⟩) j cap (Wl (s3.Ws.take j)) rfl (fun h => by cases h) HL1.out (by intro ad e; cases e; exact HN1.out _ hS) (Wl_one _) (by unfold maxLen; omega) (by omega) hS.size ?_
        intro v6 z2 hO6 hk6
        have hS6 : Kp (fun _ => False) w8 z2 := hS.trans_new hk6 (fun k h1 h2 => by have := hin1 k h2; omega)
        refine keepE hK hS6 (fun hS => ?_)
        clear hK K
        try simp only [Act.put, List.setIfInBounds_toArray, List.set_cons_zero, List.set_cons_succ]
        refine readyE (rs := [16]) (by kernel_rfl) (by simp) ?_
        refine consE (o := _) rfl (fun K hK => ?_) nilE
        -- 16 call
        refine step_append_src rfl _ _ 51 rfl w8.heap.size 62 i0 _ 7 64 Try.underlying51 hi hi0 hi1 hi2 rfl (by decide) _ _ _ rfl hO6 (some ⟨g, (j + 1) * 7, none⟩) (s3.Ws.length - (j + 1)) (cap - (j + 1)) (Wl (s3.Ws.drop (j + 1))) rfl (fun h => by cases h) HL2.out (by intro ad e; cases e; exact HN2.out _ hS) (Wl_one _) (by unfold maxLen; omega) (by omega) hS.size ?_
        intro v9 z3 hO9 hk9
        obtain ⟨a9, c9, rfl⟩ := (own_weaken hO9).slice
        have hS9 : Kp (fun _ => False) w8 z3 := hS.trans_new hk9 (fun k h1 h2 => by have := (World.ownsRow.lt hO6 k h2).1; omega)
        refine keepE hK hS9 (fun hS => ?_)
        clear hK K
        try simp only [Act.put, List.setIfInBounds_toArray, List.set_cons_zero, List.set_cons_succ]
        refine readyE (rs := [17]) (by kernel_rfl) (by simp) ?_
        refine consE (o := _) rfl (fun K hK => ?_) nilE
        -- 17 nilCheck
        go_simp
        refine keepE hK hS (fun hS => ?_)
        clear hK K
        try simp only [Act.put, List.setIfInBounds_toArray, List.set_cons_zero, List.set_cons_succ]
        refine takeE (i := 18) (v := ?_) rfl (by kernel_rfl) (by kernel_rfl) (by kernel_rfl) (by kernel_rfl) (fun _ _ _ h => h) hS (Or.inl ⟨by rfl, ?_⟩) ?_
        rotate_left
        · intro w hSw; obtain f12 := HF.out w hSw; go_simp <;> with_reducible rfl
        try simp only [Act.put, List.setIfInBounds_toArray, List.set_cons_zero, List.set_cons_succ]
        refine readyE (rs := [19]) (by kernel_rfl) (by simp) ?_
        refine consE (o := _) rfl (fun K hK => ?_) nilE
        -- 19 store
        have e12 := (hS.frozen 12 HQ5.out.1 (fun h => h)).trans HQ5.out.2
        have f12 := HF.out _ hS
        go_simp
        refine hK.out _ _ (fun h => absurd rfl h) ?_
        clear hK K
        try simp only [Act.put, List.setIfInBounds_toArray, List.set_cons_zero, List.set_cons_succ]
        refine doneE (by kernel_rfl) ?_ _
        go_wp2_with fail
        go_meet
        exact ⟨_, _, _, _, rfl, hS, by have h := hO9; rw [List.nil_append, Nat.zero_add] at h; exact h, by omega⟩
    case rest =>
      obtain ⟨z, a9, n9, c9, rfl, hzk, hzo, hn9⟩ := hcut
      have hng : (x.id, x.rc) ∉ s3.G := by rw [HS3.out.2.2.2.2]; exact CutG_notin H.out.gnd HK.out
      obtain ⟨h9, st9, ha9⟩ := H8b.out.cutL hzk HXJ.out hng hn9 hzo rfl
      obtain ⟨w9a, hw9⟩ : ∃ w9, w9 = z.setCell ⟨q, 12, none⟩ (.slice a9 n9 c9) := ⟨_, rfl⟩
      obtain ⟨s4, hs4⟩ : ∃ s4, s4 = fL s3 (.slice a9 n9 c9) (Cutx j s3.Ws) s3.D := ⟨_, rfl⟩
      rw [← hw9, ← hs4] at h9 st9
      rw [← hs4] at ha9
      rw [← hw9]
      have HS4 := Lib.hid (show s4.Ws = Cutx j s3.Ws ∧ s4.D = s.D ∧ s4.c = s3.c ∧ s4.Ps = s3.Ps ∧ s4.Ws.length = n9 from by rw [hs4]; exact ⟨rfl, HS3.out.2.1, rfl, rfl, by rw [hn9]; exact Cutx_len hjl⟩)
      have H9a := Lib.hid h9
      have HA4 := Lib.hid ha9
      have HST9 := Lib.hid (HST8b.out.trans st9)
      have HR9 := Lib.hid (HRS8.out.next st9 HS4.out.2.2.1)
      have HX9 := Lib.hid (HXS8.out.next st9 HS4.out.2.2.1)
      have HW9 := Lib.hid (HWS.out.next st9 HS4.out.2.2.1)
      have HVE4 := Lib.hid (HVE.out.then HS4.out.2.2.2.1 HS4.out.2.2.1)
      clear hzk hzo h9 st9 ha9 hw9 hs4 hn9 HF HSRC hng
      cases stays with
      | true =>
        go_wp2_with fail
        refine (rclamp_any n _).mono ?_; rintro e w9b ⟨rfl, rfl⟩
        have t2 := frozen_of HW9.out.cells 2
        have t6 := frozen_of HW9.out.cells 6
        have u2 : w9a.cell? ⟨b14, 2, none⟩ = some (.int .i64 x.nx) := (cell_of HW9.out.cells 2).trans rfl
        have u6 : w9a.cell? ⟨b14, 6, none⟩ = some (.bool x.go) := (cell_of HW9.out.cells 6).trans rfl
        go_wp2_with fail
        have hkw : Kp (fun k => k = b14) w9a ((w9a.setCell ⟨b14, 6, none⟩ (.bool false)).setCell ⟨b14, 2, none⟩ (.int .i64 (C n))) := (by repeat (first | exact Kp.refl _ _ | apply Kp.drew | apply Kp.drewN | refine Kp.setCell ?_ _ _ (Or.inl rfl) | apply Kp.alloc))
        have hwc : ((w9a.setCell ⟨b14, 6, none⟩ (.bool false)).setCell ⟨b14, 2, none⟩ (.int .i64 (C n))).heap[b14]? = some (.cells #[.int .i64 x.id, .int .i64 x.rc, .int .i64 (C n), .string x.snd, .string x.dom, .bool x.loc, .bool false] 62 (0, 0)) := heap_set (heap_set HW9.out.cells _) _
        obtain ⟨w9, hw9⟩ : ∃ w9, w9 = (w9a.setCell ⟨b14, 6, none⟩ (.bool false)).setCell ⟨b14, 2, none⟩ (.int .i64 (C n)) := ⟨_, rfl⟩
        rw [← hw9] at hkw hwc ⊢
        have H9 := Lib.hid (H9a.out.past HW9.out hkw)
        have HR9b := Lib.hid (HR9.out.other hkw (Ne.symm HBN2.out.1))
        have HX9b := Lib.hid (HX9.out.other hkw (Ne.symm HBN2.out.2.1))
        have HST9b := Lib.hid (HST9.out.past hkw (fun k e => by have e2 : k = b14 := e; rw [e2]; exact HBN2.out.2.2))
        have hn9 : n9 = s4.Ws.length := HS4.out.2.2.2.2.symm
        subst hn9
        have hnq : ¬ In (.slice a9 s4.Ws.length c9) q := fun e => by have h1 := H9.out.cols.lst q e; rw [H9.out.cols.head] at h1; exact Nat.ne_of_beq_eq_false rfl (congrArg Prod.fst (Option.some.inj h1))
        have hnb : ¬ In (.slice a9 s4.Ws.length c9) b14 := fun e => by have h1 := H9.out.cols.lst b14 e; rw [HW9.out.no] at h1; cases h1
        have HF := Lib.hid (show ∀ w', Kp (In (.slice a9 s4.Ws.length c9)) w9 w' → w'.cell? ⟨q, 12, none⟩ = some (.slice a9 s4.Ws.length c9) ∧ w'.cell? ⟨b14, 0, none⟩ = some (.int .i64 x.id) ∧ w'.cell? ⟨b14, 1, none⟩ = some (.int .i64 x.rc) ∧ w'.cell? ⟨b14, 2, none⟩ = some (.int .i64 (C n)) ∧ w'.cell? ⟨b14, 3, none⟩ = some (.string x.snd) ∧ w'.cell? ⟨b14, 4, none⟩ = some (.string x.dom) ∧ w'.cell? ⟨b14, 5, none⟩ = some (.bool x.loc) ∧ w'.cell? ⟨b14, 6, none⟩ = some (.bool false) from fun w' hk => by
          have hb := hk.keep hwc hnb
          exact ⟨(cell_of (hk.keep H9.out.head hnq) 12).trans rfl, (cell_of hb 0).trans rfl, (cell_of hb 1).trans rfl, (cell_of hb 2).trans rfl, (cell_of hb 3).trans rfl, (cell_of hb 4).trans rfl, (cell_of hb 5).trans rfl, (cell_of hb 6).trans rfl⟩)
        have HQ9 := Lib.hid (show q < w9.heap.size ∧ w9.frozen? ⟨q, 12, none⟩ = false ∧ ¬ In (.slice a9 s4.Ws.length c9) q from ⟨lt_of_block H9.out.head, frozen_of H9.out.head 12, hnq⟩)
        have hl4 : s4.Ws.length ≤ 1000000 := Nat.le_trans H9.out.lw hN
        obtain ⟨i0, hi, hi0, hi1, hi2⟩ := info_parts wait_info
        clear t2 t6 u2 u6 hkw hwc hw9 hnq hnb
        refine region_E 10 (fun w' => Kp (In (.slice a9 s4.Ws.length c9)) w9 w') (by kernel_rfl) (Kp.refl _ _).drew (fun hS => ?_)
        refine takeE (i := 0) (v := ?_) rfl (by kernel_rfl) (by kernel_rfl) (by kernel_rfl) (by kernel_rfl) (fun _ _ _ h => h) hS (Or.inl ⟨by rfl, ?_⟩) ?_
        rotate_left
        · intro w hSw; obtain ⟨f12, g0, g1, g2, g3, g4, g5, g6⟩ := HF.out w hSw; go_simp <;> with_reducible rfl
        try simp only [Act.put, List.setIfInBounds_toArray, List.set_cons_zero, List.set_cons_succ]
        refine takeE (i := 1) (v := ?_) rfl (by kernel_rfl) (by kernel_rfl) (by kernel_rfl) (by kernel_rfl) (fun _ _ _ h => h) hS (Or.inl ⟨by rfl, ?_⟩) ?_
        rotate_left
        · intro w hSw; obtain ⟨f12, g0, g1, g2, g3, g4, g5, g6⟩ := HF.out w hSw; go_simp <;> with_reducible rfl
        try simp only [Act.put, List.setIfInBounds_toArray, List.set_cons_zero, List.set_cons_succ]
        refine takeE (i := 2) (v := ?_) rfl (by kernel_rfl) (by kernel_rfl) (by kernel_rfl) (by kernel_rfl) (fun _ _ _ h => h) hS (Or.inl ⟨by rfl, ?_⟩) ?_
        rotate_left
        · intro w hSw; obtain ⟨f12, g0, g1, g2, g3, g4, g5, g6⟩ := HF.out w hSw; go_simp <;> with_reducible rfl
        try simp only [Act.put, List.setIfInBounds_toArray, List.set_cons_zero, List.set_cons_succ]
        refine takeE (i := 3) (v := ?_) rfl (by kernel_rfl) (by kernel_rfl) (by kernel_rfl) (by kernel_rfl) (fun _ _ _ h => h) hS (Or.inl ⟨by rfl, ?_⟩) ?_
        rotate_left
        · intro w hSw; obtain ⟨f12, g0, g1, g2, g3, g4, g5, g6⟩ := HF.out w hSw; go_simp <;> with_reducible rfl
        try simp only [Act.put, List.setIfInBounds_toArray, List.set_cons_zero, List.set_cons_succ]
        refine takeE (i := 4) (v := ?_) rfl (by kernel_rfl) (by kernel_rfl) (by kernel_rfl) (by kernel_rfl) (fun _ _ _ h => h) hS (Or.inl ⟨by rfl, ?_⟩) ?_
        rotate_left
        · intro w hSw; obtain ⟨f12, g0, g1, g2, g3, g4, g5, g6⟩ := HF.out w hSw; go_simp <;> with_reducible rfl
        try simp only [Act.put, List.setIfInBounds_toArray, List.set_cons_zero, List.set_cons_succ]
        refine takeE (i := 5) (v := ?_) rfl (by kernel_rfl) (by kernel_rfl) (by kernel_rfl) (by kernel_rfl) (fun _ _ _ h => h) hS (Or.inl ⟨by rfl, ?_⟩) ?_
        rotate_left
        · intro w hSw; obtain ⟨f12, g0, g1, g2, g3, g4, g5, g6⟩ := HF.out w hSw; go_simp <;> with_reducible rfl
        try simp only [Act.put, List.setIfInBounds_toArray, List.set_cons_zero, List.set_cons_succ]
        refine readyE (rs := [6]) (by kernel_rfl) (by simp) ?_
        refine consE (o := _) rfl (fun K hK => ?_) nilE
        -- 6 buildSlice
        go_simp
        refine allocE hK (hS.alloc _) (fun z1 hz1 hS => ?_)
        have hC8 : ∀ j u, (Wf (Go1 x false (C n)))[j]? = some u → z1.cell? ((⟨w9.drew.heap.size, 0, none⟩ : Addr).add j) = some u := by rw [hz1]; exact lit_news (cs := Wf (Go1 x false (C n))) _ rfl
        have hkF : Kp (fun _ => False) w9 z1 := by rw [hz1]; exact ((Kp.refl _ w9).drew).alloc _
        have hOP := H9.out.lst.keep hkF (fun _ _ h => h)
        clear hz1
        clear hK K
        try simp only [Act.put, List.setIfInBounds_toArray, List.set_cons_zero, List.set_cons_succ]
        refine readyE (rs := [7]) (by kernel_rfl) (by simp) ?_
        refine consE (o := _) rfl (fun K hK => ?_) nilE
        -- 7 call
        refine step_append_lies _ rfl _ _ 51 rfl 0 62 i0 _ 7 64 Try.underlying51 hi hi0 hi1 hi2 rfl (by decide) (.slice a9 s4.Ws.length c9) s4.Ws.length (Wl s4.Ws) rfl hOP ⟨_, 0, none⟩ 1 1 (Wf (Go1 x false (C n))) rfl rfl hC8 (Wf_one _) (by omega) (by unfold maxLen; omega) (by omega) (Nat.zero_le _) _ rfl ?_
        intro gq c10 z2 hO9 hg9 hl9 hlt9
        have hk9 : Kp (In (.slice a9 s4.Ws.length c9)) z1 z2 := Kp.of_grown' hg9
        refine keepE hK (hS.trans hk9) (fun hS => ?_)
        clear hK K
        try simp only [Act.put, List.setIfInBounds_toArray, List.set_cons_zero, List.set_cons_succ]
        refine readyE (rs := [8]) (by kernel_rfl) (by simp) ?_
        refine consE (o := _) rfl (fun K hK => ?_) nilE
        -- 8 nilCheck
        go_simp
        refine keepE hK hS (fun hS => ?_)
        clear hK K
        try simp only [Act.put, List.setIfInBounds_toArray, List.set_cons_zero, List.set_cons_succ]
        refine takeE (i := 9) (v := ?_) rfl (by kernel_rfl) (by kernel_rfl) (by kernel_rfl) (by kernel_rfl) (fun _ _ _ h => h) hS (Or.inl ⟨by rfl, ?_⟩) ?_
        rotate_left
        · intro w hSw; obtain ⟨f12, g0, g1, g2, g3, g4, g5, g6⟩ := HF.out w hSw; go_simp <;> with_reducible rfl
        try simp only [Act.put, List.setIfInBounds_toArray, List.set_cons_zero, List.set_cons_succ]
        refine readyE (rs := [10]) (by kernel_rfl) (by simp) ?_
        refine consE (o := _) rfl (fun K hK => ?_) nilE
        -- 10 store
        have e12 := (hS.frozen 12 HQ9.out.1 HQ9.out.2.2).trans HQ9.out.2.1
        obtain ⟨f12, _⟩ := HF.out _ hS
        go_simp
        refine hK.out _ _ (fun h => absurd rfl h) ?_
        clear hK K
        try simp only [Act.put, List.setIfInBounds_toArray, List.set_cons_zero, List.set_cons_succ]
        refine doneE (by kernel_rfl) ?_ _
        have hf4 : ∀ y ∈ s4.Ws, ¬ (y.id = (Go1 x false (C n)).id ∧ y.rc = (Go1 x false (C n)).rc) := fun y hy => by
          rw [HS4.out.1, cutx_filter H8.out.keys HXJ.out] at hy
          have h1 := (List.mem_filter.1 hy).2
          simp only [Bool.not_eq_true', decide_eq_false_iff_not] at h1
          rintro ⟨e1, e2⟩
          exact h1 (by rw [e1, e2]; rfl)
        have hl5 : s4.Ws.length + 1 ≤ N := by have h1 := H8.out.lw; rw [HS4.out.1, Cutx_len hjl]; omega
        obtain ⟨h10, st10⟩ := H9.out.appL (X := Go1 x false (C n)) hS hO9 (hl9.imp id (fun e => by
          rw [e]
          exact Nat.le_trans (Nat.le_refl _) hkF.size)) rfl hf4 (by rw [HS4.out.2.1]; exact H.out.wfs x HX.out) hl5
        obtain ⟨w10, hw10⟩ : ∃ w10, w10 = z2.setCell ⟨q, 12, none⟩ (.slice (some ⟨gq, 0, none⟩) (s4.Ws.length + 1) c10) := ⟨_, rfl⟩
        rw [← hw10] at h10 st10 ⊢
        obtain ⟨s5, hs5⟩ : ∃ s5, s5 = fL s4 (.slice (some ⟨gq, 0, none⟩) (s4.Ws.length + 1) c10) (s4.Ws ++ [Go1 x false (C n)]) s4.D := ⟨_, rfl⟩
        rw [← hs5] at h10 st10
        have HA5 := Lib.hid (show Aeq (ab s5) (aEnd (ab s) i (wx x) true (C n)) from by
          have e1 : ab s4 = aDel (ab s3) (x.id, x.rc) := HA4.out
          have e2 : ab s3 = { ab s with G := CutG i s.G } := HS3.out.2.2.2.1
          have e3 : (ab s5).W = (Cutx j s3.Ws).map wx ++ [wx (Go1 x false (C n))] := by rw [hs5]; show (s4.Ws ++ [_]).map wx = _; rw [HS4.out.1, List.map_append]; rfl
          have e4 : ab s5 = { ab s4 with W := (ab s5).W } := by rw [hs5]; rfl
          refine ⟨?_, ?_, ?_, ?_, ?_, ?_⟩
          · rw [e4, e1, e2]; rfl
          · rw [e3]
            have hp := end_perm H8.out.keys HXJ.out false (C n)
            rw [HS3.out.1] at hp ⊢
            exact hp
          · rw [e4, e1, e2]; rfl
          · rw [e4, e1, e2]; rfl
          · rw [e4, e1, e2]; rfl
          · rw [e4, e1, e2]; rfl)
        have HR10 := Lib.hid (HR9b.out.next st10 (by rw [hs5]; rfl))
        have HX10 := Lib.hid (HX9b.out.next st10 (by rw [hs5]; rfl))
        have HFIN := Lib.hid (show ∀ wz, Kp (fun k => k = b10) w10 wz → FEndY q N s i good true n now w (.returned (.tuple #[.agg #[.int .i64 x.id, .int .i64 x.rc, .string x.dom], .bool true])) wz from fun wz hkz =>
          ⟨wx x, s5, _, _, List.mem_map.2 ⟨x, HX.out, rfl⟩, HK.out, rfl, h10.past HR10.out hkz, (HST9b.out.trans st10).past hkz (fun k e => by have e2 : k = b10 := e; rw [e2]; exact HBN.out.2.1), HA5.out, HVE4.out.then (by rw [hs5]; rfl) (by rw [hs5]; rfl), by rw [hs5]; exact HS4.out.2.1⟩)
        clear h10 st10 hw10 hs5 hO9 hg9 hl9 hlt9 hk9 hC8 hOP hkF hf4 hS
        have r1 := cell_of HR10.out.cells 0
        have r2 := cell_of HR10.out.cells 1
        have r3 := cell_of HR10.out.cells 2
        simp only [List.getElem?_toArray, List.getElem?_cons_zero, List.getElem?_cons_succ] at r1 r2 r3
        have e1 := frozen_of HR10.out.cells 0
        have e2 := frozen_of HR10.out.cells 1
        have e3 := frozen_of HR10.out.cells 2
        have v0 : w10.cell? ⟨b12, 0, none⟩ = some (.int .i64 x.id) := (cell_of HX10.out.cells 0).trans rfl
        have v1 : w10.cell? ⟨b12, 1, none⟩ = some (.int .i64 x.rc) := (cell_of HX10.out.cells 1).trans rfl
        have v2 : w10.cell? ⟨b12, 2, none⟩ = some (.string x.dom) := (cell_of HX10.out.cells 2).trans rfl
        go_wp2_with fail
        refine bodyPost_ret (v := .tuple #[.agg #[.int .i64 x.id, .int .i64 x.rc, .string x.dom], .bool true]) ?_ rfl (HFIN.out _ ?_)
        · rw [results_cell_tmp rfl]
          go_simp
        · exact (by repeat (first | exact Kp.refl _ _ | apply Kp.drew | apply Kp.drewN | refine Kp.setCell ?_ _ _ (Or.inl rfl) | apply Kp.alloc))
      | false =>
        have y0 : w9a.cell? ⟨b14, 0, none⟩ = some (.int .i64 x.id) := (cell_of HW9.out.cells 0).trans rfl
        have y1 : w9a.cell? ⟨b14, 1, none⟩ = some (.int .i64 x.rc) := (cell_of HW9.out.cells 1).trans rfl
        have y2' : w9a.cell? ⟨b14, 2, none⟩ = some (.int .i64 x.nx) := (cell_of HW9.out.cells 2).trans rfl
        have y3 : w9a.cell? ⟨b14, 3, none⟩ = some (.string x.snd) := (cell_of HW9.out.cells 3).trans rfl
        have y4 : w9a.cell? ⟨b14, 4, none⟩ = some (.string x.dom) := (cell_of HW9.out.cells 4).trans rfl
        have y5 : w9a.cell? ⟨b14, 5, none⟩ = some (.bool x.loc) := (cell_of HW9.out.cells 5).trans rfl
        have y6 : w9a.cell? ⟨b14, 6, none⟩ = some (.bool x.go) := (cell_of HW9.out.cells 6).trans rfl
        go_wp2_with fail
        refine (fgone_any q N s4 _ vp' x.id x.rc x.nx x.snd x.dom x.loc x.go _ H9a.out hN).mono ?_; rintro e w10 ⟨rfl, s5, h10, st10, ha10, hp10, _, hd10, hc10⟩
        have HA5 := Lib.hid (show Aeq (ab s5) (aEnd (ab s) i (wx x) false (C n)) from Aeq.of_eq (by
          have e1 : ab s4 = aDel (ab s3) (x.id, x.rc) := HA4.out
          have e2 : ab s3 = { ab s with G := CutG i s.G } := HS3.out.2.2.2.1
          rw [ha10, e1, e2]
          show _ = aGone (aGo { ab s with G := CutG i s.G } (x.id, x.rc) false (fun _ => C n)) { wx x with go := false, nx := C n }
          rw [aGone_ring]
          show _ = aRing (aDel (aGo { ab s with G := CutG i s.G } (x.id, x.rc) false (fun _ => C n)) (x.id, x.rc)) _
          rw [del_go]
          rfl))
        have HR10 := Lib.hid (HR9.out.next st10 hc10)
        have HX10 := Lib.hid (HX9.out.next st10 hc10)
        have HFIN := Lib.hid (show ∀ wz, Kp (fun k => k = b10) w10 wz → FEndY q N s i good false n now w (.returned (.tuple #[.agg #[.int .i64 x.id, .int .i64 x.rc, .string x.dom], .bool true])) wz from fun wz hkz =>
          ⟨wx x, s5, _, _, List.mem_map.2 ⟨x, HX.out, rfl⟩, HK.out, rfl, h10.past HR10.out hkz, (HST9.out.trans st10).past hkz (fun k e => by have e2 : k = b10 := e; rw [e2]; exact HBN.out.2.1), HA5.out, HVE4.out.then hp10 hc10, by rw [hd10]; exact HS4.out.2.1⟩)
        clear h10 st10 ha10 hp10 hd10 hc10
        have r1 := cell_of HR10.out.cells 0
        have r2 := cell_of HR10.out.cells 1
        have r3 := cell_of HR10.out.cells 2
        simp only [List.getElem?_toArray, List.getElem?_cons_zero, List.getElem?_cons_succ] at r1 r2 r3
        have e1 := frozen_of HR10.out.cells 0
        have e2 := frozen_of HR10.out.cells 1
        have e3 := frozen_of HR10.out.cells 2
        have v0 : w10.cell? ⟨b12, 0, none⟩ = some (.int .i64 x.id) := (cell_of HX10.out.cells 0).trans rfl
        have v1 : w10.cell? ⟨b12, 1, none⟩ = some (.int .i64 x.rc) := (cell_of HX10.out.cells 1).trans rfl
        have v2 : w10.cell? ⟨b12, 2, none⟩ = some (.string x.dom) := (cell_of HX10.out.cells 2).trans rfl
        go_wp2_with fail
        refine bodyPost_ret (v := .tuple #[.agg #[.int .i64 x.id, .int .i64 x.rc, .string x.dom], .bool true]) ?_ rfl (HFIN.out _ ?_)
        · rw [results_cell_tmp rfl]
          go_simp
        · exact (by repeat (first | exact Kp.refl _ _ | apply Kp.drew | apply Kp.drewN | refine Kp.setCell ?_ _ _ (Or.inl rfl) | apply Kp.alloc))
end Go.Proofs.Ytbiahndpfbmoeaa
