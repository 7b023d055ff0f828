/- What the reference's peer does. Condition: there are no more domains than fit into memory. -/
import Derived.Test.YtbiahndpfbmoeaaSf5
namespace Go.Proofs.Ytbiahndpfbmoeaa
open Go.RowKit SatAid

theorem peer_info : (Try.prog.info? 120).map (fun i => (i.zero, i.size, i.bytes)) = some (some (.agg #[.string ByteArray.empty, .pointer none, .pointer none]), 3, 32) := by kernel_rfl
theorem Pf_one (y : Pe) : ∀ u ∈ Pf y, u.oneCell' = true := by
  intro u hu
  simp [Pf] at hu
  rcases hu with rfl | rfl | rfl <;> rfl
theorem MIn.pcell {w : World} {q N i gp : Nat} {s : Sd} {vl vp : Value} {y : Pe} (h : MIn w q s vl vp N) (hy : s.Ps[i]? = some y) (hb : vp.ownBlock = some gp) :
    w.cell? ⟨gp, i * 3, none⟩ = some (.string y.dom) ∧ w.cell? ⟨gp, i * 3 + 1, none⟩ = some (.pointer (some ⟨y.wb, 0, none⟩)) ∧ w.cell? ⟨gp, i * 3 + 2, none⟩ = some (.pointer (some ⟨y.tb, 0, none⟩)) ∧ gp < w.heap.size := by
  have hi := (List.getElem?_eq_some_iff.1 hy).1
  rcases h.prr.shape with ⟨_, h0, _⟩ | ⟨g, cap, rfl, _, _, hg⟩
  · omega
  · have e : g = gp := by simpa [Value.ownBlock] using hb
    subst e
    have ho := h.prr
    exact ⟨ho.cell (j := i * 3 + 0) ((Pl_get hy (by omega)).trans rfl), ho.cell ((Pl_get hy (by omega)).trans rfl), ho.cell ((Pl_get hy (by omega)).trans rfl), hg⟩
def fE (s : Sd) (Ps' : List Pe) (col' : Nat → Option (Nat × (Int × Int) × ByteArray)) : Sd := { s with Ps := Ps', col := col' }
def FPeer (q N : Nat) (s : Sd) (vl : Value) (d : ByteArray) (n : Int) (w : World) (e : Ending) (w' : World) : Prop :=
  ∃ (vp' : Value) (y : Pe) (Ps' : List Pe) (col' : Nat → Option (Nat × (Int × Int) × ByteArray)) (gp i : Nat), e = .returned (.pointer (some ⟨gp, i * 3, none⟩)) ∧ MIn w' q (fE s Ps' col') vl vp' N ∧ St w w' s (fE s Ps' col') ∧ Pext s n y Ps' ∧ y.dom = d ∧ Ps'[i]? = some y ∧ vp'.ownBlock = some gp
set_option maxRecDepth 100000 in
set_option maxHeartbeats 3200000 in
theorem fpeer_any (q N : Nat) (s : Sd) (vl vp : Value) (d : ByteArray) (n : Int) (w : World) (h : MIn w q s vl vp N) (hd : d ∈ s.D) (hN : N ≤ 1000000) :
    Calls Try.prog 58 #[.pointer (some ⟨q, 0, none⟩), .string d, .int .i64 n] w (FPeer q N s vl d n w) := by
  obtain ⟨ao, cap, hvp⟩ := h.prr.slice
  obtain ⟨i0, hi, hi0, hi1, hi2⟩ := info_parts peer_info
  have hl : s.Ps.length ≤ 1000000 := Nat.le_trans h.pslen hN
  have c14 : w.cell? ⟨q, 14, none⟩ = some (.slice ao s.Ps.length cap) := (cell_of h.head 14).trans (by show some vp = _; rw [hvp])
  have hnq : ¬ In vp q := fun e => by have h1 := h.cols.prr q e; rw [h.cols.head] at h1; exact Nat.ne_of_beq_eq_false rfl (congrArg Prod.fst (Option.some.inj h1))
  have H := Lib.hid h; have HVP := Lib.hid hvp; have HD := Lib.hid hd
  have HQ := Lib.hid (show q < w.heap.size ∧ w.frozen? ⟨q, 14, none⟩ = false ∧ ¬ In vp q from ⟨lt_of_block h.head, frozen_of h.head 14, hnq⟩)
  clear h hvp hd hnq
  go_enter Try.func58, Try.ntmps58
  go_wp2_with fail
  go_loopg [7] s.Ps.length (fun k i wr => ∃ j : Nat, k = s.Ps.length - j ∧ j ≤ s.Ps.length ∧ i = .int .i64 j ∧ wr = w ∧ ∀ (t : Nat) (z : Pe), t < j → s.Ps[t]? = some z → z.dom ≠ d)
  case atStart => exact ⟨0, rfl, Nat.zero_le _, rfl, rfl, fun t z ht => absurd ht (Nat.not_lt_zero _)⟩
  case round =>
    obtain ⟨j, hk, hj, rfl, rfl, hno⟩ := hrel
    obtain ⟨w, hw⟩ : ∃ w, w = wr := ⟨_, rfl⟩
    subst hw
    have HKk := Lib.hid hk; have HNO := Lib.hid hno
    clear hk hno
    by_cases hlt : j < s.Ps.length
    · obtain ⟨z, hz⟩ : ∃ z, s.Ps[j]? = some z := ⟨_, List.getElem?_eq_getElem hlt⟩
      obtain ⟨gp, c, hv, _⟩ := own_shape H.out.prr (by omega)
      have he := HVP.out.symm.trans hv
      simp only [Value.slice.injEq] at he
      obtain ⟨rfl, _, rfl⟩ := he
      have hgb : vp.ownBlock = some gp := by rw [hv]; rfl
      obtain ⟨p0, _, _, lgp⟩ := H.out.pcell hz hgb
      have HZ := Lib.hid hz; have HGB := Lib.hid hgb
      obtain ⟨zd, hzd⟩ : ∃ t, t = z.dom := ⟨_, rfl⟩
      rw [← hzd] at p0
      have HZD := Lib.hid hzd
      clear hz hv hgb hzd
      by_cases e1 : zd = d
      · subst e1
        have HR := Lib.hid (show FPeer q N s vl zd n w (.returned (.pointer (some ⟨gp, j * 3, none⟩))) w from ⟨vp, z, s.Ps, s.col, gp, j, rfl, H.out, St.refl _ _, ⟨List.mem_of_getElem? HZ.out, Or.inl rfl⟩, HZD.out.symm, HZ.out, HGB.out⟩)
        go_wp2_with fail
        go_ret
        exact HR.out
      · have HNEW := Lib.hid (show ∀ (t : Nat) (y : Pe), t < j + 1 → s.Ps[t]? = some y → y.dom ≠ d from fun t y ht hy => by
          by_cases e : t = j
          · subst e
            rw [HZ.out] at hy; cases hy
            exact fun e4 => e1 (HZD.out.trans e4)
          · exact HNO.out t y (by omega) hy)
        have z1 := toList_ne e1
        have z2 : (zd.toList == d.toList) = false := beq_eq_false_iff_ne.2 z1
        go_wp2_with fail
        go_roundg (s.Ps.length - (j + 1))
        case measure => rw [HKk.out]; omega
        case rel => exact ⟨j + 1, rfl, by omega, by go_num, rfl, HNEW.out⟩
    · have HNEW := Lib.hid (show ∀ z ∈ s.Ps, z.dom ≠ d from fun z hz => by
        obtain ⟨t, ht⟩ := List.mem_iff_getElem?.1 hz
        exact HNO.out t z (by have := (List.getElem?_eq_some_iff.1 ht).1; omega) ht)
      have HF := Lib.hid (show ∀ w', Kp (In vp) w w' → w'.cell? ⟨q, 14, none⟩ = some (.slice ao s.Ps.length cap) ∧ w'.cell? ⟨q, 3, none⟩ = some (.int .i64 s.c.win) ∧ w'.cell? ⟨q, 4, none⟩ = some (.int .i64 s.c.rate) ∧ w'.cell? ⟨q, 5, none⟩ = some (.int .i64 s.c.burst) from fun w' hk => by
        have hb := hk.keep H.out.head HQ.out.2.2
        exact ⟨(cell_of hb 14).trans (by show some vp = _; rw [HVP.out]), (cell_of hb 3).trans rfl, (cell_of hb 4).trans rfl, (cell_of hb 5).trans rfl⟩)
      clear HNO
      go_wp2_with fail
      refine region_E 29 (fun w' => Kp (In vp) w w') (by kernel_rfl) (Kp.refl _ _).drew (fun hS => ?_)
      refine takeE (i := 0) (v := ?_) rfl (by kernel_rfl) (by kernel_rfl) (by kernel_rfl) (by kernel_rfl) (fun _ _ _ h => h) hS (Or.inl ⟨by rfl, ?_⟩) ?_
      rotate_left
      · intro w hSw; obtain ⟨f14, f3, f4, f5⟩ := HF.out w hSw; go_simp <;> with_reducible rfl
      try simp only [Act.put, List.setIfInBounds_toArray, List.set_cons_zero, List.set_cons_succ]
      refine takeE (i := 1) (v := ?_) rfl (by kernel_rfl) (by kernel_rfl) (by kernel_rfl) (by kernel_rfl) (fun _ _ _ h => h) hS (Or.inl ⟨by rfl, ?_⟩) ?_
      rotate_left
      · intro w hSw; obtain ⟨f14, f3, f4, f5⟩ := HF.out w hSw; go_simp <;> with_reducible rfl
      try simp only [Act.put, List.setIfInBounds_toArray, List.set_cons_zero, List.set_cons_succ]
      refine takeE (i := 2) (v := ?_) rfl (by kernel_rfl) (by kernel_rfl) (by kernel_rfl) (by kernel_rfl) (fun _ _ _ h => h) hS (Or.inl ⟨by rfl, ?_⟩) ?_
      rotate_left
      · intro w hSw; obtain ⟨f14, f3, f4, f5⟩ := HF.out w hSw; go_simp <;> with_reducible rfl
      try simp only [Act.put, List.setIfInBounds_toArray, List.set_cons_zero, List.set_cons_succ]
      refine takeE (i := 3) (v := ?_) rfl (by kernel_rfl) (by kernel_rfl) (by kernel_rfl) (by kernel_rfl) (fun _ _ _ h => h) hS (Or.inl ⟨by rfl, ?_⟩) ?_
      rotate_left
      · intro w hSw; obtain ⟨f14, f3, f4, f5⟩ := HF.out w hSw; go_simp <;> with_reducible rfl
      try simp only [Act.put, List.setIfInBounds_toArray, List.set_cons_zero, List.set_cons_succ]
      refine takeE (i := 4) (v := ?_) rfl (by kernel_rfl) (by kernel_rfl) (by kernel_rfl) (by kernel_rfl) (fun _ _ _ h => h) hS (Or.inl ⟨by rfl, ?_⟩) ?_
      rotate_left
      · intro w hSw; obtain ⟨f14, f3, f4, f5⟩ := HF.out w hSw; go_simp <;> with_reducible rfl
      try simp only [Act.put, List.setIfInBounds_toArray, List.set_cons_zero, List.set_cons_succ]
      refine takeE (i := 5) (v := ?_) rfl (by kernel_rfl) (by kernel_rfl) (by kernel_rfl) (by kernel_rfl) (fun _ _ _ h => h) hS (Or.inl ⟨by rfl, ?_⟩) ?_
      rotate_left
      · intro w hSw; obtain ⟨f14, f3, f4, f5⟩ := HF.out w hSw; go_simp <;> with_reducible rfl
      try simp only [Act.put, List.setIfInBounds_toArray, List.set_cons_zero, List.set_cons_succ]
      refine takeE (i := 6) (v := ?_) rfl (by kernel_rfl) (by kernel_rfl) (by kernel_rfl) (by kernel_rfl) (fun _ _ _ h => h) hS (Or.inl ⟨by rfl, ?_⟩) ?_
      rotate_left
      · intro w hSw; obtain ⟨f14, f3, f4, f5⟩ := HF.out w hSw; go_simp <;> with_reducible rfl
      try simp only [Act.put, List.setIfInBounds_toArray, List.set_cons_zero, List.set_cons_succ]
      refine takeE (i := 7) (v := ?_) rfl (by kernel_rfl) (by kernel_rfl) (by kernel_rfl) (by kernel_rfl) (fun _ _ _ h => h) hS (Or.inl ⟨by rfl, ?_⟩) ?_
      rotate_left
      · intro w hSw; obtain ⟨f14, f3, f4, f5⟩ := HF.out w hSw; go_simp <;> with_reducible rfl
      try simp only [Act.put, List.setIfInBounds_toArray, List.set_cons_zero, List.set_cons_succ]
      refine takeE (i := 8) (v := ?_) rfl (by kernel_rfl) (by kernel_rfl) (by kernel_rfl) (by kernel_rfl) (fun _ _ _ h => h) hS (Or.inl ⟨by rfl, ?_⟩) ?_
      rotate_left
      · intro w hSw; obtain ⟨f14, f3, f4, f5⟩ := HF.out w hSw; go_simp <;> with_reducible rfl
      try simp only [Act.put, List.setIfInBounds_toArray, List.set_cons_zero, List.set_cons_succ]
      refine takeE (i := 9) (v := ?_) rfl (by kernel_rfl) (by kernel_rfl) (by kernel_rfl) (by kernel_rfl) (fun _ _ _ h => h) hS (Or.inl ⟨by rfl, ?_⟩) ?_
      rotate_left
      · intro w hSw; obtain ⟨f14, f3, f4, f5⟩ := HF.out w hSw; go_simp <;> with_reducible rfl
      try simp only [Act.put, List.setIfInBounds_toArray, List.set_cons_zero, List.set_cons_succ]
      refine takeE (i := 10) (v := ?_) rfl (by kernel_rfl) (by kernel_rfl) (by kernel_rfl) (by kernel_rfl) (fun _ _ _ h => h) hS (Or.inl ⟨by rfl, ?_⟩) ?_
      rotate_left
      · intro w hSw; obtain ⟨f14, f3, f4, f5⟩ := HF.out w hSw; go_simp <;> with_reducible rfl
      try simp only [Act.put, List.setIfInBounds_toArray, List.set_cons_zero, List.set_cons_succ]
      refine takeE (i := 12) (v := ?_) rfl (by kernel_rfl) (by kernel_rfl) (by kernel_rfl) (by kernel_rfl) (fun _ _ _ h => h) hS (Or.inl ⟨by rfl, ?_⟩) ?_
      rotate_left
      · intro w hSw; obtain ⟨f14, f3, f4, f5⟩ := HF.out w hSw; go_simp <;> with_reducible rfl
      try simp only [Act.put, List.setIfInBounds_toArray, List.set_cons_zero, List.set_cons_succ]
      refine takeE (i := 13) (v := ?_) rfl (by kernel_rfl) (by kernel_rfl) (by kernel_rfl) (by kernel_rfl) (fun _ _ _ h => h) hS (Or.inl ⟨by rfl, ?_⟩) ?_
      rotate_left
      · intro w hSw; obtain ⟨f14, f3, f4, f5⟩ := HF.out w hSw; go_simp <;> with_reducible rfl
      try simp only [Act.put, List.setIfInBounds_toArray, List.set_cons_zero, List.set_cons_succ]
      refine takeE (i := 14) (v := ?_) rfl (by kernel_rfl) (by kernel_rfl) (by kernel_rfl) (by kernel_rfl) (fun _ _ _ h => h) hS (Or.inl ⟨by rfl, ?_⟩) ?_
      rotate_left
      · intro w hSw; obtain ⟨f14, f3, f4, f5⟩ := HF.out w hSw; go_simp <;> with_reducible rfl
      try simp only [Act.put, List.setIfInBounds_toArray, List.set_cons_zero, List.set_cons_succ]
      refine takeE (i := 15) (v := ?_) rfl (by kernel_rfl) (by kernel_rfl) (by kernel_rfl) (by kernel_rfl) (fun _ _ _ h => h) hS (Or.inl ⟨by rfl, ?_⟩) ?_
      rotate_left
      · intro w hSw; obtain ⟨f14, f3, f4, f5⟩ := HF.out w hSw; go_simp <;> with_reducible rfl
      try simp only [Act.put, List.setIfInBounds_toArray, List.set_cons_zero, List.set_cons_succ]
      refine takeE (i := 16) (v := ?_) rfl (by kernel_rfl) (by kernel_rfl) (by kernel_rfl) (by kernel_rfl) (fun _ _ _ h => h) hS (Or.inl ⟨by rfl, ?_⟩) ?_
      rotate_left
      · intro w hSw; obtain ⟨f14, f3, f4, f5⟩ := HF.out w hSw; go_simp <;> with_reducible rfl
      try simp only [Act.put, List.setIfInBounds_toArray, List.set_cons_zero, List.set_cons_succ]
      refine takeE (i := 17) (v := ?_) rfl (by kernel_rfl) (by kernel_rfl) (by kernel_rfl) (by kernel_rfl) (fun _ _ _ h => h) hS (Or.inl ⟨by rfl, ?_⟩) ?_
      rotate_left
      · intro w hSw; obtain ⟨f14, f3, f4, f5⟩ := HF.out w hSw; go_simp <;> with_reducible rfl
      try simp only [Act.put, List.setIfInBounds_toArray, List.set_cons_zero, List.set_cons_succ]
      refine takeE (i := 18) (v := ?_) rfl (by kernel_rfl) (by kernel_rfl) (by kernel_rfl) (by kernel_rfl) (fun _ _ _ h => h) hS (Or.inl ⟨by rfl, ?_⟩) ?_
      rotate_left
      · intro w hSw; obtain ⟨f14, f3, f4, f5⟩ := HF.out w hSw; go_simp <;> with_reducible rfl
      try simp only [Act.put, List.setIfInBounds_toArray, List.set_cons_zero, List.set_cons_succ]
      refine takeE (i := 19) (v := ?_) rfl (by kernel_rfl) (by kernel_rfl) (by kernel_rfl) (by kernel_rfl) (fun _ _ _ h => h) hS (Or.inl ⟨by rfl, ?_⟩) ?_
      rotate_left
      · intro w hSw; obtain ⟨f14, f3, f4, f5⟩ := HF.out w hSw; go_simp <;> with_reducible rfl
      try simp only [Act.put, List.setIfInBounds_toArray, List.set_cons_zero, List.set_cons_succ]
      refine takeE (i := 20) (v := ?_) rfl (by kernel_rfl) (by kernel_rfl) (by kernel_rfl) (by kernel_rfl) (fun _ _ _ h => h) hS (Or.inl ⟨by rfl, ?_⟩) ?_
      rotate_left
      · intro w hSw; obtain ⟨f14, f3, f4, f5⟩ := HF.out w hSw; go_simp <;> with_reducible rfl
      try simp only [Act.put, List.setIfInBounds_toArray, List.set_cons_zero, List.set_cons_succ]
      refine takeE (i := 21) (v := ?_) rfl (by kernel_rfl) (by kernel_rfl) (by kernel_rfl) (by kernel_rfl) (fun _ _ _ h => h) hS (Or.inl ⟨by rfl, ?_⟩) ?_
      rotate_left
      · intro w hSw; obtain ⟨f14, f3, f4, f5⟩ := HF.out w hSw; go_simp <;> with_reducible rfl
      try simp only [Act.put, List.setIfInBounds_toArray, List.set_cons_zero, List.set_cons_succ]
      refine takeE (i := 22) (v := ?_) rfl (by kernel_rfl) (by kernel_rfl) (by kernel_rfl) (by kernel_rfl) (fun _ _ _ h => h) hS (Or.inl ⟨by rfl, ?_⟩) ?_
      rotate_left
      · intro w hSw; obtain ⟨f14, f3, f4, f5⟩ := HF.out w hSw; go_simp <;> with_reducible rfl
      try simp only [Act.put, List.setIfInBounds_toArray, List.set_cons_zero, List.set_cons_succ]
      refine readyE (rs := [11]) (by kernel_rfl) (by simp) ?_
      refine consE (o := _) rfl (fun K hK => ?_) nilE
      -- 11 call
      go_simp
      go_at_call 75; refine (rwnew_any _ _).mono ?_; rintro e z1 ⟨b1, rfl, hb1, hw1, hk1⟩
      refine keepE hK (hS.trans (hk1.mono (fun _ _ h => h.elim))) (fun hS => ?_)
      clear hK K
      try simp only [Act.put, List.setIfInBounds_toArray, List.set_cons_zero, List.set_cons_succ]
      refine readyE (rs := [23]) (by kernel_rfl) (by simp) ?_
      refine consE (o := _) rfl (fun K hK => ?_) nilE
      -- 23 call
      go_simp
      go_at_call 76; refine (rnew_any _ _ _ _).mono ?_; rintro e z2 ⟨b2, rfl, hb2, hw2, hk2⟩
      refine keepE hK (hS.trans (hk2.mono (fun _ _ h => h.elim))) (fun hS => ?_)
      clear hK K
      try simp only [Act.put, List.setIfInBounds_toArray, List.set_cons_zero, List.set_cons_succ]
      refine takeE (i := 24) (v := ?_) rfl (by kernel_rfl) (by kernel_rfl) (by kernel_rfl) (by kernel_rfl) (fun _ _ _ h => h) hS (Or.inl ⟨by rfl, ?_⟩) ?_
      rotate_left
      · intro w hSw; obtain ⟨f14, f3, f4, f5⟩ := HF.out w hSw; go_simp <;> with_reducible rfl
      try simp only [Act.put, List.setIfInBounds_toArray, List.set_cons_zero, List.set_cons_succ]
      refine readyE (rs := [25]) (by kernel_rfl) (by simp) ?_
      refine consE (o := _) rfl (fun K hK => ?_) nilE
      -- 25 buildSlice
      go_simp
      refine allocE hK (hS.alloc _) (fun z3 hz3 hS => ?_)
      have hC8 : ∀ j u, (Pf ⟨0, b1, b2, d, 1, 0, V s.c.burst, C n⟩)[j]? = some u → z3.cell? ((⟨z2.heap.size, 0, none⟩ : Addr).add j) = some u := by rw [hz3]; exact lit_news (cs := Pf ⟨0, b1, b2, d, 1, 0, V s.c.burst, C n⟩) _ rfl
      have hk8 : Kp (fun _ => False) z2 z3 := by rw [hz3]; exact (Kp.refl _ _).alloc _
      have hkF : Kp (fun _ => False) w z3 := ((((Kp.refl _ w).drew).trans hk1).trans hk2).trans hk8
      have hOP : Own z3 120 3 (.slice ao s.Ps.length cap) s.Ps.length (Pl s.Ps) := by have h := H.out.prr.keep hkF (fun _ _ h => h); rw [HVP.out] at h; exact h
      clear hz3
      clear hK K
      try simp only [Act.put, List.setIfInBounds_toArray, List.set_cons_zero, List.set_cons_succ]
      refine readyE (rs := [26]) (by kernel_rfl) (by simp) ?_
      refine consE (o := _) rfl (fun K hK => ?_) nilE
      -- 26 call
      refine step_append_lies _ rfl _ _ 53 rfl 0 120 i0 _ 3 32 Try.underlying53 hi hi0 hi1 hi2 rfl (by decide) (.slice ao s.Ps.length cap) s.Ps.length (Pl s.Ps) rfl hOP ⟨_, 0, none⟩ 1 1 (Pf ⟨0, b1, b2, d, 1, 0, V s.c.burst, C n⟩) rfl rfl hC8 (Pf_one _) (by omega) (by unfold maxLen; omega) (by omega) (Nat.zero_le _) _ rfl ?_
      intro gp c9 z4 hO9 hg9 hl9 hlt9
      have hk9 : Kp (In vp) z3 z4 := by rw [HVP.out]; exact Kp.of_grown' hg9
      refine keepE hK (hS.trans hk9) (fun hS => ?_)
      clear hK K
      try simp only [Act.put, List.setIfInBounds_toArray, List.set_cons_zero, List.set_cons_succ]
      refine readyE (rs := [27]) (by kernel_rfl) (by simp) ?_
      refine consE (o := _) rfl (fun K hK => ?_) nilE
      -- 27 nilCheck
      go_simp
      refine keepE hK hS (fun hS => ?_)
      clear hK K
      try simp only [Act.put, List.setIfInBounds_toArray, List.set_cons_zero, List.set_cons_succ]
      refine takeE (i := 28) (v := ?_) rfl (by kernel_rfl) (by kernel_rfl) (by kernel_rfl) (by kernel_rfl) (fun _ _ _ h => h) hS (Or.inl ⟨by rfl, ?_⟩) ?_
      rotate_left
      · intro w hSw; obtain ⟨f14, f3, f4, f5⟩ := HF.out w hSw; go_simp <;> with_reducible rfl
      try simp only [Act.put, List.setIfInBounds_toArray, List.set_cons_zero, List.set_cons_succ]
      refine readyE (rs := [29]) (by kernel_rfl) (by simp) ?_
      refine consE (o := _) rfl (fun K hK => ?_) nilE
      -- 29 store
      have e14 := (hS.frozen 14 HQ.out.1 HQ.out.2.2).trans HQ.out.2.1
      obtain ⟨f14, _⟩ := HF.out _ hS
      go_simp
      refine hK.out _ _ (fun h => absurd rfl h) ?_
      clear hK K
      try simp only [Act.put, List.setIfInBounds_toArray, List.set_cons_zero, List.set_cons_succ]
      refine doneE (by kernel_rfl) ?_ _
      have hl9' : vp.ownBlock = some gp ∨ gp = z3.heap.size := by rw [HVP.out]; exact hl9
      have hz3 : w.heap.size ≤ z3.heap.size := Nat.le_trans (show w.heap.size ≤ z1.heap.size from hk1.size) (Nat.le_trans hk2.size hk8.size)
      have hb2' : w.heap.size ≤ b2 := Nat.le_trans (show w.heap.size ≤ z1.heap.size from hk1.size) hb2
      have hb1' : w.heap.size ≤ b1 := hb1
      have hw1l := lt_of_block hw1
      have hw2l := lt_of_block hw2
      have hvl : ∀ k, vp.ownBlock = some k → k < w.heap.size := fun k e => H.out.prr.lt e
      have hwz : z4.heap[b1]? = some (.cells (Wd (V8 s.c.win) 1 0) 128 (0, 0)) := hk9.keep (hk8.keep (hk2.keep hw1 (fun h => h)) (fun h => h)) (fun e => by have := hvl _ e; omega)
      have hbz : z4.heap[b2]? = some (.cells (Bk (V s.c.rate) (V s.c.burst) (V s.c.burst) (C n)) 122 (0, 0)) := hk9.keep (hk8.keep hw2 (fun h => h)) (fun e => by have := hvl _ e; omega)
      have hlq := HQ.out.1
      have hk6 : Kp (fun k => k = q ∨ In vp k) w (z4.setCell ⟨q, 14, none⟩ (.slice (some ⟨gp, 0, none⟩) (s.Ps.length + 1) c9)) := ((hS).mono (fun _ _ h => Or.inr h)).setCell _ _ (Or.inl (Or.inl rfl))
      have hkq : Kp (fun k => k = q) z4 (z4.setCell ⟨q, 14, none⟩ (.slice (some ⟨gp, 0, none⟩) (s.Ps.length + 1) c9)) := (Kp.refl _ _).setCell _ _ (Or.inl rfl)
      have hgq : ¬ gp = q := fun e => by
        rcases hl9' with h1 | h1
        · exact HQ.out.2.2 (show vp.ownBlock = some q from by rw [← e]; exact h1)
        · omega
      have hwo : WOk (V8 s.c.win) 1 0 := ⟨V8_hi _, by omega, V8_lo _, by omega, by omega⟩
      have hv1 := V_lo s.c.burst
      have hc1 := C_lo n
      have hc2 := C_hi n
      have hgk : ∀ k, (Value.slice (some ⟨gp, 0, none⟩) (s.Ps.length + 1) c9).ownBlock = some k → gp = k := fun k hk => by simpa [Value.ownBlock] using hk
      have hdw : w.drew.heap.size = w.heap.size := rfl
      have hs2 := hk2.size
      have hs8 := hk8.size
      have hown6 : Own (z4.setCell ⟨q, 14, none⟩ (.slice (some ⟨gp, 0, none⟩) (s.Ps.length + 1) c9)) 120 3 (.slice (some ⟨gp, 0, none⟩) (s.Ps.length + 1) c9) (s.Ps.length + 1) (Pl s.Ps ++ Pf ⟨0, b1, b2, d, 1, 0, V s.c.burst, C n⟩) := Own.keep hO9 hkq (fun k hk e => hgq ((hgk k hk).trans e))
      have hsn6 : SameOrNew w vp (.slice (some ⟨gp, 0, none⟩) (s.Ps.length + 1) c9) := by
        rcases hl9' with e | e
        · exact Or.inl (by rw [e]; rfl)
        · exact Or.inr (fun k hk => by have h1 := hgk k hk; omega)
      have hge : gp < w.heap.size ∨ gp = z3.heap.size := hl9'.imp (fun e => hvl _ e) id
      have hv2 : (Value.slice (some ⟨gp, 0, none⟩) (s.Ps.length + 1) c9).ownBlock ≠ some b1 := fun e => by have h1 := hgk _ e; omega
      have hv3 : (Value.slice (some ⟨gp, 0, none⟩) (s.Ps.length + 1) c9).ownBlock ≠ some b2 := fun e => by have h1 := hgk _ e; omega
      have h23 : b1 ≠ b2 := by omega
      have hq1 : ¬ b1 = q := by omega
      have hq2 : ¬ b2 = q := by omega
      obtain ⟨h6, st6⟩ := H.out.addPeer (vp' := .slice (some ⟨gp, 0, none⟩) (s.Ps.length + 1) c9) (y := ⟨0, b1, b2, d, 1, 0, V s.c.burst, C n⟩) HD.out HNEW.out hk6 (heap_set (hS.keep H.out.head HQ.out.2.2) _) hown6 hsn6 hb1' hb2' h23 hv2 hv3 (hkq.keep hwz hq1) (hkq.keep hbz hq2) ⟨hwo, by show 0 ≤ V s.c.burst; omega, Int.le_refl _, hc1, hc2⟩
      obtain ⟨w6, hw6⟩ : ∃ w6, w6 = z4.setCell ⟨q, 14, none⟩ (.slice (some ⟨gp, 0, none⟩) (s.Ps.length + 1) c9) := ⟨_, rfl⟩
      rw [← hw6] at h6 st6 ⊢
      have c14b : w6.cell? ⟨q, 14, none⟩ = some (.slice (some ⟨gp, 0, none⟩) (s.Ps.length + 1) c9) := (cell_of h6.head 14).trans rfl
      have HR := Lib.hid (fun m => show FPeer q N s vl d n w (.returned (.pointer (some ⟨gp, s.Ps.length * 3, none⟩))) (w6.drewN m) from ⟨_, _, _, _, gp, s.Ps.length, rfl, h6.calm ((Kp.refl _ _).drewN m), st6.calm ((Kp.refl _ _).drewN m), ⟨List.mem_append_right _ (List.mem_singleton_self _), Or.inr ⟨rfl, HNEW.out, rfl, rfl, rfl, rfl⟩⟩, rfl, by simp, rfl⟩)
      have e1 : IntKind.i64.wrap (((s.Ps.length + 1 : Nat) : Int) - 1) = (s.Ps.length : Int) := by rw [IntWalk.i64_in _ (by omega)]; omega
      have e1' : IntKind.i64.wrap ((s.Ps.length : Int) + 1 - 1) = (s.Ps.length : Int) := by rw [IntWalk.i64_in _ (by omega)]; omega
      have q1 : (0 : Int) ≤ (s.Ps.length : Int) := by omega
      have q2 : (s.Ps.length : Int) < ((s.Ps.length + 1 : Nat) : Int) := by omega
      have q3 : (s.Ps.length : Int) < (s.Ps.length : Int) + 1 := by omega
      clear hw6 h6 st6 hk6 hkq hO9 hg9 hl9 hl9' hwz hbz hw1 hw2 hk1 hk2 hk8 hk9 hC8 hOP hkF hvl hgk hdw hown6 hsn6 hge hv2 hv3 h23 hq1 hq2
      go_wp2_with fail
      go_quiet (fail)
      go_wp2_with fail
      go_ret
      exact HR.out _
end Go.Proofs.Ytbiahndpfbmoeaa

/- What the reference's ready does. Condition: there are no more recipients than fit into memory; times do not go back. -/
namespace Go.Proofs.Ytbiahndpfbmoeaa
open Go.RowKit SatAid

def fQ (s : Sd) (y' : Pe) : Sd := { s with Ps := Psub s.Ps y' }
def FGo (q N : Nat) (s : Sd) (vl vp : Value) (y : Pe) (now : Int) (w : World) (e : Ending) (w' : World) : Prop :=
  e = .returned (.tuple #[]) ∧ MIn w' q (fQ s (Pnow s y now)) vl vp N ∧ Vq now s (fQ s (Pnow s y now)) ∧ St w w' s (fQ s (Pnow s y now))
theorem MIn.wt_ne {w : World} {q N : Nat} {s : Sd} {vl vp : Value} {y : Pe} (h : MIn w q s vl vp N) (hy : y ∈ s.Ps) : y.wb ≠ y.tb := fun e => by
  obtain ⟨c2, c3⟩ := h.cols.prs y hy
  rw [e, c3] at c2
  exact Nat.ne_of_beq_eq_false rfl (congrArg Prod.fst (Option.some.inj c2))
theorem pgo_any (q N : Nat) (s : Sd) (vl vp : Value) (y : Pe) (now : Int) (w : World) (h : MIn w q s vl vp N) (hy : y ∈ s.Ps) (ht : Tik s now) (hn2 : now ≤ 1099511627776) :
    Calls Try.prog 64 #[.pointer (some ⟨y.tb, 0, none⟩), .int .i64 now] w (FGo q N s vl vp y now w) := by
  obtain ⟨k1, k2, k3, k4, k5, _⟩ := h.pok y hy
  have hty := ht y hy
  have hC : C now = now := C_of (by omega) hn2
  have hm : max y.t (C now) = now := by rw [hC]; omega
  refine (rgo_any y.tb _ _ _ _ now w (V_lo _) (V_hi _) (V_lo _) (V_hi _) k2 k3 k4 k5 (h.prt y hy)).mono ?_
  rintro e w' ⟨rfl, hb, hk⟩
  rw [hm] at hb
  have hne := h.wt_ne hy
  obtain ⟨g1, g2⟩ := h.setPeer hy (y' := Pnow s y now) rfl rfl rfl (hk.mono (fun _ _ h => Or.inr h)) (hk.keep (h.prw y hy) hne) hb ⟨k1, Lf_lo (by have := V_lo s.c.burst; omega), Lf_hi, by show 0 ≤ now; omega, hn2⟩
  exact ⟨rfl, g1, Vq.counted h.doms hy ⟨k2, k3, k4⟩ ht hn2, g2⟩
theorem psub_get {Ps : List Pe} {y y' : Pe} {i : Nat} (h : Ps[i]? = some y) (e : y.dom = y'.dom) : (Psub Ps y')[i]? = some y' := by
  unfold Psub
  rw [List.getElem?_map, h]
  simp [e]
/-- may it begin now? -/
def rdF (s : Sd) (now : Int) (go : Bool) (nx : Int) (dom : ByteArray) : Bool := !go && (decide (nx ≤ now) && fr s now dom)
/-- a domain's tokens are counted up to now -/
def Tch (s : Sd) (now : Int) (d : ByteArray) : Prop := ∃ y ∈ s.Ps, y.dom = d ∧ y.t = now
theorem Tch.ext {s : Sd} {now n : Int} {d : ByteArray} {y : Pe} {Ps' : List Pe} {col' : Nat → Option (Nat × (Int × Int) × ByteArray)} (h : Tch s now d) (hx : Pext s n y Ps') : Tch (fE s Ps' col') now d := by
  obtain ⟨z, hz, e1, e2⟩ := h
  refine ⟨z, ?_, e1, e2⟩
  show z ∈ Ps'
  rcases hx.2 with h | ⟨h, _⟩
  · rw [h]; exact hz
  · rw [h]; exact List.mem_append_left _ hz
theorem Tch.sub {s : Sd} {now : Int} {d : ByteArray} {y' : Pe} (h : Tch s now d) (ht : y'.t = now) : Tch (fQ s y') now d := by
  obtain ⟨z, hz, e1, e2⟩ := h
  by_cases e : z.dom = y'.dom
  · exact ⟨y', Psub_in hz e, by rw [← e, e1], ht⟩
  · exact ⟨z, List.mem_map.2 ⟨z, hz, by rw [if_neg e]⟩, e1, e2⟩
def FRdy (q N : Nat) (s : Sd) (vl : Value) (now : Int) (go : Bool) (nx : Int) (dom : ByteArray) (w : World) (e : Ending) (w' : World) : Prop :=
  ∃ s' vp', e = .returned (.bool (rdF s now go nx dom)) ∧ MIn w' q s' vl vp' N ∧ St w w' s s' ∧ ab s' = ab s ∧ s'.Ws = s.Ws ∧ s'.D = s.D ∧ Vq now s s' ∧ (rdF s now go nx dom = true → Tch s' now dom) ∧ (∀ d, Tch s now d → Tch s' now d)
set_option maxRecDepth 100000 in
set_option maxHeartbeats 3200000 in
theorem fready_any (q N : Nat) (s : Sd) (vl vp : Value) (id rc nx : Int) (snd dom : ByteArray) (lb gb : Bool) (now : Int) (w : World) (h : MIn w q s vl vp N) (hd : dom ∈ s.D) (ht : Tik s now) (hn : 0 ≤ now) (hn2 : now ≤ 1099511627776) (hN : N ≤ 1000000) :
    Calls Try.prog 57 #[.pointer (some ⟨q, 0, none⟩), .agg #[.int .i64 id, .int .i64 rc, .int .i64 nx, .string snd, .string dom, .bool lb, .bool gb], .int .i64 now] w (FRdy q N s vl now gb nx dom w) := by
  have H := Lib.hid h; have HD := Lib.hid hd; have HT := Lib.hid ht
  have hb1 := heap_new (w := w) (.cells #[.int .i64 id, .int .i64 rc, .int .i64 nx, .string snd, .string dom, .bool lb, .bool gb] 62)
  have hk1 : Kp (fun _ => False) w (w.alloc (.cells #[.int .i64 id, .int .i64 rc, .int .i64 nx, .string snd, .string dom, .bool lb, .bool gb] 62)) := (by repeat (first | exact Kp.refl _ _ | apply Kp.drew | apply Kp.drewN | refine Kp.setCell ?_ _ _ (Or.inl rfl) | apply Kp.alloc))
  have HK1 := Lib.hid hk1
  have H1 := Lib.hid (h.calm hk1)
  have HR0 := Lib.hid (show rdF s now gb nx dom = false → FRdy q N s vl now gb nx dom w (.returned (.bool false)) (w.alloc (.cells #[.int .i64 id, .int .i64 rc, .int .i64 nx, .string snd, .string dom, .bool lb, .bool gb] 62)) from fun e => ⟨s, vp, by rw [e], h.calm hk1, St.of hk1 (fun _ _ h => h.elim) rfl, rfl, rfl, rfl, Vq.refl ht, (fun e2 => by rw [e] at e2; cases e2), fun _ h => h⟩)
  clear h hd ht hb1 hk1
  cases gb with
  | true =>
    have HR := Lib.hid (HR0.out rfl)
    go_enter Try.func57, Try.ntmps57
    go_wp2_with fail
    go_ret
    exact HR.out
  | false =>
  by_cases hnx : now < nx
  · have hnx' : decide (nx ≤ now) = false := by simp; omega
    have HR := Lib.hid (HR0.out (by unfold rdF; rw [hnx']; rfl))
    clear hnx'
    go_enter Try.func57, Try.ntmps57
    go_wp2_with fail
    go_ret
    exact HR.out
  have HNX := Lib.hid (show rdF s now false nx dom = fr s now dom from by
    have h1 : decide (nx ≤ now) = true := by simp; omega
    unfold rdF; rw [h1]; rfl)
  go_enter Try.func57, Try.ntmps57
  go_wp2_with fail
  refine (fpeer_any q N s vl vp dom now _ H1.out HD.out hN).mono ?_; rintro e w2 ⟨vp', y, Ps', col', gp, i, rfl, h2, st2, hx2, hyd, hyi, hgp⟩
  have hv2 : Vq now s (fE s Ps' col') := Vq.ext HT.out hn hn2 hx2 rfl
  have hym := List.mem_of_getElem? hyi
  have HYI := Lib.hid hyi; have HGP := Lib.hid hgp; have HYD := Lib.hid hyd; have HV2 := Lib.hid hv2; have H2 := Lib.hid h2; have HYM := Lib.hid hym
  have HST2 := Lib.hid (show St w w2 s (fE s Ps' col') from (St.of HK1.out (fun _ _ h => h.elim) rfl).trans st2)
  obtain ⟨_, _, p2, lgp⟩ := h2.pcell (y := y) hyi hgp
  have HX2 := Lib.hid hx2
  clear h2 st2 hx2 hyd hyi hgp hv2 hym
  go_wp2_with fail
  refine (pgo_any q N (fE s Ps' col') vl vp' y now _ H2.out HYM.out HV2.out.le hn2).mono ?_; rintro e w3 ⟨rfl, h3, hv3, st3⟩
  obtain ⟨y3, hy3⟩ : ∃ y3, y3 = Pnow (fE s Ps' col') y now := ⟨_, rfl⟩
  rw [← hy3] at h3 hv3 st3
  have hy3d : y3.dom = dom := by rw [hy3]; exact HYD.out
  have hy3i : (fQ (fE s Ps' col') y3).Ps[i]? = some y3 := psub_get HYI.out (by rw [hy3]; rfl)
  have hy3m := List.mem_of_getElem? hy3i
  obtain ⟨_, r1, r2, lgp3⟩ := h3.pcell hy3i HGP.out
  have b1 : w3.cell? ⟨y3.wb, 1, none⟩ = some (.int .i64 y3.now) := (cell_of (h3.prw y3 hy3m) 1).trans rfl
  have b2 : w3.cell? ⟨y3.wb, 2, none⟩ = some (.int .i64 y3.busy) := (cell_of (h3.prw y3 hy3m) 2).trans rfl
  have b3 : w3.cell? ⟨y3.tb, 2, none⟩ = some (.int .i64 y3.l) := (cell_of (h3.prt y3 hy3m) 2).trans rfl
  have hfr : fr s now dom = (decide (y3.busy < y3.now) && decide (0 < y3.l)) := by
    obtain ⟨e1, e2, e3⟩ := pn_of h3.doms hy3m
    have e4 : vT (fQ (fE s Ps' col') y3) now y3.dom = y3.l := by
      rw [e3 now]
      have ht3 : y3.t = now := by rw [hy3]; rfl
      obtain ⟨_, k2, k3, k4, k5, _⟩ := h3.pok y3 hy3m
      have k3 : y3.l ≤ V s.c.burst := k3
      show Lf (V s.c.rate) (V s.c.burst) y3.l y3.t now = y3.l
      rw [ht3, Lf_eq (V_lo _) (V_hi _) (V_lo _) (V_hi _) k2 k3 hn hn2, C_of hn hn2, show max (now - now) 0 = 0 by omega, Int.mul_zero]
      omega
    unfold fr
    have hvv := HV2.out.trans hv3
    rw [← hvv.b, ← hvv.n, ← hvv.t now dom (Int.le_refl _) hn2, ← hy3d, e1, e2, e4]
  have HR := Lib.hid (fun m => show FRdy q N s vl now false nx dom w (.returned (.bool (decide (y3.busy < y3.now) && decide (0 < y3.l)))) (w3.drewN m) from ⟨_, vp', by rw [HNX.out, hfr], h3.calm ((Kp.refl _ _).drewN m), (HST2.out.trans st3).calm ((Kp.refl _ _).drewN m), rfl, rfl, rfl, HV2.out.trans hv3, (fun _ => ⟨y3, hy3m, hy3d, by rw [hy3]; rfl⟩), fun d hd => (hd.ext HX2.out).sub (by rw [hy3]; rfl)⟩)
  clear h3 hv3 st3 hy3 hy3d hy3i hy3m hfr p2
  by_cases e1 : y3.busy < y3.now
  · have f1 : decide (y3.busy < y3.now) = true := decide_eq_true e1
    by_cases e2 : 0 < y3.l
    · have f2 : decide (0 < y3.l) = true := decide_eq_true e2
      rw [f1, f2] at HR
      go_wp2_with fail
      go_quiet (fail)
      go_wp2_with fail
      go_ret
      exact HR.out _
    · have f2 : decide (0 < y3.l) = false := decide_eq_false e2
      rw [f1, f2] at HR
      go_wp2_with fail
      go_quiet (fail)
      go_wp2_with fail
      go_ret
      exact HR.out _
  · have f1 : decide (y3.busy < y3.now) = false := decide_eq_false e1
    rw [f1, Bool.false_and] at HR
    go_wp2_with fail
    go_quiet (fail)
    go_wp2_with fail
    go_ret
    exact HR.out _
end Go.Proofs.Ytbiahndpfbmoeaa

/- What the reference's End does: blocks of its own, and the parts that are written. No condition. -/
namespace Go.Proofs.Ytbiahndpfbmoeaa
open Go.RowKit SatAid

/-- a block of a call's own, that is no scheduler's -/
structure Loc (w : World) (s : Sd) (b : Nat) (o : Obj) : Prop where
  cells : w.heap[b]? = some o
  no : s.col b = none
  ne : ∀ ao cap, s.c.lv = .slice ao s.c.L.length cap → s.c.L ≠ [] → ∀ bb off, ao = some ⟨bb, off, none⟩ → bb ≠ b
section
variable {w w' : World} {q N b : Nat} {s s' : Sd} {vl vp : Value} {o : Obj}
theorem Loc.next (h : Loc w s b o) (st : St w w' s s') (hc : s'.c = s.c) : Loc w' s' b o :=
  ⟨st.kp.keep h.cells (by rw [h.no]; exact Bool.false_ne_true), st.none (lt_of_block h.cells) h.no, by rw [hc]; exact h.ne⟩
theorem Loc.calm (h : Loc w s b o) (hk : Kp (fun _ => False) w w') : Loc w' s b o := ⟨hk.keep h.cells (fun h => h), h.no, h.ne⟩
theorem MIn.local (h : MIn w q s vl vp N) (hb : w.heap.size ≤ b) (hc : w'.heap[b]? = some o) : Loc w' s b o := by
  refine ⟨hc, ?_, fun ao cap e hne bb off ea => ?_⟩
  · cases h1 : s.col b with
    | none => rfl
    | some c => have := h.lt b (by rw [h1]; rfl); omega
  · obtain ⟨ao2, cap2, e1, e2, _⟩ := h.loc
    rw [e1] at e
    simp only [Value.slice.injEq] at e
    obtain ⟨rfl, _, rfl⟩ := e
    obtain ⟨b', off', e', hb', _⟩ := e2 0 (List.length_pos_iff.2 hne)
    rw [ea] at e'; cases e'
    omega
theorem MIn.past (h : MIn w q s vl vp N) (hl : Loc w s b o) (hk : Kp (fun k => k = b) w w') : MIn w' q s vl vp N :=
  h.keep hk (fun k e e2 => by have e3 : k = b := e2; subst e3; rw [hl.no] at e; cases e) (fun ao cap e hne bb off ea e2 => hl.ne ao cap e hne bb off ea e2)
end
theorem Loc.other {w w' : World} {s : Sd} {b b2 : Nat} {o : Obj} (h : Loc w s b o) (hk : Kp (fun k => k = b2) w w') (hne : b ≠ b2) : Loc w' s b o := ⟨hk.keep h.cells hne, h.no, h.ne⟩
/-- two schedulers are alike but for the order of the recipients -/
def Aeq (A B : Ab) : Prop := A.c = B.c ∧ A.W.Perm B.W ∧ A.A0 = B.A0 ∧ A.A1 = B.A1 ∧ A.G = B.G ∧ A.last = B.last
theorem Aeq.of_eq {A B : Ab} (h : A = B) : Aeq A B := by subst h; exact ⟨rfl, List.Perm.refl _, rfl, rfl, rfl, rfl⟩
theorem MIn.start {w : World} {q N i : Nat} {s : Sd} {vl vp : Value} {x : Wt} (h : MIn w q s vl vp N) (hx : x ∈ s.Ws) (hk : s.G[i]? = some (x.id, x.rc)) : (aStarts (ab s))[i]? = some (x.id, x.rc, x.dom) := by
  unfold aStarts
  rw [List.getElem?_map, show (ab s).G = s.G from rfl, hk]
  simp only [Option.map_some]
  have hd := dm_at (W := s.Ws.map wx) (x := wx x) (by rw [List.nodup_iff_pairwise_ne, List.pairwise_map, List.pairwise_map]; exact h.keys) (List.mem_map.2 ⟨x, hx, rfl⟩)
  rw [show dmA (ab s).W (x.id, x.rc) = x.dom from hd]
theorem MIn.cutG {w w6 z : World} {q N i n9 : Nat} {s : Sd} {vl vp v9 : Value} (h : MIn w q s vl vp N) (hS : Kp (fun _ => False) w z) (hi : i < s.G.length) (hn : n9 = s.G.length - 1)
    (ho : z.ownsRow w.heap.size 66 3 v9 n9 (Stc ((aStarts (ab s)).take i) ++ Stc ((aStarts (ab s)).drop (i + 1)))) (hw : w6 = z.setCell ⟨q, 13, none⟩ v9) :
    MIn w6 q (fG s v9 (CutG i s.G)) vl vp N ∧ St w w6 s (fG s v9 (CutG i s.G)) := by
  subst hw
  have hnew : ∀ k, v9.ownBlock = some k → w.heap.size ≤ k := fun k e => (World.ownsRow.lt ho k e).1
  have hq := lt_of_block h.head
  refine h.setG ((hS.mono (fun _ _ h => h.elim)).setCell _ _ (Or.inl (Or.inl rfl))) (heap_set (hS.keep h.head (fun h => h)) _) ?_ (Or.inr hnew) (fun k hk => h.gin k (CutG_sub hk)) (CutG_nodup h.gnd)
  have e : aStarts (ab (fG s v9 (CutG i s.G))) = (aStarts (ab s)).take i ++ (aStarts (ab s)).drop (i + 1) := by
    show (CutG i s.G).map _ = ((s.G).map _).take i ++ ((s.G).map _).drop (i + 1)
    unfold CutG
    rw [List.map_append, List.map_take, List.map_drop]
    rfl
  rw [e, Stc_app, CutG_len hi, ← hn]
  exact Own.keep (own_weaken ho) ((Kp.refl (· = q) z).setCell ⟨q, 13, none⟩ _ (Or.inl rfl)) (fun k hk e => by have := hnew k hk; have e2 : k = q := e; omega)
def yEnd (s : Sd) (y : Pe) (g : Bool) : Pe := { y with now := En g (V8 s.c.win) y.now y.busy, busy := Eb y.busy }
def FWEnd (q N : Nat) (s : Sd) (vl vp : Value) (y : Pe) (g : Bool) (now : Int) (w : World) (e : Ending) (w' : World) : Prop :=
  (∃ r, e = .returned (.bool r)) ∧ MIn w' q (fQ s (yEnd s y g)) vl vp N ∧ Ve now y.dom g s (fQ s (yEnd s y g)) ∧ St w w' s (fQ s (yEnd s y g))
theorem pwend_any (q N : Nat) (s : Sd) (vl vp : Value) (y : Pe) (g : Bool) (now : Int) (w : World) (h : MIn w q s vl vp N) (hy : y ∈ s.Ps) (ht : Tik s now) :
    Calls Try.prog 62 #[.pointer (some ⟨y.wb, 0, none⟩), .bool g] w (FWEnd q N s vl vp y g now w) := by
  obtain ⟨k1, k2, k3, k4, k5, _⟩ := h.pok y hy
  refine (rwend_any y.wb g _ _ _ w k1 (h.prw y hy)).mono ?_
  rintro e w' ⟨rfl, hb, hk⟩
  have hne := h.wt_ne hy
  obtain ⟨g1, g2⟩ := h.setPeer hy (y' := yEnd s y g) rfl rfl rfl (hk.mono (fun _ _ h => Or.inl h)) hb (hk.keep (h.prt y hy) (fun e => hne e.symm)) ⟨k1.ends g, k2, k3, k4, k5⟩
  exact ⟨⟨_, rfl⟩, g1, Ve.ended h.doms hy rfl rfl rfl rfl rfl ht, g2⟩
def yBeg (y : Pe) : Pe := { y with busy := y.busy + 1 }
def FWBeg (q N : Nat) (s : Sd) (vl vp : Value) (y : Pe) (w : World) (e : Ending) (w' : World) : Prop :=
  (∃ r, e = .returned (.bool r)) ∧ MIn w' q (fQ s (yBeg y)) vl vp N ∧ St w w' s (fQ s (yBeg y))
theorem pwbeg_any (q N : Nat) (s : Sd) (vl vp : Value) (y : Pe) (w : World) (h : MIn w q s vl vp N) (hy : y ∈ s.Ps) (hb : y.busy < y.now) :
    Calls Try.prog 59 #[.pointer (some ⟨y.wb, 0, none⟩)] w (FWBeg q N s vl vp y w) := by
  obtain ⟨k1, k2, k3, k4, k5, _⟩ := h.pok y hy
  refine (rwbegin_any y.wb _ _ _ w k1 (h.prw y hy)).mono ?_
  rintro e w' ⟨rfl, hbb, hk⟩
  have hne := h.wt_ne hy
  have hB : Bb y.now y.busy = y.busy + 1 := by unfold Bb; rw [if_pos hb]
  have hk2 := k1.begin
  rw [hB] at hbb hk2
  obtain ⟨g1, g2⟩ := h.setPeer hy (y' := yBeg y) rfl rfl rfl (hk.mono (fun _ _ h => Or.inl h)) hbb (hk.keep (h.prt y hy) (fun e => hne e.symm)) ⟨hk2, k2, k3, k4, k5⟩
  exact ⟨⟨_, rfl⟩, g1, g2⟩
/-- one more, at the end of the row -/
theorem MIn.appL {w w6 z : World} {q N gp c9 : Nat} {s : Sd} {vl vp : Value} {X : Wt} (h : MIn w q s vl vp N) (hS : Kp (fun k => In vl k) w z) (ho : Own z 62 7 (.slice (some ⟨gp, 0, none⟩) (s.Ws.length + 1) c9) (s.Ws.length + 1) (Wl s.Ws ++ Wf X)) (hsn : vl.ownBlock = some gp ∨ w.heap.size ≤ gp)
    (hw : w6 = z.setCell ⟨q, 12, none⟩ (.slice (some ⟨gp, 0, none⟩) (s.Ws.length + 1) c9)) (hn : ∀ x ∈ s.Ws, ¬ (x.id = X.id ∧ x.rc = X.rc)) (hd : X.dom ∈ s.D) (hl : s.Ws.length + 1 ≤ N) :
    MIn w6 q (fL s (.slice (some ⟨gp, 0, none⟩) (s.Ws.length + 1) c9) (s.Ws ++ [X]) s.D) (.slice (some ⟨gp, 0, none⟩) (s.Ws.length + 1) c9) vp N ∧ St w w6 s (fL s (.slice (some ⟨gp, 0, none⟩) (s.Ws.length + 1) c9) (s.Ws ++ [X]) s.D) := by
  subst hw
  have hq := lt_of_block h.head
  have hnq : ¬ In vl q := fun e => by have h1 := h.cols.lst q e; rw [h.cols.head] at h1; exact Nat.ne_of_beq_eq_false rfl (congrArg Prod.fst (Option.some.inj h1))
  have hgq : ¬ gp = q := fun e => by
    rcases hsn with h1 | h1
    · exact hnq (show vl.ownBlock = some q from by rw [← e]; exact h1)
    · omega
  have hgk : ∀ k, (Value.slice (some ⟨gp, 0, none⟩) (s.Ws.length + 1) c9).ownBlock = some k → gp = k := fun k hk => by simpa [Value.ownBlock] using hk
  refine h.setL (Nat.le_refl N) ((hS.mono (fun _ _ h => Or.inr h)).setCell _ _ (Or.inl (Or.inl rfl))) (heap_set (hS.keep h.head hnq) _) ?_ ?_ (fun d hd => hd) (fun x hx => ?_) ?_ (fun k hk => ?_) ?_ ?_ h.ld
  · rw [List.length_append, Wl_app, show Wl [X] = Wf X by simp [Wl]]
    exact Own.keep ho ((Kp.refl (· = q) z).setCell ⟨q, 12, none⟩ _ (Or.inl rfl)) (fun k hk e => hgq ((hgk k hk).trans e))
  · rcases hsn with h1 | h1
    · exact Or.inl (by rw [h1]; rfl)
    · exact Or.inr (fun k hk => by have := hgk k hk; omega)
  · rcases List.mem_append.1 hx with hx | hx
    · exact h.wfs x hx
    · obtain rfl := List.mem_singleton.1 hx; exact hd
  · rw [List.pairwise_append]
    exact ⟨h.keys, List.pairwise_singleton _ _, fun a ha b hb => by
      obtain rfl := List.mem_singleton.1 hb
      intro e
      exact hn a ha ⟨congrArg Prod.fst e, congrArg Prod.snd e⟩⟩
  · obtain ⟨x, hx, e1, e2⟩ := h.gin k hk
    exact ⟨x, List.mem_append_left _ hx, e1, e2⟩
  · refine starts_same rfl (fun k hk => ?_)
    obtain ⟨x, hx, e1, _⟩ := h.gin k hk
    show dmA ((s.Ws ++ [X]).map wx) k = dmA (s.Ws.map wx) k
    rw [List.map_append]
    exact dm_find ⟨wx x, List.mem_map.2 ⟨x, hx, rfl⟩, e1⟩
  · simp; exact hl
/-- what is left, and the one at the end, is what there was, but for the one -/
theorem end_perm {W : List Wt} (h : W.Pairwise (fun a b => (a.id, a.rc) ≠ (b.id, b.rc))) {j : Nat} {x : Wt} (hx : W[j]? = some x) (g : Bool) (n : Int) :
    ((Cutx j W).map wx ++ [wx (Go1 x g n)]).Perm ((W.map wx).map fun z => if (z.id, z.rc) = (x.id, x.rc) then { z with go := g, nx := n } else z) := by
  induction W generalizing j with
  | nil => simp at hx
  | cons a r ih =>
    obtain ⟨h1, h2⟩ := List.pairwise_cons.1 h
    cases j with
    | zero =>
      simp at hx; subst hx
      have e : (r.map wx).map (fun z => if (z.id, z.rc) = (a.id, a.rc) then { z with go := g, nx := n } else z) = r.map wx := by
        rw [List.map_map]
        refine List.map_congr_left fun z hz => ?_
        simp only [Function.comp]
        rw [if_neg (fun e => h1 z hz (show (a.id, a.rc) = (z.id, z.rc) from e.symm))]
      rw [List.map_cons, List.map_cons, e, if_pos (show ((wx a).id, (wx a).rc) = (a.id, a.rc) from rfl)]
      show (List.map wx ([] ++ r) ++ [_]).Perm _
      rw [List.nil_append]
      exact List.perm_append_singleton _ _
    | succ j =>
      have hx' : r[j]? = some x := by simpa using hx
      rw [List.map_cons, List.map_cons, if_neg (show ¬ ((wx a).id, (wx a).rc) = (x.id, x.rc) from fun e => h1 x (List.mem_of_getElem? hx') e)]
      exact List.Perm.cons _ (ih h2 hx')
theorem del_go (A : Ab) (k : Int × Int) (g : Bool) (n : Int → Int) : aDel (aGo A k g n) k = aDel A k := by
  unfold aDel aGo
  simp only [Ab.mk.injEq, true_and, and_true]
  induction A.W with
  | nil => rfl
  | cons a r ih =>
    rw [List.map_cons]
    by_cases e : (a.id, a.rc) = k
    · rw [if_pos e, List.filter_cons_of_neg (by simp; exact e), List.filter_cons_of_neg (by simp; exact e), ih]
    · rw [if_neg e, List.filter_cons_of_pos (by simp; exact e), List.filter_cons_of_pos (by simp; exact e), ih]
end Go.Proofs.Ytbiahndpfbmoeaa

/- The end of the reference's Pick: the parts that are written, ahead of the walk. No program in sight but for memory. -/
namespace Go.Proofs.Ytbiahndpfbmoeaa
open Go.RowKit SatAid

/-- the one that begins is marked -/
def Gox (x : Wt) : Wt := { x with go := true }
theorem Wl_cons (a : Wt) (r : List Wt) : Wl (a :: r) = Wf a ++ Wl r := rfl
theorem Wl_set {W : List Wt} {j : Nat} {x : Wt} (hx : W[j]? = some x) : Wl (W.set j (Gox x)) = (Wl W).set (j * 7 + 6) (.bool true) := by
  induction W generalizing j with
  | nil => simp at hx
  | cons a r ih =>
    cases j with
    | zero =>
      simp at hx; subst hx
      rw [List.set_cons_zero, Wl_cons, Wl_cons]
      rfl
    | succ j =>
      have hx' : r[j]? = some x := by simpa using hx
      rw [List.set_cons_succ, Wl_cons, Wl_cons, ih hx', List.set_append_right _ _ (by show 7 ≤ _; omega)]
      congr 2
      show j * 7 + 6 = (j + 1) * 7 + 6 - 7
      omega
theorem set_map {W : List Wt} (h : W.Pairwise (fun a b => (a.id, a.rc) ≠ (b.id, b.rc))) {j : Nat} {x : Wt} (hx : W[j]? = some x) : W.set j (Gox x) = W.map fun z => if (z.id, z.rc) = (x.id, x.rc) then Gox z else z := by
  induction W generalizing j with
  | nil => simp at hx
  | cons a r ih =>
    obtain ⟨h1, h2⟩ := List.pairwise_cons.1 h
    cases j with
    | zero =>
      simp at hx; subst hx
      rw [List.set_cons_zero, List.map_cons, if_pos rfl]
      congr 1
      have e : r.map (fun z => if (z.id, z.rc) = (a.id, a.rc) then Gox z else z) = r.map id := List.map_congr_left fun z hz => by rw [if_neg (fun e => h1 z hz e.symm)]; rfl
      rw [e, List.map_id]
    | succ j =>
      have hx' : r[j]? = some x := by simpa using hx
      rw [List.set_cons_succ, List.map_cons, if_neg (fun e => h1 x (List.mem_of_getElem? hx') e), ih h2 hx']
theorem gox_wx {W : List Wt} (k : Int × Int) : (W.map fun z => if (z.id, z.rc) = k then Gox z else z).map wx = (W.map wx).map fun z => if (z.id, z.rc) = k then { z with go := true, nx := z.nx } else z := by
  rw [List.map_map, List.map_map]
  refine List.map_congr_left fun z _ => ?_
  simp only [Function.comp]
  by_cases e : (z.id, z.rc) = k
  · rw [if_pos e, if_pos (show ((wx z).id, (wx z).rc) = k from e)]; rfl
  · rw [if_neg e, if_neg (show ¬ ((wx z).id, (wx z).rc) = k from e)]
section
variable {w w6 z : World} {q N : Nat} {s : Sd} {vl vp v : Value}
theorem MIn.freshL (h : MIn w q s vl vp N) (hk : Kp (fun _ => False) w z) (ho : Own z 62 7 v s.Ws.length (Wl s.Ws)) (hn : ∀ k, v.ownBlock = some k → w.heap.size ≤ k) (hw : w6 = z.setCell ⟨q, 12, none⟩ v) :
    MIn w6 q (fL s v s.Ws s.D) v vp N ∧ St w w6 s (fL s v s.Ws s.D) := by
  subst hw
  have hq := lt_of_block h.head
  exact h.setL (Nat.le_refl N) ((hk.mono (fun _ _ h => h.elim)).setCell ⟨q, 12, none⟩ v (Or.inl (Or.inl rfl))) (heap_set (hk.keep h.head (fun h => h)) _) (Own.keep ho ((Kp.refl (· = q) z).setCell ⟨q, 12, none⟩ _ (Or.inl rfl)) (fun k hk e => by have := hn k hk; have e2 : k = q := e; omega)) (Or.inr hn) (fun _ h => h) h.wfs h.keys h.gin rfl h.lw h.ld
theorem MIn.goL {g cap j : Nat} {x : Wt} (h : MIn w q s (.slice (some ⟨g, 0, none⟩) s.Ws.length cap) vp N) (hx : s.Ws[j]? = some x) (hw : w6 = w.setCell ⟨g, j * 7 + 6, none⟩ (.bool true)) :
    MIn w6 q (fL s (.slice (some ⟨g, 0, none⟩) s.Ws.length cap) (s.Ws.set j (Gox x)) s.D) (.slice (some ⟨g, 0, none⟩) s.Ws.length cap) vp N ∧ St w w6 s (fL s (.slice (some ⟨g, 0, none⟩) s.Ws.length cap) (s.Ws.set j (Gox x)) s.D) := by
  subst hw
  have hgq : ¬ q = g := fun e => by
    have h1 := h.cols.lst g rfl
    rw [← e, h.cols.head] at h1
    exact Nat.ne_of_beq_eq_false rfl (congrArg Prod.fst (Option.some.inj h1))
  have hK : Kp (fun k => k = g) w (w.setCell ⟨g, j * 7 + 6, none⟩ (.bool true)) := (Kp.refl (· = g) w).setCell ⟨g, j * 7 + 6, none⟩ _ (Or.inl rfl)
  have hm := set_map h.keys hx
  have hf : ∀ y : Wt, ((if (y.id, y.rc) = (x.id, x.rc) then Gox y else y).id, (if (y.id, y.rc) = (x.id, x.rc) then Gox y else y).rc) = (y.id, y.rc) := fun y => by split <;> rfl
  have hd : ∀ y : Wt, (if (y.id, y.rc) = (x.id, x.rc) then Gox y else y).dom = y.dom := fun y => by split <;> rfl
  have hkeys : (s.Ws.set j (Gox x)).Pairwise (fun a b => (a.id, a.rc) ≠ (b.id, b.rc)) := by
    rw [hm, List.pairwise_map]
    exact h.keys.imp (fun hab e => hab (by rw [hf, hf] at e; exact e))
  have hin : ∀ k ∈ s.G, ∃ y ∈ s.Ws, (y.id, y.rc) = k ∧ y.go = true := h.gin
  refine h.setL (Nat.le_refl N) (hK.mono (fun k _ e => Or.inr (by have e2 : k = g := e; rw [e2]; rfl))) (hK.keep h.head hgq) ?_ (Or.inl rfl) (fun _ h => h) (fun y hy => ?_) hkeys (fun k hk => ?_) (starts_same rfl (fun k hk => ?_)) (by rw [List.length_set]; exact h.lw) h.ld
  · rw [List.length_set, Wl_set hx]
    exact (World.ownsRow.stored h.lst _ _).1
  · rw [hm] at hy
    obtain ⟨z, hz, rfl⟩ := List.mem_map.1 hy
    rw [hd]; exact h.wfs z hz
  · obtain ⟨y, hy, e1, e2⟩ := hin k hk
    refine ⟨_, (by rw [hm]; exact List.mem_map.2 ⟨y, hy, rfl⟩), by rw [hf]; exact e1, ?_⟩
    split
    · rfl
    · exact e2
  · obtain ⟨y, hy, e1, _⟩ := hin k hk
    have hd1 := dm_at (W := (s.Ws.set j (Gox x)).map wx) (x := wx (if (y.id, y.rc) = (x.id, x.rc) then Gox y else y)) (by rw [List.nodup_iff_pairwise_ne, List.pairwise_map, List.pairwise_map]; exact hkeys) (List.mem_map.2 ⟨_, by rw [hm]; exact List.mem_map.2 ⟨y, hy, rfl⟩, rfl⟩)
    have hd2 := dm_at (W := s.Ws.map wx) (x := wx y) (by rw [List.nodup_iff_pairwise_ne, List.pairwise_map, List.pairwise_map]; exact h.keys) (List.mem_map.2 ⟨y, hy, rfl⟩)
    subst e1
    have e3 : ((wx (if (y.id, y.rc) = (x.id, x.rc) then Gox y else y)).id, (wx (if (y.id, y.rc) = (x.id, x.rc) then Gox y else y)).rc) = (y.id, y.rc) := hf y
    rw [e3] at hd1
    exact hd1.trans ((hd y).trans hd2.symm)
theorem MIn.goL' {g cap j : Nat} {x : Wt} {W : List Wt} (h : MIn w q s (.slice (some ⟨g, 0, none⟩) W.length cap) vp N) (hW : s.Ws = W) (hx : W[j]? = some x) :
    MIn (w.setCell ⟨g, j * 7 + 6, none⟩ (.bool true)) q (fL s (.slice (some ⟨g, 0, none⟩) W.length cap) (s.Ws.set j (Gox x)) s.D) (.slice (some ⟨g, 0, none⟩) W.length cap) vp N ∧ St w (w.setCell ⟨g, j * 7 + 6, none⟩ (.bool true)) s (fL s (.slice (some ⟨g, 0, none⟩) W.length cap) (s.Ws.set j (Gox x)) s.D) := by
  subst hW
  exact h.goL hx rfl
/-- one more key, at the end of the row of those on their way -/
theorem MIn.addG {v9 : Value} {x : Wt} (h : MIn w q s vl vp N) (hS : Kp (fun _ => False) w z) (hx : x ∈ s.Ws) (hgo : x.go = true) (hnew : (x.id, x.rc) ∉ s.G)
    (ho : z.ownsRow w.heap.size 66 3 v9 (s.G.length + 1) (Stc (aStarts (ab s)) ++ [.int .i64 x.id, .int .i64 x.rc, .string x.dom])) (hw : w6 = z.setCell ⟨q, 13, none⟩ v9) :
    MIn w6 q (fG s v9 (s.G ++ [(x.id, x.rc)])) vl vp N ∧ St w w6 s (fG s v9 (s.G ++ [(x.id, x.rc)])) := by
  subst hw
  have hn : ∀ k, v9.ownBlock = some k → w.heap.size ≤ k := fun k e => (World.ownsRow.lt ho k e).1
  have hq := lt_of_block h.head
  refine h.setG ((hS.mono (fun _ _ h => h.elim)).setCell _ _ (Or.inl (Or.inl rfl))) (heap_set (hS.keep h.head (fun h => h)) _) ?_ (Or.inr hn) (fun k hk => ?_) ?_
  · have e : aStarts (ab (fG s v9 (s.G ++ [(x.id, x.rc)]))) = aStarts (ab s) ++ [(x.id, x.rc, x.dom)] := by
      unfold aStarts
      show (s.G ++ [(x.id, x.rc)]).map _ = s.G.map _ ++ _
      rw [List.map_append]
      congr 1
      have hd := dm_at (W := s.Ws.map wx) (x := wx x) (by rw [List.nodup_iff_pairwise_ne, List.pairwise_map, List.pairwise_map]; exact h.keys) (List.mem_map.2 ⟨x, hx, rfl⟩)
      simp only [List.map_cons, List.map_nil]
      rw [show dmA (ab (fG s v9 (s.G ++ [(x.id, x.rc)]))).W (x.id, x.rc) = x.dom from hd]
    rw [e, Stc_app, List.length_append]
    exact Own.keep (own_weaken ho) ((Kp.refl (· = q) z).setCell ⟨q, 13, none⟩ _ (Or.inl rfl)) (fun k hk e => by have := hn k hk; have e2 : k = q := e; omega)
  · rcases List.mem_append.1 hk with hk | hk
    · exact h.gin k hk
    · obtain rfl := List.mem_singleton.1 hk; exact ⟨x, hx, rfl, hgo⟩
  · rw [List.nodup_append]
    refine ⟨h.gnd, by simp, fun a ha b hb e => ?_⟩
    obtain rfl := List.mem_singleton.1 hb
    exact hnew (e ▸ ha)
end
/-- the tokens of a bucket, one less -/
def yTok (y : Pe) : Pe := { y with l := y.l - 1 }
theorem MIn.tok {w : World} {q N : Nat} {s : Sd} {vl vp : Value} {y : Pe} (h : MIn w q s vl vp N) (hy : y ∈ s.Ps) (hl : 0 < y.l) {w6 : World} (hw : w6 = w.setCell ⟨y.tb, 2, none⟩ (.int .i64 (y.l - 1))) :
    MIn w6 q (fQ s (yTok y)) vl vp N ∧ St w w6 s (fQ s (yTok y)) := by
  subst hw
  obtain ⟨k1, k2, k3, k4, k5, _⟩ := h.pok y hy
  have hne := h.wt_ne hy
  have hK : Kp (fun k => k = y.tb) w (w.setCell ⟨y.tb, 2, none⟩ (.int .i64 (y.l - 1))) := (Kp.refl (· = y.tb) w).setCell _ _ (Or.inl rfl)
  exact h.setPeer hy (y' := yTok y) rfl rfl rfl (hK.mono (fun _ _ h => Or.inr h)) (hK.keep (h.prw y hy) hne) (heap_set (h.prt y hy) _) ⟨k1, by show 0 ≤ y.l - 1; omega, by show y.l - 1 ≤ _; omega, k4, k5⟩
theorem psub_twice {P : List Pe} {y z : Pe} (h : z.dom = y.dom) : Psub (Psub P y) z = Psub P z := by
  unfold Psub
  rw [List.map_map]
  refine List.map_congr_left fun u _ => ?_
  simp only [Function.comp]
  by_cases e : u.dom = y.dom
  · rw [if_pos e, if_pos h.symm, if_pos (e.trans h.symm)]
  · rw [if_neg e, h]
theorem src_cells3 {w w' : World} {v : Value} {ao : Option Addr} {c n : Nat} {T : List (Int × Int × ByteArray)} (h : Own w 66 3 v n (Stc T)) (hv : v = .slice ao n c) (hk : Kp (fun _ => False) w w') :
    ∀ ad, ao = some ad → ∀ j u, (Stc T)[j]? = some u → w'.cell? (ad.add j) = some u := by
  intro ad e j u hu
  subst hv
  rcases h.shape with ⟨h1, _, _⟩ | ⟨g, cap, h1, _⟩
  · simp only [Value.slice.injEq] at h1; rw [h1.1] at e; cases e
  · simp only [Value.slice.injEq] at h1
    obtain ⟨rfl, _, rfl⟩ := h1
    cases e
    rw [Addr.add_lit, Nat.zero_add]
    exact (hk.cell _ (h.lt rfl) (fun h => h)).trans (h.cell hu)
theorem not_going {G : List (Int × Int)} {W : List Wt} (hg : ∀ k ∈ G, ∃ x ∈ W, (x.id, x.rc) = k ∧ x.go = true) (h : W.Pairwise (fun a b => (a.id, a.rc) ≠ (b.id, b.rc))) {x : Wt} (hx : x ∈ W) (hgo : x.go = false) : (x.id, x.rc) ∉ G := fun hk => by
  obtain ⟨z, hz, e, g⟩ := hg _ hk
  have e2 := pw_eq (f := fun z : Wt => (z.id, z.rc)) h hz hx e
  subst e2
  rw [hgo] at g; cases g
/-- what Pick leaves: said by the states alone -/
theorem begin_ab {s3 : Sd} {A : Ab} {lc : Bool} {i : Nat} {x : Wt} (h3 : ab s3 = aTurn A lc i) (hA : A.G = s3.G) {sz : Sd} {bn : Nat} (hk : s3.Ws.Pairwise (fun a b => (a.id, a.rc) ≠ (b.id, b.rc))) (hx : s3.Ws[bn]? = some x)
    (hz : ab sz = { ab s3 with W := (s3.Ws.set bn (Gox x)).map wx, G := s3.G ++ [(x.id, x.rc)], last := lc }) : ab sz = aBegin A lc i (x.id, x.rc) := by
  rw [hz, set_map hk hx, gox_wx]
  unfold aBegin aGo
  rw [← h3, hA]
  rfl
def FPick (q N : Nat) (s : Sd) (now : Int) (w : World) (e : Ending) (w' : World) : Prop :=
  ((¬ pk s now (!s.last) ∧ ¬ pk s now s.last) → e = .returned (.tuple #[z3, .bool false]) ∧ ∃ s' vl' vp', MIn w' q s' vl' vp' N ∧ St w w' s s' ∧ ab s' = ab s ∧ Vq now s s' ∧ s'.D = s.D) ∧
  ((pk s now (!s.last) ∨ pk s now s.last) → ∃ m s' vl' vp', Best s (pkl s now) now ((rgA s (pkl s now)).getD (Fx (rsn s (pkl s now) now) (rgA s (pkl s now))) ByteArray.empty) m ∧ e = .returned (.tuple #[.agg #[.int .i64 m.id, .int .i64 m.rc, .string m.dom], .bool true]) ∧ MIn w' q s' vl' vp' N ∧ St w w' s s' ∧
    ab s' = aBegin (ab s) (pkl s now) (Fx (rsn s (pkl s now) now) (rgA s (pkl s now))) (m.id, m.rc) ∧ Vb now m.dom s s' ∧ s'.D = s.D)
end Go.Proofs.Ytbiahndpfbmoeaa
