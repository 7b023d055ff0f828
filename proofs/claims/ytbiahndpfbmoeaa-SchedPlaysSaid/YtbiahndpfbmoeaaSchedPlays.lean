/- SchedPlays: the law returns true for every input. No condition. -/
import Derived.Test.YtbiahndpfbmoeaaSfQ
import Derived.Test.YtbiahndpfbmoeaaSfR
import Derived.Test.YtbiahndpfbmoeaaSfP
import Derived.ProofKit
import Derived.Deep.CutBlock
namespace Go.Proofs.Ytbiahndpfbmoeaa
open Go.RowKit Go.ChangeShapes Go.WideShapes SatAid Go.Deep

set_option maxRecDepth 100000 in
set_option maxHeartbeats 12800000 in
theorem schedPlays_law {H : Type} {enc : TypeId × Value → H} (W : World) {base : Nat} (v0 v1 : Value) (d0 d1 : DataW H) (p0 p1 : List MemPlace)
    (k0 : Value.okWide Try.prog W .any base 45 v0) (k1 : Value.okWide Try.prog W .any base 46 v1)
    (h0 : DataW.Trod enc Try.prog W 0 (fun _ => true) true 45 v0 d0 p0) (h1 : DataW.Trod enc Try.prog W 0 (fun _ => true) true 46 v1 d1 p1) :
    Calls Try.prog 8 #[v0, v1] W fun e W' => e = .returned (.bool true) ∧ Below W.heap.size W W' := by
  obtain ⟨⟨host, lv, L, i1, i2, i3, i4, i5, i6, i7, i8, i9, i10⟩, rfl, ar, cc, hlv, hhs⟩ := open_cfg k0 h0
  simp only at hlv hhs
  subst hlv
  obtain ⟨ao, len, cap, f, rfl, hnc, hcap, hrow, hok⟩ := open_sops k1 h1
  have HROW := Lib.hid hrow; have HOK := Lib.hid hok; have HHS := Lib.hid hhs
  clear h0 k0 h1 k1 hrow hok hhs
  have HK0 := Lib.hid (show Kp (fun _ => False) W (W.alloc (.cells (Cc ⟨host, .slice ar L.length cc, L, i1, i2, i3, i4, i5, i6, i7, i8, i9, i10⟩).toArray 45)) from (by repeat (first | exact Kp.refl _ _ | apply Kp.drew | apply Kp.drewN | refine Kp.setCell ?_ _ _ (Or.inl rfl) | apply Kp.alloc)))
  by_cases hlight : (decide (L.length ≤ 20) && decide (len ≤ 150)) = true
  · have hl20 : L.length ≤ 20 := by simp at hlight; exact hlight.1
    have hl150 : len ≤ 150 := by simp at hlight; exact hlight.2
    go_enter Try.func8, Try.ntmps8
    unfold Cc
    go_wp2_with fail
    refine (light_any ⟨host, .slice ar L.length cc, L, i1, i2, i3, i4, i5, i6, i7, i8, i9, i10⟩ ar ao len cap cc _ rfl).mono ?_; rintro e w1 ⟨rfl, hk1⟩
    have hk1' := HK0.out.trans hk1
    have HK1d := Lib.hid (hk1'.trans (Kp.refl (fun _ => False) w1).drew)
    have hb1 := hk1.keep (heap_new (w := W) (.cells (Cc ⟨host, .slice ar L.length cc, L, i1, i2, i3, i4, i5, i6, i7, i8, i9, i10⟩).toArray 45)) (fun h => h)
    have HB1 := Lib.hid hb1
    have HSR := Lib.hid (show SRd W ar L from HHS.out.rd)
    have HCF := Lib.hid (show ∀ w', Kp (fun _ => False) w1 w' → w'.cell? ⟨W.heap.size, 0, none⟩ = some (.string host) ∧ w'.cell? ⟨W.heap.size, 1, none⟩ = some (.slice ar L.length cc) ∧ w'.cell? ⟨W.heap.size, 2, none⟩ = some (.int .i64 i1) ∧ w'.cell? ⟨W.heap.size, 3, none⟩ = some (.int .i64 i2) ∧ w'.cell? ⟨W.heap.size, 4, none⟩ = some (.int .i64 i3) ∧ w'.cell? ⟨W.heap.size, 5, none⟩ = some (.int .i64 i4) ∧ w'.cell? ⟨W.heap.size, 6, none⟩ = some (.int .i64 i5) ∧ w'.cell? ⟨W.heap.size, 7, none⟩ = some (.int .i64 i6) ∧ w'.cell? ⟨W.heap.size, 8, none⟩ = some (.int .i64 i7) ∧ w'.cell? ⟨W.heap.size, 9, none⟩ = some (.int .i64 i8) ∧ w'.cell? ⟨W.heap.size, 10, none⟩ = some (.int .i64 i9) ∧ w'.cell? ⟨W.heap.size, 11, none⟩ = some (.int .i64 i10) from fun w' hk => by
      have hb := hk.keep HB1.out (fun h => h)
      exact ⟨(cell_of hb 0).trans rfl, (cell_of hb 1).trans rfl, (cell_of hb 2).trans rfl, (cell_of hb 3).trans rfl, (cell_of hb 4).trans rfl, (cell_of hb 5).trans rfl, (cell_of hb 6).trans rfl, (cell_of hb 7).trans rfl, (cell_of hb 8).trans rfl, (cell_of hb 9).trans rfl, (cell_of hb 10).trans rfl, (cell_of hb 11).trans rfl⟩)
    have HNEW := Lib.hid (show ∀ w', Kp (fun _ => False) w1 w' → Calls Try.prog 24 #[.agg #[.string host, .slice ar L.length cc, .int .i64 i1, .int .i64 i2, .int .i64 i3, .int .i64 i4, .int .i64 i5, .int .i64 i6, .int .i64 i7, .int .i64 i8, .int .i64 i9, .int .i64 i10]] w' fun e w2 => ∃ p s0, e = .returned (.pointer (some ⟨p, 0, none⟩)) ∧ SI w' w2 p s0 20 ∧ ab s0 = ⟨{ (⟨host, .slice ar L.length cc, L, i1, i2, i3, i4, i5, i6, i7, i8, i9, i10⟩ : Cf) with lv := s0.c.lv }, [], [], [], [], false⟩ ∧ s0.Ps = [] from fun w' hk => by
      refine (newA ⟨host, .slice ar L.length cc, L, i1, i2, i3, i4, i5, i6, i7, i8, i9, i10⟩ ar cc w' w' (Kp.refl _ _) rfl (HHS.out.rd.keep (hk1'.trans hk) (fun _ _ _ _ h => h)) (show L.length ≤ 1000000 by omega) (fun e => (HHS.out.emp e).2)).mono ?_
      rintro e w2 ⟨p, s0, rfl, hsi, hA, hP⟩
      exact ⟨p, s0, rfl, hsi.more hl20, hA, hP⟩)
    rw [hlight]
    clear hk1 hk1' hb1
    go_upto_region 3 with fail
    go_cut [5, 6] from 23 (fun v5 v6 wx => ∃ (p q : Nat) (s0 r0 : Sd), v5 = .pointer (some ⟨p, 0, none⟩) ∧ v6 = .pointer (some ⟨q, 0, none⟩) ∧ SJ W wx p s0 q r0 20 ∧ Alk 0 s0 r0)
    case first => as_aux_lemma =>
      refine region_E 999 (fun w' => Kp (fun _ => False) w1 w') (by kernel_rfl) (Kp.refl _ _).drew (fun hS => ?_)
      refine takeE (i := 0) (v := ?_) rfl (by kernel_rfl) (by kernel_rfl) (by kernel_rfl) (by kernel_rfl) (fun _ _ _ h => h) hS (Or.inl ⟨by rfl, ?_⟩) ?_
      rotate_left
      · intro w hSw; obtain ⟨c0, c1, c2, c3, c4, c5, c6, c7, c8, c9, c10, c11⟩ := HCF.out w hSw; go_simp <;> with_reducible rfl
      try simp only [Act.put, List.setIfInBounds_toArray, List.set_cons_zero, List.set_cons_succ]
      refine takeE (i := 2) (v := ?_) rfl (by kernel_rfl) (by kernel_rfl) (by kernel_rfl) (by kernel_rfl) (fun _ _ _ h => h) hS (Or.inl ⟨by rfl, ?_⟩) ?_
      rotate_left
      · intro w hSw; obtain ⟨c0, c1, c2, c3, c4, c5, c6, c7, c8, c9, c10, c11⟩ := HCF.out w hSw; go_simp <;> with_reducible rfl
      try simp only [Act.put, List.setIfInBounds_toArray, List.set_cons_zero, List.set_cons_succ]
      refine takeE (i := 3) (v := .agg #[.string host, .slice ar L.length cc, .int .i64 i1, .int .i64 i2, .int .i64 i3, .int .i64 i4, .int .i64 i5, .int .i64 i6, .int .i64 i7, .int .i64 i8, .int .i64 i9, .int .i64 i10, .slice none 0 0, .slice none 0 0, .slice none 0 0, .slice none 0 0, .slice none 0 0, .int .i64 0, .int .i64 0]) rfl (by kernel_rfl) (by kernel_rfl) (by kernel_rfl) (by kernel_rfl) (fun _ _ _ h => h) hS (Or.inl ⟨by rfl, fun w _ => ?_⟩) ?_
      · exact exec_build 56 #[(0, .tmp 25)] [(0, .agg #[.string host, .slice ar L.length cc, .int .i64 i1, .int .i64 i2, .int .i64 i3, .int .i64 i4, .int .i64 i5, .int .i64 i6, .int .i64 i7, .int .i64 i8, .int .i64 i9, .int .i64 i10])] rfl (by kernel_rfl) (built_sched host (.slice ar L.length cc) i1 i2 i3 i4 i5 i6 i7 i8 i9 i10)
      try simp only [Act.put, List.setIfInBounds_toArray, List.set_cons_zero, List.set_cons_succ]
      refine readyE (rs := [1, 4]) (by kernel_rfl) (by simp) ?_
      refine consE (o := _) rfl (fun K hK => ?_) (consE (o := _) rfl (fun K hK => ?_) nilE)
      ·
        -- 1 call
        go_simp
        refine (HNEW.out _ hS).mono ?_
        rintro e z1 ⟨p, s0, rfl, hsi0, hA0, hP0⟩
        refine keepE hK (hS.trans hsi0.kp) (fun hS => ?_)
        clear hK K
        try simp only [Act.put, List.setIfInBounds_toArray, List.set_cons_zero, List.set_cons_succ]
        refine takeE (i := 5) (v := ?_) rfl (by kernel_rfl) (by kernel_rfl) (by kernel_rfl) (by kernel_rfl) (fun _ _ _ h => h) hS (Or.inl ⟨by rfl, ?_⟩) ?_
        rotate_left
        · intro w hSw; obtain ⟨c0, c1, c2, c3, c4, c5, c6, c7, c8, c9, c10, c11⟩ := HCF.out w hSw; go_simp <;> with_reducible rfl
        try simp only [Act.put, List.setIfInBounds_toArray, List.set_cons_zero, List.set_cons_succ]
        refine readyE (rs := [4]) (by kernel_rfl) (by simp) ?_
        refine consE (o := _) rfl (fun K hK => ?_) nilE
        -- 4 box
        go_simp
        refine allocE hK (hS.alloc _) (fun z2 hz2 hS => ?_)
        have HZ := Lib.hid hz2
        clear hz2
        clear hK K
        try simp only [Act.put, List.setIfInBounds_toArray, List.set_cons_zero, List.set_cons_succ]
        refine takeE (i := 6) (v := ?_) rfl (by kernel_rfl) (by kernel_rfl) (by kernel_rfl) (by kernel_rfl) (fun _ _ _ h => h) hS (Or.inl ⟨by rfl, ?_⟩) ?_
        rotate_left
        · intro w hSw; obtain ⟨c0, c1, c2, c3, c4, c5, c6, c7, c8, c9, c10, c11⟩ := HCF.out w hSw; go_simp <;> with_reducible rfl
        try simp only [Act.put, List.setIfInBounds_toArray, List.set_cons_zero, List.set_cons_succ]
        refine doneE (by kernel_rfl) ?_ _
        go_wp2_with fail
        go_meet
        exact ⟨p, _, s0, _, rfl, rfl, (by first | exact SJ.startA (w := w1.drew) (c := ⟨host, .slice ar L.length cc, L, i1, i2, i3, i4, i5, i6, i7, i8, i9, i10⟩) HK1d.out hsi0 HZ.out rfl HSR.out hl20 | exact SJ.startB (w := w1.drew) (c := ⟨host, .slice ar L.length cc, L, i1, i2, i3, i4, i5, i6, i7, i8, i9, i10⟩) HK1d.out HZ.out hsi0 rfl HSR.out hl20), Alk.start (c := ⟨host, .slice ar L.length cc, L, i1, i2, i3, i4, i5, i6, i7, i8, i9, i10⟩) hA0 hP0⟩
      ·
        -- 4 box
        go_simp
        refine allocE hK (hS.alloc _) (fun z1 hz1 hS => ?_)
        have HZ := Lib.hid hz1
        clear hz1
        clear hK K
        try simp only [Act.put, List.setIfInBounds_toArray, List.set_cons_zero, List.set_cons_succ]
        refine readyE (rs := [1]) (by kernel_rfl) (by simp) ?_
        refine consE (o := _) rfl (fun K hK => ?_) nilE
        -- 1 call
        go_simp
        refine (HNEW.out _ hS).mono ?_
        rintro e z2 ⟨p, s0, rfl, hsi0, hA0, hP0⟩
        refine keepE hK (hS.trans hsi0.kp) (fun hS => ?_)
        clear hK K
        try simp only [Act.put, List.setIfInBounds_toArray, List.set_cons_zero, List.set_cons_succ]
        refine takeE (i := 5) (v := ?_) rfl (by kernel_rfl) (by kernel_rfl) (by kernel_rfl) (by kernel_rfl) (fun _ _ _ h => h) hS (Or.inl ⟨by rfl, ?_⟩) ?_
        rotate_left
        · intro w hSw; obtain ⟨c0, c1, c2, c3, c4, c5, c6, c7, c8, c9, c10, c11⟩ := HCF.out w hSw; go_simp <;> with_reducible rfl
        try simp only [Act.put, List.setIfInBounds_toArray, List.set_cons_zero, List.set_cons_succ]
        refine takeE (i := 6) (v := ?_) rfl (by kernel_rfl) (by kernel_rfl) (by kernel_rfl) (by kernel_rfl) (fun _ _ _ h => h) hS (Or.inl ⟨by rfl, ?_⟩) ?_
        rotate_left
        · intro w hSw; obtain ⟨c0, c1, c2, c3, c4, c5, c6, c7, c8, c9, c10, c11⟩ := HCF.out w hSw; go_simp <;> with_reducible rfl
        try simp only [Act.put, List.setIfInBounds_toArray, List.set_cons_zero, List.set_cons_succ]
        refine doneE (by kernel_rfl) ?_ _
        go_wp2_with fail
        go_meet
        exact ⟨p, _, s0, _, rfl, rfl, (by first | exact SJ.startA (w := w1.drew) (c := ⟨host, .slice ar L.length cc, L, i1, i2, i3, i4, i5, i6, i7, i8, i9, i10⟩) HK1d.out hsi0 HZ.out rfl HSR.out hl20 | exact SJ.startB (w := w1.drew) (c := ⟨host, .slice ar L.length cc, L, i1, i2, i3, i4, i5, i6, i7, i8, i9, i10⟩) HK1d.out HZ.out hsi0 rfl HSR.out hl20), Alk.start (c := ⟨host, .slice ar L.length cc, L, i1, i2, i3, i4, i5, i6, i7, i8, i9, i10⟩) hA0 hP0⟩
    case rest =>
      obtain ⟨p, q, s0, r0, rfl, rfl, hJ0, hA0⟩ := hcut
      have HJ0 := Lib.hid hJ0; have HA0 := Lib.hid hA0
      clear hJ0 hA0 HNEW HCF HSR HB1 HK1d
      go_wp2_with fail
      go_loopg [7, 8] len (fun k nw i wr => ∃ (j N : Nat) (now : Int) (s r : Sd), k = len - j ∧ j ≤ len ∧ i = .int .i64 j ∧ nw = .int .i64 now ∧ 0 ≤ now ∧ now ≤ 1099511627776 ∧ N ≤ 20 + 2 * j ∧ SJ W wr p s q r N ∧ Alk now s r)
      case atStart => exact ⟨0, 20, 0, s0, r0, rfl, by omega, rfl, rfl, Int.le_refl _, by omega, by omega, HJ0.out, HA0.out⟩
      case round =>
        obtain ⟨j, N, now, s, r, hk, hj, rfl, rfl, hn, hn2, hN, hJ, hA⟩ := hrel
        have HKk := Lib.hid hk; have HJ := Lib.hid hJ; have HA := Lib.hid hA
        clear hk hJ hA HJ0 HA0
        by_cases hlt : (j : Int) < (len : Int)
        · obtain ⟨b, off, rfl, hb, hc⟩ := HROW.out.get (i := j) (by omega)
          obtain ⟨⟨ok, oid, orc, onx, osn, odm, og, ost⟩, hr⟩ : ∃ r, r = f j := ⟨_, rfl⟩
          have HO := Lib.hid (show SOk ⟨ok, oid, orc, onx, osn, odm, og, ost⟩ from by rw [hr]; exact HOK.out j (by omega))
          have hcj := fun z v (e : (So (f j))[z]? = some v) => (HJ.out.si.kp.cell _ hb (fun h => h)).trans (hc j (by omega) z v e)
          rw [← hr] at hcj
          have g0 := hcj 0 _ rfl
          rw [Nat.add_zero] at g0
          have g1 := hcj 1 _ rfl
          have g2 := hcj 2 _ rfl
          have g3 := hcj 3 _ rfl
          have g4 := hcj 4 _ rfl
          have g5 := hcj 5 _ rfl
          have g6 := hcj 6 _ rfl
          have g7 := hcj 7 _ rfl
          simp only at g1 g2 g3 g4 g5 g6 g7
          clear hc hcj hr
          have q1 : (0 : Int) ≤ (j : Int) := by omega
          replace g0 : wr.cell? ⟨b, off + j * 8, none⟩ = some (.int .i64 ok) := g0
          have hkw : Kp (fun _ => False) wr (wr.alloc (.cells #[.int .i64 ok, .int .i64 oid, .int .i64 orc, .int .i64 onx, .string osn, .string odm, .bool og, .bool ost] 58)) := (by repeat (first | exact Kp.refl _ _ | apply Kp.drew | apply Kp.drewN | refine Kp.setCell ?_ _ _ (Or.inl rfl) | apply Kp.alloc))
          have hob := heap_new (w := wr) (.cells #[.int .i64 ok, .int .i64 oid, .int .i64 orc, .int .i64 onx, .string osn, .string odm, .bool og, .bool ost] 58)
          have HJw := Lib.hid (HJ.out.calm hkw)
          have HKBw := Lib.hid (HJ.out.newb (Nat.le_refl _) hob)
          have hbo1 := HJ.out.si.kp.size
          clear hkw hob
          go_upto_block 2 with fail
          obtain ⟨wo, hwo⟩ : ∃ wo, wo = wr.alloc (.cells #[.int .i64 ok, .int .i64 oid, .int .i64 orc, .int .i64 onx, .string osn, .string odm, .bool og, .bool ost] 58) := ⟨_, rfl⟩
          obtain ⟨bo, hbo⟩ : ∃ bo, bo = wr.heap.size := ⟨_, rfl⟩
          rw [← hwo] at HJw HKBw ⊢
          rw [← hbo] at HKBw hbo1 ⊢
          have o0 : wo.cell? ⟨bo, 0, none⟩ = some (.int .i64 ok) := (cell_of HKBw.out.at_ 0).trans rfl
          have o1 : wo.cell? ⟨bo, 1, none⟩ = some (.int .i64 oid) := (cell_of HKBw.out.at_ 1).trans rfl
          have o2 : wo.cell? ⟨bo, 2, none⟩ = some (.int .i64 orc) := (cell_of HKBw.out.at_ 2).trans rfl
          have o3 : wo.cell? ⟨bo, 3, none⟩ = some (.int .i64 onx) := (cell_of HKBw.out.at_ 3).trans rfl
          have o4 : wo.cell? ⟨bo, 4, none⟩ = some (.string osn) := (cell_of HKBw.out.at_ 4).trans rfl
          have o5 : wo.cell? ⟨bo, 5, none⟩ = some (.string odm) := (cell_of HKBw.out.at_ 5).trans rfl
          have o6 : wo.cell? ⟨bo, 6, none⟩ = some (.bool og) := (cell_of HKBw.out.at_ 6).trans rfl
          have o7 : wo.cell? ⟨bo, 7, none⟩ = some (.bool ost) := (cell_of HKBw.out.at_ 7).trans rfl
          clear hwo hbo HJ g0 g1 g2 g3 g4 g5 g6 g7
          go_cut [7, 10, 11, 12, 13, 14, 15, 16, 17] from 28 to 150 (fun v7 _ _ _ _ _ _ _ _ wx => ∃ (N' : Nat) (s' r' : Sd) (now' : Int), v7 = .int .i64 now' ∧ now ≤ now' ∧ now' ≤ 1099511627776 ∧ N' ≤ N + 1 + 1 ∧ SJ W wx p s' q r' N' ∧ Alk now' s' r')
          case first =>
            have HJd := Lib.hid (HJw.out.calm (Kp.refl (fun _ => False) wo).drew)
            have HKB := Lib.hid (HKBw.out.calm (Kp.refl (fun _ => False) wo).drew)
            by_cases hk1 : ok = 1
            · as_aux_lemma =>
              subst hk1
              obtain ⟨eb, heb⟩ : ∃ e, e = !(dupA (ab s) (oid, orc)) := ⟨_, rfl⟩
              have HPS := Lib.hid (show Calls Try.prog 25 #[.pointer (some ⟨p, 0, none⟩), .int .i64 oid, .int .i64 orc, .string osn, .string odm, .int .i64 onx] wo.drew fun e w2 => e = .returned (.bool eb) ∧ ∃ s1, SJ W w2 p s1 q r (N + 1) ∧ Nx wo.drew w2 s s1 r r ∧ ab s1 = aPut' (ab s) ⟨oid, orc, osn, odm, Has odm s.c.L, false, C onx⟩ ∧ s1.Ps = s.Ps from by
                rw [heb]; exact putS HJd.out oid orc onx osn odm _ rfl HO.out.1 HO.out.2.1 HO.out.2.2.2.2 (by omega))
              have HPM := Lib.hid (show ∀ w' s', SJ W w' p s' q r (N + 1) → Calls Try.prog 26 #[.pointer (some ⟨q, 0, none⟩), .agg #[.int .i64 oid, .int .i64 orc, .int .i64 onx, .string osn, .string odm, .bool false, .bool false]] w' fun e w2 => e = .returned (.bool eb) ∧ ∃ r1, SJ W w2 p s' q r1 (N + 1 + 1) ∧ Nx w' w2 s' s' r r1 ∧ ab r1 = aPut' (ab r) ⟨oid, orc, osn, odm, Has odm s.c.L, false, C onx⟩ ∧ r1.Ps = r.Ps from fun w' s' hJ' => by
                rw [heb, HA.out.cq.L]; exact putM hJ' oid orc onx osn odm _ HA.out.aq.dup.symm HO.out.2.2.2.2 (by omega))
              obtain ⟨S9, hS9d⟩ : ∃ S : World → Prop, S = fun w' => w'.cell? ⟨bo, 1, none⟩ = some (.int .i64 oid) ∧ w'.cell? ⟨bo, 2, none⟩ = some (.int .i64 orc) ∧ w'.cell? ⟨bo, 3, none⟩ = some (.int .i64 onx) ∧ w'.cell? ⟨bo, 4, none⟩ = some (.string osn) ∧ w'.cell? ⟨bo, 5, none⟩ = some (.string odm) := ⟨_, rfl⟩
              have HSF := Lib.hid (show ∀ w', S9 w' → w'.cell? ⟨bo, 1, none⟩ = some (.int .i64 oid) ∧ w'.cell? ⟨bo, 2, none⟩ = some (.int .i64 orc) ∧ w'.cell? ⟨bo, 3, none⟩ = some (.int .i64 onx) ∧ w'.cell? ⟨bo, 4, none⟩ = some (.string osn) ∧ w'.cell? ⟨bo, 5, none⟩ = some (.string odm) from fun w' h => by rw [hS9d] at h; exact h)
              have HSB := Lib.hid (show ∀ (w' : World) (s' r' : Sd), Kb w' s' r' bo (.cells #[.int .i64 1, .int .i64 oid, .int .i64 orc, .int .i64 onx, .string osn, .string odm, .bool og, .bool ost] 58 (0, 0)) → S9 w' from fun w' s' r' hkb => by
                rw [hS9d]
                exact ⟨(cell_of hkb.at_ 1).trans rfl, (cell_of hkb.at_ 2).trans rfl, (cell_of hkb.at_ 3).trans rfl, (cell_of hkb.at_ 4).trans rfl, (cell_of hkb.at_ 5).trans rfl⟩)
              have HS9 := Lib.hid (HSB.out _ _ _ HKB.out)
              clear heb hS9d
              go_upto_region 11 with fail
              clear o0 o1 o2 o3 o4 o5 o6 o7
              refine region_E 999 (S9) (by kernel_rfl) (HS9.out) (fun hS => ?_)
              refine takeE (i := 0) (v := ?_) rfl (by kernel_rfl) (by kernel_rfl) (by kernel_rfl) (by kernel_rfl) (fun _ _ _ h => h) hS (Or.inl ⟨by rfl, ?_⟩) ?_
              rotate_left
              · intro w hSw; obtain ⟨o1, o2, o3, o4, o5⟩ := HSF.out w hSw; go_simp <;> with_reducible rfl
              try simp only [Act.put, List.setIfInBounds_toArray, List.set_cons_zero, List.set_cons_succ]
              refine takeE (i := 1) (v := ?_) rfl (by kernel_rfl) (by kernel_rfl) (by kernel_rfl) (by kernel_rfl) (fun _ _ _ h => h) hS (Or.inl ⟨by rfl, ?_⟩) ?_
              rotate_left
              · intro w hSw; obtain ⟨o1, o2, o3, o4, o5⟩ := HSF.out w hSw; go_simp <;> with_reducible rfl
              try simp only [Act.put, List.setIfInBounds_toArray, List.set_cons_zero, List.set_cons_succ]
              refine takeE (i := 2) (v := ?_) rfl (by kernel_rfl) (by kernel_rfl) (by kernel_rfl) (by kernel_rfl) (fun _ _ _ h => h) hS (Or.inl ⟨by rfl, ?_⟩) ?_
              rotate_left
              · intro w hSw; obtain ⟨o1, o2, o3, o4, o5⟩ := HSF.out w hSw; go_simp <;> with_reducible rfl
              try simp only [Act.put, List.setIfInBounds_toArray, List.set_cons_zero, List.set_cons_succ]
              refine takeE (i := 3) (v := ?_) rfl (by kernel_rfl) (by kernel_rfl) (by kernel_rfl) (by kernel_rfl) (fun _ _ _ h => h) hS (Or.inl ⟨by rfl, ?_⟩) ?_
              rotate_left
              · intro w hSw; obtain ⟨o1, o2, o3, o4, o5⟩ := HSF.out w hSw; go_simp <;> with_reducible rfl
              try simp only [Act.put, List.setIfInBounds_toArray, List.set_cons_zero, List.set_cons_succ]
              refine takeE (i := 4) (v := ?_) rfl (by kernel_rfl) (by kernel_rfl) (by kernel_rfl) (by kernel_rfl) (fun _ _ _ h => h) hS (Or.inl ⟨by rfl, ?_⟩) ?_
              rotate_left
              · intro w hSw; obtain ⟨o1, o2, o3, o4, o5⟩ := HSF.out w hSw; go_simp <;> with_reducible rfl
              try simp only [Act.put, List.setIfInBounds_toArray, List.set_cons_zero, List.set_cons_succ]
              refine takeE (i := 5) (v := ?_) rfl (by kernel_rfl) (by kernel_rfl) (by kernel_rfl) (by kernel_rfl) (fun _ _ _ h => h) hS (Or.inl ⟨by rfl, ?_⟩) ?_
              rotate_left
              · intro w hSw; obtain ⟨o1, o2, o3, o4, o5⟩ := HSF.out w hSw; go_simp <;> with_reducible rfl
              try simp only [Act.put, List.setIfInBounds_toArray, List.set_cons_zero, List.set_cons_succ]
              refine takeE (i := 6) (v := ?_) rfl (by kernel_rfl) (by kernel_rfl) (by kernel_rfl) (by kernel_rfl) (fun _ _ _ h => h) hS (Or.inl ⟨by rfl, ?_⟩) ?_
              rotate_left
              · intro w hSw; obtain ⟨o1, o2, o3, o4, o5⟩ := HSF.out w hSw; go_simp <;> with_reducible rfl
              try simp only [Act.put, List.setIfInBounds_toArray, List.set_cons_zero, List.set_cons_succ]
              refine takeE (i := 7) (v := ?_) rfl (by kernel_rfl) (by kernel_rfl) (by kernel_rfl) (by kernel_rfl) (fun _ _ _ h => h) hS (Or.inl ⟨by rfl, ?_⟩) ?_
              rotate_left
              · intro w hSw; obtain ⟨o1, o2, o3, o4, o5⟩ := HSF.out w hSw; go_simp <;> with_reducible rfl
              try simp only [Act.put, List.setIfInBounds_toArray, List.set_cons_zero, List.set_cons_succ]
              refine takeE (i := 8) (v := ?_) rfl (by kernel_rfl) (by kernel_rfl) (by kernel_rfl) (by kernel_rfl) (fun _ _ _ h => h) hS (Or.inl ⟨by rfl, ?_⟩) ?_
              rotate_left
              · intro w hSw; obtain ⟨o1, o2, o3, o4, o5⟩ := HSF.out w hSw; go_simp <;> with_reducible rfl
              try simp only [Act.put, List.setIfInBounds_toArray, List.set_cons_zero, List.set_cons_succ]
              refine takeE (i := 9) (v := ?_) rfl (by kernel_rfl) (by kernel_rfl) (by kernel_rfl) (by kernel_rfl) (fun _ _ _ h => h) hS (Or.inl ⟨by rfl, ?_⟩) ?_
              rotate_left
              · intro w hSw; obtain ⟨o1, o2, o3, o4, o5⟩ := HSF.out w hSw; go_simp <;> with_reducible rfl
              try simp only [Act.put, List.setIfInBounds_toArray, List.set_cons_zero, List.set_cons_succ]
              refine takeE (i := 10) (v := ?_) rfl (by kernel_rfl) (by kernel_rfl) (by kernel_rfl) (by kernel_rfl) (fun _ _ _ h => h) hS (Or.inl ⟨by rfl, ?_⟩) ?_
              rotate_left
              · intro w hSw; obtain ⟨o1, o2, o3, o4, o5⟩ := HSF.out w hSw; go_simp <;> with_reducible rfl
              try simp only [Act.put, List.setIfInBounds_toArray, List.set_cons_zero, List.set_cons_succ]
              refine takeE (i := 12) (v := ?_) rfl (by kernel_rfl) (by kernel_rfl) (by kernel_rfl) (by kernel_rfl) (fun _ _ _ h => h) hS (Or.inl ⟨by rfl, ?_⟩) ?_
              rotate_left
              · intro w hSw; obtain ⟨o1, o2, o3, o4, o5⟩ := HSF.out w hSw; go_simp <;> with_reducible rfl
              try simp only [Act.put, List.setIfInBounds_toArray, List.set_cons_zero, List.set_cons_succ]
              refine takeE (i := 13) (v := ?_) rfl (by kernel_rfl) (by kernel_rfl) (by kernel_rfl) (by kernel_rfl) (fun _ _ _ h => h) hS (Or.inl ⟨by rfl, ?_⟩) ?_
              rotate_left
              · intro w hSw; obtain ⟨o1, o2, o3, o4, o5⟩ := HSF.out w hSw; go_simp <;> with_reducible rfl
              try simp only [Act.put, List.setIfInBounds_toArray, List.set_cons_zero, List.set_cons_succ]
              refine takeE (i := 14) (v := ?_) rfl (by kernel_rfl) (by kernel_rfl) (by kernel_rfl) (by kernel_rfl) (fun _ _ _ h => h) hS (Or.inl ⟨by rfl, ?_⟩) ?_
              rotate_left
              · intro w hSw; obtain ⟨o1, o2, o3, o4, o5⟩ := HSF.out w hSw; go_simp <;> with_reducible rfl
              try simp only [Act.put, List.setIfInBounds_toArray, List.set_cons_zero, List.set_cons_succ]
              refine takeE (i := 15) (v := ?_) rfl (by kernel_rfl) (by kernel_rfl) (by kernel_rfl) (by kernel_rfl) (fun _ _ _ h => h) hS (Or.inl ⟨by rfl, ?_⟩) ?_
              rotate_left
              · intro w hSw; obtain ⟨o1, o2, o3, o4, o5⟩ := HSF.out w hSw; go_simp <;> with_reducible rfl
              try simp only [Act.put, List.setIfInBounds_toArray, List.set_cons_zero, List.set_cons_succ]
              refine takeE (i := 16) (v := ?_) rfl (by kernel_rfl) (by kernel_rfl) (by kernel_rfl) (by kernel_rfl) (fun _ _ _ h => h) hS (Or.inl ⟨by rfl, ?_⟩) ?_
              rotate_left
              · intro w hSw; obtain ⟨o1, o2, o3, o4, o5⟩ := HSF.out w hSw; go_simp <;> with_reducible rfl
              try simp only [Act.put, List.setIfInBounds_toArray, List.set_cons_zero, List.set_cons_succ]
              refine takeE (i := 17) (v := ?_) rfl (by kernel_rfl) (by kernel_rfl) (by kernel_rfl) (by kernel_rfl) (fun _ _ _ h => h) hS (Or.inl ⟨by rfl, ?_⟩) ?_
              rotate_left
              · intro w hSw; obtain ⟨o1, o2, o3, o4, o5⟩ := HSF.out w hSw; go_simp <;> with_reducible rfl
              try simp only [Act.put, List.setIfInBounds_toArray, List.set_cons_zero, List.set_cons_succ]
              refine takeE (i := 18) (v := ?_) rfl (by kernel_rfl) (by kernel_rfl) (by kernel_rfl) (by kernel_rfl) (fun _ _ _ h => h) hS (Or.inl ⟨by rfl, ?_⟩) ?_
              rotate_left
              · intro w hSw; obtain ⟨o1, o2, o3, o4, o5⟩ := HSF.out w hSw; go_simp <;> with_reducible rfl
              try simp only [Act.put, List.setIfInBounds_toArray, List.set_cons_zero, List.set_cons_succ]
              refine takeE (i := 19) (v := ?_) rfl (by kernel_rfl) (by kernel_rfl) (by kernel_rfl) (by kernel_rfl) (fun _ _ _ h => h) hS (Or.inl ⟨by rfl, ?_⟩) ?_
              rotate_left
              · intro w hSw; obtain ⟨o1, o2, o3, o4, o5⟩ := HSF.out w hSw; go_simp <;> with_reducible rfl
              try simp only [Act.put, List.setIfInBounds_toArray, List.set_cons_zero, List.set_cons_succ]
              refine takeE (i := 20) (v := ?_) rfl (by kernel_rfl) (by kernel_rfl) (by kernel_rfl) (by kernel_rfl) (fun _ _ _ h => h) hS (Or.inl ⟨by rfl, ?_⟩) ?_
              rotate_left
              · intro w hSw; obtain ⟨o1, o2, o3, o4, o5⟩ := HSF.out w hSw; go_simp <;> with_reducible rfl
              try simp only [Act.put, List.setIfInBounds_toArray, List.set_cons_zero, List.set_cons_succ]
              refine takeE (i := 21) (v := ?_) rfl (by kernel_rfl) (by kernel_rfl) (by kernel_rfl) (by kernel_rfl) (fun _ _ _ h => h) hS (Or.inl ⟨by rfl, ?_⟩) ?_
              rotate_left
              · intro w hSw; obtain ⟨o1, o2, o3, o4, o5⟩ := HSF.out w hSw; go_simp <;> with_reducible rfl
              try simp only [Act.put, List.setIfInBounds_toArray, List.set_cons_zero, List.set_cons_succ]
              refine takeE (i := 22) (v := ?_) rfl (by kernel_rfl) (by kernel_rfl) (by kernel_rfl) (by kernel_rfl) (fun _ _ _ h => h) hS (Or.inl ⟨by rfl, ?_⟩) ?_
              rotate_left
              · intro w hSw; obtain ⟨o1, o2, o3, o4, o5⟩ := HSF.out w hSw; go_simp <;> with_reducible rfl
              try simp only [Act.put, List.setIfInBounds_toArray, List.set_cons_zero, List.set_cons_succ]
              refine takeE (i := 23) (v := ?_) rfl (by kernel_rfl) (by kernel_rfl) (by kernel_rfl) (by kernel_rfl) (fun _ _ _ h => h) hS (Or.inl ⟨by rfl, ?_⟩) ?_
              rotate_left
              · intro w hSw; obtain ⟨o1, o2, o3, o4, o5⟩ := HSF.out w hSw; go_simp <;> with_reducible rfl
              try simp only [Act.put, List.setIfInBounds_toArray, List.set_cons_zero, List.set_cons_succ]
              refine readyE (rs := [11]) (by kernel_rfl) (by simp) ?_
              refine consE (o := _) rfl (fun K hK => ?_) nilE
              -- 11 call
              go_simp
              refine HPS.out.mono ?_
              rintro e z1 ⟨rfl, s1, hJs, hnxS, haS, haP⟩
              have hkbS := hnxS _ _ HKB.out
              refine keepE hK (HSB.out _ _ _ hkbS) (fun hS => ?_)
              clear hK K
              try simp only [Act.put, List.setIfInBounds_toArray, List.set_cons_zero, List.set_cons_succ]
              refine readyE (rs := [24]) (by kernel_rfl) (by simp) ?_
              refine consE (o := _) rfl (fun K hK => ?_) nilE
              -- 24 call
              go_simp
              refine (HPM.out _ _ hJs).mono ?_
              rintro e z2 ⟨rfl, r1, hJm, hnxM, haM, haQ⟩
              have hkbM := hnxM _ _ hkbS
              refine keepE hK (HSB.out _ _ _ hkbM) (fun hS => ?_)
              clear hK K
              try simp only [Act.put, List.setIfInBounds_toArray, List.set_cons_zero, List.set_cons_succ]
              refine takeE (i := 25) (v := ?_) rfl (by kernel_rfl) (by kernel_rfl) (by kernel_rfl) (by kernel_rfl) (fun _ _ _ h => h) hS (Or.inl ⟨by rfl, ?_⟩) ?_
              rotate_left
              · intro w hSw; obtain ⟨o1, o2, o3, o4, o5⟩ := HSF.out w hSw; go_simp <;> with_reducible rfl
              try simp only [Act.put, List.setIfInBounds_toArray, List.set_cons_zero, List.set_cons_succ]
              refine doneE (by kernel_rfl) ?_ _
              go_wp2_with fail
              go_meet
              exact ⟨N + 1 + 1, s1, r1, now, rfl, Int.le_refl _, hn2, Nat.le_refl _, hJm, HA.out.put haS haP haM haQ⟩
            by_cases hk2 : ok = 2
            · as_aux_lemma =>
              subst hk2
              obtain ⟨eb, heb⟩ : ∃ e, e = (fdA (ab s) (oid, orc)).isSome := ⟨_, rfl⟩
              have HUK := Lib.hid HJd.out.uk
              have HPS := Lib.hid (show Calls Try.prog 27 #[.pointer (some ⟨p, 0, none⟩), .int .i64 oid, .int .i64 orc] wo.drew fun e w2 => e = .returned (.bool eb) ∧ ∃ s1, SJ W w2 p s1 q r N ∧ Nx wo.drew w2 s s1 r r ∧ ab s1 = aDrop (ab s) (oid, orc) ∧ s1.Ps = s.Ps from by
                rw [heb]; exact dropS HJd.out oid orc _ rfl HO.out.1 HO.out.2.1 (by omega))
              have HPM := Lib.hid (show ∀ w' s', SJ W w' p s' q r N → Calls Try.prog 28 #[.pointer (some ⟨q, 0, none⟩), .int .i64 oid, .int .i64 orc] w' fun e w2 => e = .returned (.bool eb) ∧ ∃ r1, SJ W w2 p s' q r1 N ∧ Nx w' w2 s' s' r r1 ∧ ab r1 = aDrop (ab r) (oid, orc) ∧ r1.Ps = r.Ps from fun w' s' hJ' => by
                rw [heb]; exact dropM hJ' oid orc _ (by rw [HA.out.aq.fd HUK.out]) (by omega))
              obtain ⟨S9, hS9d⟩ : ∃ S : World → Prop, S = fun w' => w'.cell? ⟨bo, 1, none⟩ = some (.int .i64 oid) ∧ w'.cell? ⟨bo, 2, none⟩ = some (.int .i64 orc) := ⟨_, rfl⟩
              have HSF := Lib.hid (show ∀ w', S9 w' → w'.cell? ⟨bo, 1, none⟩ = some (.int .i64 oid) ∧ w'.cell? ⟨bo, 2, none⟩ = some (.int .i64 orc) from fun w' h => by rw [hS9d] at h; exact h)
              have HSB := Lib.hid (show ∀ (w' : World) (s' r' : Sd), Kb w' s' r' bo (.cells #[.int .i64 2, .int .i64 oid, .int .i64 orc, .int .i64 onx, .string osn, .string odm, .bool og, .bool ost] 58 (0, 0)) → S9 w' from fun w' s' r' hkb => by
                rw [hS9d]
                exact ⟨(cell_of hkb.at_ 1).trans rfl, (cell_of hkb.at_ 2).trans rfl⟩)
              have HS9 := Lib.hid (HSB.out _ _ _ HKB.out)
              clear heb hS9d
              go_upto_region 14 with fail
              clear o0 o1 o2 o3 o4 o5 o6 o7
              refine region_E 999 (S9) (by kernel_rfl) (HS9.out) (fun hS => ?_)
              refine takeE (i := 0) (v := ?_) rfl (by kernel_rfl) (by kernel_rfl) (by kernel_rfl) (by kernel_rfl) (fun _ _ _ h => h) hS (Or.inl ⟨by rfl, ?_⟩) ?_
              rotate_left
              · intro w hSw; obtain ⟨o1, o2⟩ := HSF.out w hSw; go_simp <;> with_reducible rfl
              try simp only [Act.put, List.setIfInBounds_toArray, List.set_cons_zero, List.set_cons_succ]
              refine takeE (i := 1) (v := ?_) rfl (by kernel_rfl) (by kernel_rfl) (by kernel_rfl) (by kernel_rfl) (fun _ _ _ h => h) hS (Or.inl ⟨by rfl, ?_⟩) ?_
              rotate_left
              · intro w hSw; obtain ⟨o1, o2⟩ := HSF.out w hSw; go_simp <;> with_reducible rfl
              try simp only [Act.put, List.setIfInBounds_toArray, List.set_cons_zero, List.set_cons_succ]
              refine takeE (i := 2) (v := ?_) rfl (by kernel_rfl) (by kernel_rfl) (by kernel_rfl) (by kernel_rfl) (fun _ _ _ h => h) hS (Or.inl ⟨by rfl, ?_⟩) ?_
              rotate_left
              · intro w hSw; obtain ⟨o1, o2⟩ := HSF.out w hSw; go_simp <;> with_reducible rfl
              try simp only [Act.put, List.setIfInBounds_toArray, List.set_cons_zero, List.set_cons_succ]
              refine takeE (i := 3) (v := ?_) rfl (by kernel_rfl) (by kernel_rfl) (by kernel_rfl) (by kernel_rfl) (fun _ _ _ h => h) hS (Or.inl ⟨by rfl, ?_⟩) ?_
              rotate_left
              · intro w hSw; obtain ⟨o1, o2⟩ := HSF.out w hSw; go_simp <;> with_reducible rfl
              try simp only [Act.put, List.setIfInBounds_toArray, List.set_cons_zero, List.set_cons_succ]
              refine takeE (i := 4) (v := ?_) rfl (by kernel_rfl) (by kernel_rfl) (by kernel_rfl) (by kernel_rfl) (fun _ _ _ h => h) hS (Or.inl ⟨by rfl, ?_⟩) ?_
              rotate_left
              · intro w hSw; obtain ⟨o1, o2⟩ := HSF.out w hSw; go_simp <;> with_reducible rfl
              try simp only [Act.put, List.setIfInBounds_toArray, List.set_cons_zero, List.set_cons_succ]
              refine takeE (i := 6) (v := ?_) rfl (by kernel_rfl) (by kernel_rfl) (by kernel_rfl) (by kernel_rfl) (fun _ _ _ h => h) hS (Or.inl ⟨by rfl, ?_⟩) ?_
              rotate_left
              · intro w hSw; obtain ⟨o1, o2⟩ := HSF.out w hSw; go_simp <;> with_reducible rfl
              try simp only [Act.put, List.setIfInBounds_toArray, List.set_cons_zero, List.set_cons_succ]
              refine takeE (i := 7) (v := ?_) rfl (by kernel_rfl) (by kernel_rfl) (by kernel_rfl) (by kernel_rfl) (fun _ _ _ h => h) hS (Or.inl ⟨by rfl, ?_⟩) ?_
              rotate_left
              · intro w hSw; obtain ⟨o1, o2⟩ := HSF.out w hSw; go_simp <;> with_reducible rfl
              try simp only [Act.put, List.setIfInBounds_toArray, List.set_cons_zero, List.set_cons_succ]
              refine takeE (i := 8) (v := ?_) rfl (by kernel_rfl) (by kernel_rfl) (by kernel_rfl) (by kernel_rfl) (fun _ _ _ h => h) hS (Or.inl ⟨by rfl, ?_⟩) ?_
              rotate_left
              · intro w hSw; obtain ⟨o1, o2⟩ := HSF.out w hSw; go_simp <;> with_reducible rfl
              try simp only [Act.put, List.setIfInBounds_toArray, List.set_cons_zero, List.set_cons_succ]
              refine takeE (i := 9) (v := ?_) rfl (by kernel_rfl) (by kernel_rfl) (by kernel_rfl) (by kernel_rfl) (fun _ _ _ h => h) hS (Or.inl ⟨by rfl, ?_⟩) ?_
              rotate_left
              · intro w hSw; obtain ⟨o1, o2⟩ := HSF.out w hSw; go_simp <;> with_reducible rfl
              try simp only [Act.put, List.setIfInBounds_toArray, List.set_cons_zero, List.set_cons_succ]
              refine takeE (i := 10) (v := ?_) rfl (by kernel_rfl) (by kernel_rfl) (by kernel_rfl) (by kernel_rfl) (fun _ _ _ h => h) hS (Or.inl ⟨by rfl, ?_⟩) ?_
              rotate_left
              · intro w hSw; obtain ⟨o1, o2⟩ := HSF.out w hSw; go_simp <;> with_reducible rfl
              try simp only [Act.put, List.setIfInBounds_toArray, List.set_cons_zero, List.set_cons_succ]
              refine readyE (rs := [5]) (by kernel_rfl) (by simp) ?_
              refine consE (o := _) rfl (fun K hK => ?_) nilE
              -- 5 call
              go_simp
              refine HPS.out.mono ?_
              rintro e z1 ⟨rfl, s1, hJs, hnxS, haS, haP⟩
              have hkbS := hnxS _ _ HKB.out
              refine keepE hK (HSB.out _ _ _ hkbS) (fun hS => ?_)
              clear hK K
              try simp only [Act.put, List.setIfInBounds_toArray, List.set_cons_zero, List.set_cons_succ]
              refine readyE (rs := [11]) (by kernel_rfl) (by simp) ?_
              refine consE (o := _) rfl (fun K hK => ?_) nilE
              -- 11 call
              go_simp
              refine (HPM.out _ _ hJs).mono ?_
              rintro e z2 ⟨rfl, r1, hJm, hnxM, haM, haQ⟩
              have hkbM := hnxM _ _ hkbS
              refine keepE hK (HSB.out _ _ _ hkbM) (fun hS => ?_)
              clear hK K
              try simp only [Act.put, List.setIfInBounds_toArray, List.set_cons_zero, List.set_cons_succ]
              refine takeE (i := 12) (v := ?_) rfl (by kernel_rfl) (by kernel_rfl) (by kernel_rfl) (by kernel_rfl) (fun _ _ _ h => h) hS (Or.inl ⟨by rfl, ?_⟩) ?_
              rotate_left
              · intro w hSw; obtain ⟨o1, o2⟩ := HSF.out w hSw; go_simp <;> with_reducible rfl
              try simp only [Act.put, List.setIfInBounds_toArray, List.set_cons_zero, List.set_cons_succ]
              refine doneE (by kernel_rfl) ?_ _
              go_wp2_with fail
              go_meet
              exact ⟨N, s1, r1, now, rfl, Int.le_refl _, hn2, by omega, hJm, HA.out.drop HUK.out haS haP haM haQ⟩
            have HHI := Lib.hid (show 0 ≤ C onx ∧ C onx ≤ 1099511627776 from ⟨by unfold C; omega, by unfold C; omega⟩)
            by_cases hk3 : ok = 3
            · as_aux_lemma =>
              subst hk3
              go_wp2_with fail
              refine (rclamp_any onx _).mono ?_; rintro e w2 ⟨rfl, rfl⟩
              obtain ⟨m, hm⟩ : ∃ m, m = max now (C onx) := ⟨_, rfl⟩
              have hm' : max now (C onx) = m := hm.symm
              have hm0 : 0 ≤ m ∧ m ≤ 1099511627776 ∧ now ≤ m := by have := HHI.out; omega
              have HAm := Lib.hid (HA.out.later hm0.2.2)
              have HCm := Lib.hid (show C m = m from C_of hm0.1 hm0.2.1)
              have HIR := Lib.hid (HAm.out.aq.inv HAm.out.inv)
              have HM0 := Lib.hid hm0
              clear hm hm0
              by_cases hAny : AnyA (ab s) (fr s m) m
              · have HAny := Lib.hid hAny
                have HAnyR := Lib.hid (show AnyA (ab r) (fr r m) m from by rw [← HAm.out.may HM0.out.2.1]; exact (HAm.out.aq.any _ _).1 hAny)
                clear hAny
                go_wp2_with fail
                refine (pickS HJw.out HAm.out.inv HAm.out.tS HCm.out (by omega)).mono ?_; rintro e w3 ⟨s1, hJ1, hnx1, _, g2⟩
                obtain ⟨x, hbx, hfi, rfl, ha1, vb1⟩ := g2 HAny.out
                have HJ1 := Lib.hid hJ1; have HBX := Lib.hid hbx; have HFI := Lib.hid hfi; have HA1 := Lib.hid ha1; have HV1 := Lib.hid vb1
                clear hJ1 hnx1 g2 hbx hfi ha1 vb1
                go_wp2_with fail
                refine (pickM (HJ1.out.calm ((Kp.refl (fun _ => False) w3).alloc _)) HIR.out (fun vl vp hmm => fpick_any q N r vl vp m m _ hmm HAm.out.tR HCm.out (by omega))).mono ?_; rintro e w4 ⟨r1, hJ2, hnx2, _, g2⟩
                obtain ⟨y, hby, _, rfl, ha2, vb2⟩ := g2 HAnyR.out
                rw [← HAm.out.may HM0.out.2.1] at hby ha2
                rw [← HAm.out.aq.lc, ← HAm.out.aq.fi] at ha2
                obtain rfl := HBX.out.uniq (BestA.to HAm.out.aq.symm hby) HJw.out.uk
                have hkb2 := hnx2 _ _ (HJ1.out.newb (Nat.le_refl _) (heap_new (w := w3) _))
                have HAF := Lib.hid (HAm.out.begun HM0.out.2.1 HFI.out HA1.out HV1.out ha2 vb2)
                have y0 := cell_of hkb2.at_ 0
                have y1 := cell_of hkb2.at_ 1
                have y2 := cell_of hkb2.at_ 2
                simp only [List.getElem?_toArray, List.getElem?_cons_zero, List.getElem?_cons_succ] at y0 y1 y2
                have ly := lt_of_block hkb2.at_
                have HJ2 := Lib.hid hJ2
                clear hkb2 hJ2 hnx2
                try clear ha2
                try clear vb2
                try clear ve2
                try clear g2
                try clear hby
                go_wp2_with fail
                go_meet
                exact ⟨N, s1, r1, m, rfl, HM0.out.2.2, HM0.out.2.1, by omega, HJ2.out.calm (by repeat (first | exact Kp.refl _ _ | apply Kp.drew | apply Kp.drewN | refine Kp.setCell ?_ _ _ (Or.inl rfl) | apply Kp.alloc)), HAF.out⟩
              · have HAny := Lib.hid hAny
                have HAnyR := Lib.hid (show ¬ AnyA (ab r) (fr r m) m from by rw [← HAm.out.may HM0.out.2.1]; exact fun e => hAny ((HAm.out.aq.any _ _).2 e))
                clear hAny
                go_wp2_with fail
                refine (pickS HJw.out HAm.out.inv HAm.out.tS HCm.out (by omega)).mono ?_; rintro e w3 ⟨s1, hJ1, hnx1, g2, _⟩
                obtain ⟨rfl, ha1, vb1⟩ := g2 HAny.out
                have HJ1 := Lib.hid hJ1; have HA1 := Lib.hid ha1; have HV1 := Lib.hid vb1
                clear hJ1 hnx1 g2 ha1 vb1
                unfold z3
                go_wp2_with fail
                refine (pickM (HJ1.out.calm ((Kp.refl (fun _ => False) w3).alloc _)) HIR.out (fun vl vp hmm => fpick_any q N r vl vp m m _ hmm HAm.out.tR HCm.out (by omega))).mono ?_; rintro e w4 ⟨r1, hJ2, hnx2, g2, _⟩
                obtain ⟨rfl, ha2, vb2⟩ := g2 HAnyR.out
                have hkb2 := hnx2 _ _ (HJ1.out.newb (Nat.le_refl _) (heap_new (w := w3) _))
                have HAF := Lib.hid (HAm.out.step HV1.out vb2 (by rw [HA1.out, ha2]; exact HAm.out.aq) (congrArg Ab.c HA1.out) (congrArg Ab.c ha2) (by rw [HA1.out]; exact HAm.out.inv))
                unfold z3
                have y0 := cell_of hkb2.at_ 0
                have y1 := cell_of hkb2.at_ 1
                have y2 := cell_of hkb2.at_ 2
                simp only [List.getElem?_toArray, List.getElem?_cons_zero, List.getElem?_cons_succ] at y0 y1 y2
                have ly := lt_of_block hkb2.at_
                have HJ2 := Lib.hid hJ2
                clear hkb2 hJ2 hnx2
                try clear ha2
                try clear vb2
                try clear ve2
                try clear g2
                try clear hby
                go_wp2_with fail
                go_meet
                exact ⟨N, s1, r1, m, rfl, HM0.out.2.2, HM0.out.2.1, by omega, HJ2.out.calm (by repeat (first | exact Kp.refl _ _ | apply Kp.drew | apply Kp.drewN | refine Kp.setCell ?_ _ _ (Or.inl rfl) | apply Kp.alloc)), HAF.out⟩
            by_cases hk4 : ok = 4
            · as_aux_lemma =>
              subst hk4
              have HGL := Lib.hid (show r.G.length = s.G.length from congrArg List.length HA.out.aq.G.symm)
              by_cases hi : 0 ≤ oid ∧ oid < (s.G.length : Int)
              · obtain ⟨i, rfl⟩ := Int.eq_ofNat_of_zero_le hi.1
                obtain ⟨x, hx1, hx2, hg1, hg2⟩ := HJw.out.atG HA.out (i := i) (by omega)
                have HX1 := Lib.hid hx1; have HX2 := Lib.hid hx2; have HG1 := Lib.hid hg1; have HG2 := Lib.hid hg2
                clear hi hx1 hx2 hg1 hg2
                go_wp2_with fail
                refine (endYS HJw.out HX1.out HG1.out HA.out.tS hn hn2 (by omega)).mono ?_; rintro e w3 ⟨rfl, s1, hJ1, hnx1, ha1, ve1⟩
                have HKB1 := Lib.hid (hnx1 _ _ HKBw.out)
                have HJ1 := Lib.hid hJ1; have HA1 := Lib.hid ha1; have HV1 := Lib.hid ve1
                clear hJ1 hnx1 ha1 ve1
                have b1 : w3.cell? ⟨bo, 1, none⟩ = some _ := (cell_of HKB1.out.at_ 1).trans rfl
                have b3 : w3.cell? ⟨bo, 3, none⟩ = some (.int .i64 onx) := (cell_of HKB1.out.at_ 3).trans rfl
                have b6 : w3.cell? ⟨bo, 6, none⟩ = some (.bool og) := (cell_of HKB1.out.at_ 6).trans rfl
                have b7 : w3.cell? ⟨bo, 7, none⟩ = some (.bool ost) := (cell_of HKB1.out.at_ 7).trans rfl
                have lb3 := lt_of_block HKB1.out.at_
                go_wp2_with fail
                refine (endYM (HJ1.out.calm ((Kp.refl (fun _ => False) w3).alloc _)) HX2.out HG2.out HA.out.tR hn hn2 (by omega)).mono ?_; rintro e w4 ⟨rfl, r1, hJ2, hnx2, ha2, ve2⟩
                have hkb2 := hnx2 _ _ (HJ1.out.newb (Nat.le_refl _) (heap_new (w := w3) _))
                have HAF := Lib.hid (HA.out.ended HA1.out HV1.out ha2 ve2)
                have y0 := cell_of hkb2.at_ 0
                have y1 := cell_of hkb2.at_ 1
                have y2 := cell_of hkb2.at_ 2
                simp only [List.getElem?_toArray, List.getElem?_cons_zero, List.getElem?_cons_succ] at y0 y1 y2
                have ly := lt_of_block hkb2.at_
                have HJ2 := Lib.hid hJ2
                clear hkb2 hJ2 hnx2
                try clear ha2
                try clear vb2
                try clear ve2
                try clear g2
                try clear hby
                go_wp2_with fail
                go_meet
                exact ⟨N, s1, r1, now, rfl, Int.le_refl _, hn2, by omega, HJ2.out.calm (by repeat (first | exact Kp.refl _ _ | apply Kp.drew | apply Kp.drewN | refine Kp.setCell ?_ _ _ (Or.inl rfl) | apply Kp.alloc)), HAF.out⟩
              · have HI1 := Lib.hid (show oid < 0 ∨ (s.G.length : Int) ≤ oid from by omega)
                have HI2 := Lib.hid (show oid < 0 ∨ (r.G.length : Int) ≤ oid from by rw [HGL.out]; exact HI1.out)
                clear hi
                go_wp2_with fail
                refine (endNS HJw.out HI1.out HA.out.tS hn hn2 (by omega)).mono ?_; rintro e w3 ⟨rfl, hJ1, hnx1⟩
                have HKB1 := Lib.hid (hnx1 _ _ HKBw.out)
                have HJ1 := Lib.hid hJ1
                clear hJ1 hnx1
                have b1 : w3.cell? ⟨bo, 1, none⟩ = some _ := (cell_of HKB1.out.at_ 1).trans rfl
                have b3 : w3.cell? ⟨bo, 3, none⟩ = some (.int .i64 onx) := (cell_of HKB1.out.at_ 3).trans rfl
                have b6 : w3.cell? ⟨bo, 6, none⟩ = some (.bool og) := (cell_of HKB1.out.at_ 6).trans rfl
                have b7 : w3.cell? ⟨bo, 7, none⟩ = some (.bool ost) := (cell_of HKB1.out.at_ 7).trans rfl
                have lb3 := lt_of_block HKB1.out.at_
                unfold z3
                go_wp2_with fail
                refine (endNM (HJ1.out.calm ((Kp.refl (fun _ => False) w3).alloc _)) HI2.out).mono ?_; rintro e w4 ⟨rfl, hJ2, hnx2⟩
                have hkb2 := hnx2 _ _ (HJ1.out.newb (Nat.le_refl _) (heap_new (w := w3) _))
                have HAF := HA
                unfold z3
                have y0 := cell_of hkb2.at_ 0
                have y1 := cell_of hkb2.at_ 1
                have y2 := cell_of hkb2.at_ 2
                simp only [List.getElem?_toArray, List.getElem?_cons_zero, List.getElem?_cons_succ] at y0 y1 y2
                have ly := lt_of_block hkb2.at_
                have HJ2 := Lib.hid hJ2
                clear hkb2 hJ2 hnx2
                try clear ha2
                try clear vb2
                try clear ve2
                try clear g2
                try clear hby
                go_wp2_with fail
                go_meet
                exact ⟨N, s, r, now, rfl, Int.le_refl _, hn2, by omega, HJ2.out.calm (by repeat (first | exact Kp.refl _ _ | apply Kp.drew | apply Kp.drewN | refine Kp.setCell ?_ _ _ (Or.inl rfl) | apply Kp.alloc)), HAF.out⟩
            · go_wp2_with fail
              go_meet
              exact ⟨N, s, r, now, rfl, Int.le_refl _, hn2, by omega, HJw.out, HA.out⟩
          case rest =>
            obtain ⟨N', s', r', now', rfl, hn1, hn3, hN', hJ', hA'⟩ := hcut
            have HJp := Lib.hid hJ'; have HAp := Lib.hid hA'
            clear hJ' hA' o0 o1 o2 o3 o4 o5 o6 o7 HJw HKBw
            go_wp2_with fail
            refine (alike_any HJp.out HAp.out hn3 (by omega)).mono ?_; rintro e wy ⟨rfl, s9, r9, hJ9, _, hA9⟩
            have HJ9 := Lib.hid hJ9; have HA9 := Lib.hid hA9
            clear hJ9 hA9
            go_wp2_with fail
            go_roundg (len - (j + 1))
            case measure => rw [HKk.out]; omega
            case rel => exact ⟨j + 1, N', now', s9, r9, rfl, by omega, by go_num, rfl, by omega, hn3, by omega, HJ9.out, HA9.out⟩
        · go_wp2_with fail
          refine (r22ans_any _).mono ?_; rintro e w6 ⟨rfl, hk6⟩
          have HKE := Lib.hid (HJ.out.si.kp.trans hk6)
          clear hk6
          go_wp2_with fail
          go_ret
          exact ⟨rfl, HKE.out.below (fun _ _ h => h)⟩
  · have hlf : (decide (L.length ≤ 20) && decide (len ≤ 150)) = false := by cases h : (decide (L.length ≤ 20) && decide (len ≤ 150)) with | false => rfl | true => exact absurd h hlight
    go_enter Try.func8, Try.ntmps8
    unfold Cc
    go_wp2_with fail
    refine (light_any ⟨host, .slice ar L.length cc, L, i1, i2, i3, i4, i5, i6, i7, i8, i9, i10⟩ ar ao len cap cc _ rfl).mono ?_; rintro e w1 ⟨rfl, hk1⟩
    have HK1 := Lib.hid (HK0.out.trans hk1)
    rw [show (decide ((⟨host, .slice ar L.length cc, L, i1, i2, i3, i4, i5, i6, i7, i8, i9, i10⟩ : Cf).L.length ≤ 20) && decide (len ≤ 150)) = false from hlf]
    clear hk1
    go_wp2_with fail
    refine (r22ans_any _).mono ?_; rintro e w2 ⟨rfl, hk2⟩
    have HK2 := Lib.hid (HK1.out.trans hk2)
    clear hk2
    go_wp2_with fail
    go_ret
    exact ⟨rfl, HK2.out.below (fun _ _ h => h)⟩
end Go.Proofs.Ytbiahndpfbmoeaa
