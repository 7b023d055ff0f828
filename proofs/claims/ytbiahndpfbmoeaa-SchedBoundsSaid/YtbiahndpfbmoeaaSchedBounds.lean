/- SchedBounds: the law returns true for every input. No condition. -/
import Derived.Test.YtbiahndpfbmoeaaSd28
import Derived.ProofKit
import Derived.Deep.CutBlock
namespace Go.Proofs.Ytbiahndpfbmoeaa
open Go.RowKit Go.ChangeShapes Go.WideShapes SatAid Go.Deep

set_option maxRecDepth 100000 in
set_option maxHeartbeats 6400000 in
theorem schedBounds_law {H : Type} {enc : TypeId × Value → H} (W : World) {base : Nat} (v0 v1 v2 : Value) (d0 d1 d2 : DataW H) (p0 p1 p2 : List MemPlace)
    (k0 : Value.okWide Try.prog W .any base 45 v0) (k1 : Value.okWide Try.prog W .any base 46 v1) (k2 : Value.okWide Try.prog W .any base 79 v2)
    (h0 : DataW.Trod enc Try.prog W 0 (fun _ => true) true 45 v0 d0 p0) (h1 : DataW.Trod enc Try.prog W 0 (fun _ => true) true 46 v1 d1 p1) (h2 : DataW.Trod enc Try.prog W 0 (fun _ => true) true 79 v2 d2 p2) :
    Calls Try.prog 12 #[v0, v1, v2] W fun e W' => e = .returned (.bool true) ∧ Below W.heap.size W W' := by
  obtain ⟨⟨host, lv, L, i1, i2, i3, i4, i5, i6, i7, i8, i9, i10⟩, rfl, ar, cc, hlv, hhs⟩ := open_cfg k0 h0
  simp only at hlv hhs
  subst hlv
  obtain ⟨ao, len, cap, f, rfl, hnc, hcap, hrow, hok⟩ := open_sops k1 h1
  obtain ⟨au, ln, cu, g, rfl, hcu, hlu, hru, hwu⟩ := open_introw Try.underlying79 cells_bu8 Try.underlying5 k2 h2
  have HROW := Lib.hid hrow; have HOK := Lib.hid hok; have HRU := Lib.hid hru; have HWU := Lib.hid hwu; have HHS := Lib.hid hhs
  clear h0 k0 h1 k1 h2 k2 hrow hok hru hwu hhs
  have HK0 := Lib.hid (show Kp (fun _ => False) W (W.alloc (.cells (Cc ⟨host, .slice ar L.length cc, L, i1, i2, i3, i4, i5, i6, i7, i8, i9, i10⟩).toArray 45)) from (by repeat (first | exact Kp.refl _ _ | apply Kp.drew | apply Kp.drewN | refine Kp.setCell ?_ _ _ (Or.inl rfl) | apply Kp.alloc)))
  by_cases hlight : (decide (L.length ≤ 20) && decide (len ≤ 150)) = true
  · have hl20 : L.length ≤ 20 := by simp at hlight; exact hlight.1
    have hl150 : len ≤ 150 := by simp at hlight; exact hlight.2
    go_enter Try.func12, Try.ntmps12
    unfold Cc
    go_wp2_with fail
    refine (light_any ⟨host, .slice ar L.length cc, L, i1, i2, i3, i4, i5, i6, i7, i8, i9, i10⟩ ar ao len cap cc _ rfl).mono ?_; rintro e w1 ⟨rfl, hk1⟩
    have hk1' := HK0.out.trans hk1
    have HK1 := Lib.hid hk1'
    have hb1 := hk1.keep (heap_new (w := W) (.cells (Cc ⟨host, .slice ar L.length cc, L, i1, i2, i3, i4, i5, i6, i7, i8, i9, i10⟩).toArray 45)) (fun h => h)
    have HB1 := Lib.hid hb1
    have c0 : w1.cell? ⟨W.heap.size, 0, none⟩ = some (.string host) := (cell_of hb1 0).trans rfl
    have c1 : w1.cell? ⟨W.heap.size, 1, none⟩ = some (.slice ar L.length cc) := (cell_of hb1 1).trans rfl
    have c2 : w1.cell? ⟨W.heap.size, 2, none⟩ = some (.int .i64 i1) := (cell_of hb1 2).trans rfl
    have c3 : w1.cell? ⟨W.heap.size, 3, none⟩ = some (.int .i64 i2) := (cell_of hb1 3).trans rfl
    have c4 : w1.cell? ⟨W.heap.size, 4, none⟩ = some (.int .i64 i3) := (cell_of hb1 4).trans rfl
    have c5 : w1.cell? ⟨W.heap.size, 5, none⟩ = some (.int .i64 i4) := (cell_of hb1 5).trans rfl
    have c6 : w1.cell? ⟨W.heap.size, 6, none⟩ = some (.int .i64 i5) := (cell_of hb1 6).trans rfl
    have c7 : w1.cell? ⟨W.heap.size, 7, none⟩ = some (.int .i64 i6) := (cell_of hb1 7).trans rfl
    have c8 : w1.cell? ⟨W.heap.size, 8, none⟩ = some (.int .i64 i7) := (cell_of hb1 8).trans rfl
    have c9 : w1.cell? ⟨W.heap.size, 9, none⟩ = some (.int .i64 i8) := (cell_of hb1 9).trans rfl
    have c10 : w1.cell? ⟨W.heap.size, 10, none⟩ = some (.int .i64 i9) := (cell_of hb1 10).trans rfl
    have c11 : w1.cell? ⟨W.heap.size, 11, none⟩ = some (.int .i64 i10) := (cell_of hb1 11).trans rfl
    rw [hlight]
    clear hk1 hk1' hb1
    go_wp2_with fail
    refine (newA ⟨host, .slice ar L.length cc, L, i1, i2, i3, i4, i5, i6, i7, i8, i9, i10⟩ ar cc w1 _ (Kp.refl _ _) rfl (HHS.out.rd.keep HK1.out (fun _ _ _ _ h => h)) (show L.length ≤ 1000000 by omega) (fun e => (HHS.out.emp e).2)).mono ?_; rintro e w2 ⟨p, s0, rfl, hsi0, hA0, hP0⟩
    have hw0 : s0.c.win = i2 ∧ s0.c.rate = i3 ∧ s0.c.burst = i4 := by have e := congrArg Ab.c hA0; exact ⟨congrArg Cf.win e, congrArg Cf.rate e, congrArg Cf.burst e⟩
    have HBI0 := Lib.hid (newB hA0 hP0); have HCW := Lib.hid hw0
    have hk12 := hsi0.kp
    have hsi0 := hsi0.base HK1.out
    have hb2 : w2.heap[W.heap.size]? = some (.cells (Cc ⟨host, .slice ar L.length cc, L, i1, i2, i3, i4, i5, i6, i7, i8, i9, i10⟩).toArray 45 (0, 0)) := hk12.keep HB1.out (fun h => h)
    have HSI0 := Lib.hid hsi0; have HB2 := Lib.hid hb2
    clear c0 c1 c2 c3 c4 c5 c6 c7 c8 c9 c10 c11 hsi0 hA0 hP0 hw0 hk12
    have c3 : w2.cell? ⟨W.heap.size, 3, none⟩ = some (.int .i64 i2) := (cell_of hb2 3).trans rfl
    have c4 : w2.cell? ⟨W.heap.size, 4, none⟩ = some (.int .i64 i3) := (cell_of hb2 4).trans rfl
    have c5 : w2.cell? ⟨W.heap.size, 5, none⟩ = some (.int .i64 i4) := (cell_of hb2 5).trans rfl
    clear hb2
    obtain ⟨tp, htp⟩ : ∃ t, t = V8 i2 := ⟨_, rfl⟩
    obtain ⟨r, hr⟩ : ∃ r, r = V i3 := ⟨_, rfl⟩
    obtain ⟨u, hu⟩ : ∃ u, u = V i4 := ⟨_, rfl⟩
    have et : min (max i2 1) 8 = tp := htp.symm
    have er : min (max i3 1) 100 = r := hr.symm
    have eu : min (max i4 1) 100 = u := hu.symm
    have HTP := Lib.hid htp; have HR := Lib.hid hr; have HU := Lib.hid hu
    clear htp hr hu
    go_wp2_with fail
    go_quiet (fail)
    have HSI1 := Lib.hid (HSI0.out.calm ((Kp.refl (fun _ => False) w2).drewN nq))
    obtain ⟨w3, hw3⟩ : ∃ w3, w3 = w2.drewN nq := ⟨_, rfl⟩
    rw [← hw3] at HSI1 ⊢
    clear hw3 c3 c4 c5 et er eu
    go_wp2_with fail
    go_loopg [11, 12, 13, 14] len (fun k nw v12 v13 i wr => ∃ (j N : Nat) (now : Int) (s : Sd) (T : List (Int × Int × ByteArray)) (B : List (Int × ByteArray)), k = len - j ∧ j ≤ len ∧ i = .int .i64 j ∧ nw = .int .i64 now ∧ 0 ≤ now ∧ now ≤ 3 * j ∧ N ≤ 20 + j ∧ SI W wr p s N ∧ BI s now B ∧ Rw W wr s v12 v13 T B ∧ B.length ≤ j ∧ (s.c.win = i2 ∧ s.c.rate = i3 ∧ s.c.burst = i4) ∧ ∀ b ∈ B, 0 ≤ b.1 ∧ b.1 ≤ now)
    case atStart => exact ⟨0, _, 0, s0, [], [], rfl, by omega, rfl, rfl, Int.le_refl _, by omega, hl20, HSI1.out, HBI0.out, Rw.nil _ _ _, Nat.le_refl _, HCW.out, fun b hb => by cases hb⟩
    case round =>
      obtain ⟨j, N, now, s, T, B, hk, hj, rfl, rfl, hn0, hn3, hN, hsi, hbi, hrw, hBl, hcw, hbt⟩ := hrel
      have HKk := Lib.hid hk; have HSI := Lib.hid hsi; have HBI := Lib.hid hbi; have HRW := Lib.hid hrw; have HCWs := Lib.hid hcw; have HBT := Lib.hid hbt; have HBL := Lib.hid hBl
      clear hk hsi hbi hrw hcw hbt hBl HSI0 HBI0 HSI1 HCW
      by_cases hlt : (j : Int) < (len : Int)
      · obtain ⟨b, off, rfl, hb, hc⟩ := HROW.out.get (i := j) (by omega)
        obtain ⟨⟨ok, oid, orc, onx, osn, odm, og, ost⟩, hr⟩ : ∃ r, r = f j := ⟨_, rfl⟩
        have HO := Lib.hid (show SOk ⟨ok, oid, orc, onx, osn, odm, og, ost⟩ from by rw [hr]; exact HOK.out j (by omega))
        have hcj := fun z v (e : (So (f j))[z]? = some v) => (HSI.out.kp.cell _ hb (fun h => h)).trans (hc j (by omega) z v e)
        rw [← hr] at hcj
        have g0 := hcj 0 _ rfl
        rw [Nat.add_zero] at g0
        have g1 := hcj 1 _ rfl
        have g2 := hcj 2 _ rfl
        have g3 := hcj 3 _ rfl
        have g4 := hcj 4 _ rfl
        have g5 := hcj 5 _ rfl
        have g6 := hcj 6 _ rfl
        have g7 := hcj 7 _ rfl
        simp only at g1 g2 g3 g4 g5 g6 g7
        clear hc hcj hr
        have q1 : (0 : Int) ≤ (j : Int) := by omega
        replace g0 : wr.cell? ⟨b, off + j * 8, none⟩ = some (.int .i64 ok) := g0
        go_upto_if 58 with fail
        go_cut [11] from 45 to 202 (fun s11 wx => ∃ now' : Int, s11 = .int .i64 now' ∧ now ≤ now' ∧ now' ≤ now + 3 ∧ wx = wr.alloc (.cells #[.int .i64 ok, .int .i64 oid, .int .i64 orc, .int .i64 onx, .string osn, .string odm, .bool og, .bool ost] 58))
        case first =>
          by_cases hjl : (j : Int) < (ln : Int)
          · obtain ⟨bt, ot, rfl, hbt, htc⟩ := HRU.out.get (i := j) (by omega)
            obtain ⟨n, hn⟩ : ∃ n, n = g j := ⟨_, rfl⟩
            have t0 : wr.cell? ⟨bt, ot + j, none⟩ = some (.int .u8 n) := (HSI.out.kp.cell (ot + j) hbt (fun h => h)).trans (by rw [hn]; exact htc j (by omega))
            have lbt := Nat.lt_of_lt_of_le hbt HSI.out.kp.size
            obtain ⟨n0, n1⟩ := bounds_u8 (HWU.out j (by omega))
            rw [← hn] at n0 n1
            obtain ⟨q, hq⟩ : ∃ q, q = Int.tmod n 4 := ⟨_, rfl⟩
            have r1 : q = n % 4 := by rw [hq, Int.tmod_eq_emod_of_nonneg (by omega)]
            have w1' : IntKind.u8.wrap q = q := IntWalk.u8_in _ (by omega)
            have w2' : IntKind.i64.wrap q = q := IntWalk.i64_in _ (by omega)
            have w3' : IntKind.i64.wrap (now + q) = now + q := IntWalk.i64_in _ (by omega)
            have q4 : 0 ≤ q ∧ q ≤ 3 := by omega
            have hq' := hq.symm
            clear hn htc r1 hq
            go_wp2_with fail
            go_meet
            exact ⟨now + q, rfl, by omega, by omega, rfl⟩
          · go_wp2_with fail
            go_meet
            exact ⟨now, rfl, Int.le_refl _, by omega, rfl⟩
        case rest =>
          obtain ⟨now', rfl, hn1, hn2, rfl⟩ := hcut
          have HBIn := Lib.hid (HBI.out.later HSI.out.si hn0 hn1 (by omega))
          have hkw : Kp (fun _ => False) wr (wr.alloc (.cells #[.int .i64 ok, .int .i64 oid, .int .i64 orc, .int .i64 onx, .string osn, .string odm, .bool og, .bool ost] 58)) := (by repeat (first | exact Kp.refl _ _ | apply Kp.drew | apply Kp.drewN | refine Kp.setCell ?_ _ _ (Or.inl rfl) | apply Kp.alloc))
          have HSIn := Lib.hid (HSI.out.calm hkw)
          have HRWn := Lib.hid (HRW.out.calm hkw)
          have hob := heap_new (w := wr) (.cells #[.int .i64 ok, .int .i64 oid, .int .i64 orc, .int .i64 onx, .string osn, .string odm, .bool og, .bool ost] 58)
          obtain ⟨wo, hwo⟩ : ∃ wo, wo = wr.alloc (.cells #[.int .i64 ok, .int .i64 oid, .int .i64 orc, .int .i64 onx, .string osn, .string odm, .bool og, .bool ost] 58) := ⟨_, rfl⟩
          obtain ⟨bo, hbo⟩ : ∃ bo, bo = wr.heap.size := ⟨_, rfl⟩
          rw [← hwo] at HSIn HRWn ⊢
          rw [← hwo, ← hbo] at hob
          rw [← hbo]
          have HW1 := Lib.hid (show W.heap.size ≤ bo from by rw [hbo]; exact HSI.out.kp.size)
          have HCO := Lib.hid (show s.col bo = none from by
            cases hcc : s.col bo with
            | none => rfl
            | some c => have := HSI.out.si.lt bo (by rw [hcc]; rfl); omega)
          have o0 : wo.cell? ⟨bo, 0, none⟩ = some (.int .i64 ok) := (cell_of hob 0).trans rfl
          have o1 : wo.cell? ⟨bo, 1, none⟩ = some (.int .i64 oid) := (cell_of hob 1).trans rfl
          have o2 : wo.cell? ⟨bo, 2, none⟩ = some (.int .i64 orc) := (cell_of hob 2).trans rfl
          have o3 : wo.cell? ⟨bo, 3, none⟩ = some (.int .i64 onx) := (cell_of hob 3).trans rfl
          have o4 : wo.cell? ⟨bo, 4, none⟩ = some (.string osn) := (cell_of hob 4).trans rfl
          have o5 : wo.cell? ⟨bo, 5, none⟩ = some (.string odm) := (cell_of hob 5).trans rfl
          have o6 : wo.cell? ⟨bo, 6, none⟩ = some (.bool og) := (cell_of hob 6).trans rfl
          have o7 : wo.cell? ⟨bo, 7, none⟩ = some (.bool ost) := (cell_of hob 7).trans rfl
          clear hwo hbo hkw HSI HRW HBI g0 g1 g2 g3 g4 g5 g6 g7 hob
          go_upto_block 2 with fail
          go_cut [12, 13, 16, 17, 18, 19] from 45 to 202 (fun v12 v13 _ _ _ _ wx => ∃ (N' : Nat) (s' : Sd) (T' : List (Int × Int × ByteArray)) (B' : List (Int × ByteArray)), N' ≤ N + 1 ∧ SI W wx p s' N' ∧ BI s' now' B' ∧ Rw W wx s' v12 v13 T' B' ∧ B'.length ≤ B.length + 1 ∧ s'.c = s.c ∧ ∀ b ∈ B', 0 ≤ b.1 ∧ b.1 ≤ now')
          case first =>
            by_cases hk1 : ok = 1
            · subst hk1
              go_wp2_with fail
              refine (putB oid orc onx osn odm HSIn.out HBIn.out HO.out.1 HO.out.2.1 HO.out.2.2.2.2 (by omega)).mono ?_; rintro e w4 ⟨r4, N4, s4, rfl, hN4, hsi4, hst4, hbi4, hc4⟩
              have HRW4 := Lib.hid (HRWn.out.next hst4); have HSI4 := Lib.hid hsi4; have HBI4 := Lib.hid hbi4; have HC4 := Lib.hid hc4
              clear hst4 hsi4 hbi4 hc4
              go_wp2_with fail
              go_meet
              exact ⟨N4, s4, T, B, hN4, HSI4.out, HBI4.out, HRW4.out, by omega, HC4.out, fun b hb => by have := HBT.out b hb; omega⟩
            by_cases hk2 : ok = 2
            · subst hk2
              go_wp2_with fail
              refine (dropB oid orc HSIn.out HBIn.out HO.out.1 HO.out.2.1 (by omega)).mono ?_; rintro e w4 ⟨r4, N4, s4, rfl, hN4, hsi4, hst4, hbi4, hc4⟩
              have HRW4 := Lib.hid (HRWn.out.next hst4); have HSI4 := Lib.hid hsi4; have HBI4 := Lib.hid hbi4; have HC4 := Lib.hid hc4
              clear hst4 hsi4 hbi4 hc4
              go_wp2_with fail
              go_meet
              exact ⟨N4, s4, T, B, hN4, HSI4.out, HBI4.out, HRW4.out, by omega, HC4.out, fun b hb => by have := HBT.out b hb; omega⟩
            by_cases hk3 : ok = 3
            · subst hk3
              go_wp2_with fail
              refine (pickB HSIn.out HBIn.out (C_of (by omega) (by omega)) (by omega)).mono ?_; rintro e w4 ⟨s4, hsi4, hst4, hc4, hor⟩
              have HRW4 := Lib.hid (HRWn.out.next hst4); have HSI4 := Lib.hid hsi4; have HC4 := Lib.hid hc4
              clear hst4 hsi4 hc4
              rcases hor with ⟨rfl, hbi4⟩ | ⟨id, rc, d, rfl, hbi4⟩
              · have HBI4 := Lib.hid hbi4
                clear hbi4
                unfold z3
                go_wp2_with fail
                go_meet
                exact ⟨N, s4, T, B, by omega, HSI4.out.calm (by repeat (first | exact Kp.refl _ _ | apply Kp.drew | apply Kp.drewN | refine Kp.setCell ?_ _ _ (Or.inl rfl) | apply Kp.alloc)), HBI4.out, HRW4.out.calm (by repeat (first | exact Kp.refl _ _ | apply Kp.drew | apply Kp.drewN | refine Kp.setCell ?_ _ _ (Or.inl rfl) | apply Kp.alloc)), by omega, HC4.out, fun b hb => by have := HBT.out b hb; omega⟩
              · have HBI4 := Lib.hid hbi4
                clear hbi4
                obtain ⟨j0, hj, hj0, hj1, hj2⟩ := info_parts st_info
                obtain ⟨m0, hm, hm0, hm1, hm2⟩ := info_parts int_infoB
                go_upto_region 23 with fail
                have hx5 := heap_new (w := w4) (.cells #[.int .i64 id, .int .i64 rc, .string d] 66)
                have hkx : Kp (fun _ => False) w4 (w4.alloc (.cells #[.int .i64 id, .int .i64 rc, .string d] 66)) := (by repeat (first | exact Kp.refl _ _ | apply Kp.drew | apply Kp.drewN | refine Kp.setCell ?_ _ _ (Or.inl rfl) | apply Kp.alloc))
                have HSI5 := Lib.hid (HSI4.out.calm hkx)
                have HRW5 := Lib.hid (HRW4.out.calm hkx)
                obtain ⟨w5, hw5⟩ : ∃ w5, w5 = w4.alloc (.cells #[.int .i64 id, .int .i64 rc, .string d] 66) := ⟨_, rfl⟩
                obtain ⟨bx, hbx⟩ : ∃ bx, bx = w4.heap.size := ⟨_, rfl⟩
                rw [← hw5] at HSI5 HRW5 hx5 ⊢
                rw [← hbx] at hx5 ⊢
                have HX5 := Lib.hid hx5
                have HXA := Lib.hid (show ¬ (In u12 bx ∨ In u13 bx) from fun e => by rcases e with e | e; (have := HRW4.out.a.lt e; omega); (have := HRW4.out.b.lt e; omega))
                have x0 : w5.cell? ⟨bx, 0, none⟩ = some (.int .i64 id) := (cell_of hx5 0).trans rfl
                have x1 : w5.cell? ⟨bx, 1, none⟩ = some (.int .i64 rc) := (cell_of hx5 1).trans rfl
                have x2 : w5.cell? ⟨bx, 2, none⟩ = some (.string d) := (cell_of hx5 2).trans rfl
                clear hx5 hkx hw5 hbx
                have hT1 : T.length ≤ 150 := by have := HBL.out; have := HRW5.out.len; omega
                go_wp2_with (first | (at_builtin; refine wpList_append_prec _ rfl _ _ 52 rfl 66 j0 _ 3 32 Try.underlying52 hj hj0 hj1 hj2 rfl (by decide) _ T.length (Stc T) rfl (HRW5.out.a.alloc _) (some ⟨w5.heap.size, 0, none⟩) 1 1 [.int .i64 id, .int .i64 rc, .string d] rfl (fun h => by cases h) rfl lit_news three_cells (by have := HBL.out; have := HRW5.out.len; unfold maxLen; omega) (by have := HBL.out; have := HRW5.out.len; omega) ?_; intro v6 w6 hown6 hk6 hsn6 _; obtain ⟨g6, c6, rfl, _, hg6⟩ := own_shape hown6 (by omega); have hk6' : Kp (In u12) (w5.alloc (.cells #[.int .i64 id, .int .i64 rc, .string d] 66)) w6 := hk6; have hsn6' : SameOrNew (w5.alloc (.cells #[.int .i64 id, .int .i64 rc, .string d] 66)) u12 (.slice (some ⟨g6, 0, none⟩) (T.length + 1) c6) := hsn6; have HO6 := Lib.hid hown6; have HK6 := Lib.hid hk6'; have HSN6 := Lib.hid hsn6'; have HOB6 := Lib.hid ((HRW5.out.b.alloc _).keep hk6 (fun k h1 h2 => (HRW5.out.na k h2).2.2 h1)); clear hown6 hk6 hsn6 hk6' hsn6') | (at_builtin; refine wpList_append_prec _ rfl _ _ 81 rfl 3 m0 _ 1 8 Try.underlying81 hm hm0 hm1 hm2 rfl (by decide) _ B.length (B.map fun x => Value.int .i64 x.1) rfl (HOB6.out.alloc _) (some ⟨w6.heap.size, 0, none⟩) 1 1 [.int .i64 now'] rfl (fun h => by cases h) rfl lit_news one_int (by have := HBL.out; unfold maxLen; omega) (by have := HBL.out; omega) ?_; intro v7 w7 hown7 hk7 hsn7 _; obtain ⟨g7, c7, rfl, _, hg7⟩ := own_shape hown7 (by omega); have hk7' : Kp (In u13) (w6.alloc (.cells #[.int .i64 now'] 3)) w7 := hk7; have hsn7' : SameOrNew (w6.alloc (.cells #[.int .i64 now'] 3)) u13 (.slice (some ⟨g7, 0, none⟩) (B.length + 1) c7) := hsn7; have HO7 := Lib.hid hown7; have HK7 := Lib.hid hk7'; have HSN7 := Lib.hid hsn7'; clear hown7 hk7 hsn7 hk7' hsn7'))
                obtain ⟨hsi7, hrw7, hkp7⟩ := Rw.push (id, rc, d) (now', d) HRW5.out HSI5.out rfl (k1 := (by repeat (first | exact Kp.refl _ _ | apply Kp.drew | apply Kp.drewN | refine Kp.setCell ?_ _ _ (Or.inl rfl) | apply Kp.alloc))) HO6.out HK6.out HSN6.out (k3 := (by repeat (first | exact Kp.refl _ _ | apply Kp.drew | apply Kp.drewN | refine Kp.setCell ?_ _ _ (Or.inl rfl) | apply Kp.alloc))) HO7.out HK7.out HSN7.out
                have HX7 := Lib.hid (show w7.cell? ⟨bx, 2, none⟩ = some (.string d) ∧ bx < w7.heap.size from ⟨(cell_of (hkp7.keep HX5.out HXA.out) 2).trans rfl, Nat.lt_of_lt_of_le (lt_of_block HX5.out) hkp7.size⟩)
                obtain ⟨T', hT'⟩ : ∃ T', T' = T ++ [(id, rc, d)] := ⟨_, rfl⟩
                obtain ⟨B', hB'⟩ : ∃ B', B' = B ++ [(now', d)] := ⟨_, rfl⟩
                rw [← hT', ← hB'] at hrw7
                have HB7 := Lib.hid (show BI s4 now' B' from by rw [hB']; exact HBI4.out)
                have hbt7 : ∀ b ∈ B', 0 ≤ b.1 ∧ b.1 ≤ now' := by
                  rw [hB']; intro b hb
                  rcases List.mem_append.1 hb with hb | hb
                  · have := HBT.out b hb; omega
                  · obtain rfl := List.mem_singleton.1 hb
                    exact ⟨by show 0 ≤ now'; omega, by show now' ≤ now'; omega⟩
                have HSI7 := Lib.hid hsi7; have HRW7 := Lib.hid hrw7; have HBT7 := Lib.hid hbt7
                have HTL := Lib.hid (show T.length + 1 = T'.length from by rw [hT']; simp)
                have HBL7 := Lib.hid (show B.length + 1 = B'.length from by rw [hB']; simp)
                have HTB := Lib.hid (show T.length = B.length from HRW5.out.len)
                have HRU7 := Lib.hid (show r = V s4.c.rate ∧ u = V s4.c.burst from by rw [HC4.out, HCWs.out.2.1, HCWs.out.2.2]; exact ⟨HR.out, HU.out⟩)
                have hu1 : 1 ≤ u := by rw [HU.out]; exact V_lo _
                have hu2 : u ≤ 100 := by rw [HU.out]; exact V_hi _
                clear hsi7 hrw7 hbt7 hkp7 hT' hB' HO6 HK6 HSN6 HO7 HK7 HSN7 HOB6 HRW5 HRW4 HSI5 HSI4 HX5 HXA x0 x1 x2 hg6 hg7 HBI4 HSIn HRWn HBIn HBT
                go_loopg [18, 19] (T.length + 1) (fun kk n k w' => ∃ q : Nat, kk = q ∧ q ≤ T.length + 1 ∧ k = .int .i64 ((q : Int) - 1) ∧ n = .int .i64 (cD d (B'.drop q) : Nat) ∧ Kp (fun _ => False) w7 w')
                case atStart => exact ⟨T.length + 1, rfl, Nat.le_refl _, by congr 1; omega, by rw [cD_end d B' (by have h1 := HBL7.out; have h2 := HTB.out; omega)]; rfl, Kp.refl _ _⟩
                case round =>
                  obtain ⟨q, hkq, hq, rfl, rfl, hk8⟩ := hrel
                  have HKQ := Lib.hid hkq; have HK8 := Lib.hid hk8
                  clear hkq hk8
                  by_cases hq0 : q = 0
                  · subst hq0
                    have HSI8 := Lib.hid (HSI7.out.calm HK8.out); have HRW8 := Lib.hid (HRW7.out.calm HK8.out)
                    rw [show (((0 : Nat) : Int) - 1) = -1 from rfl]
                    go_wp2_with fail
                    go_meet
                    have HBL' := HBL7.out
                    exact ⟨N, s4, T', B', by omega, HSI8.out, HB7.out, HRW8.out, by omega, HC4.out, HBT7.out⟩
                  · obtain ⟨q', rfl⟩ : ∃ q', q = q' + 1 := ⟨q - 1, by omega⟩
                    rw [show (((q' + 1 : Nat) : Int) - 1) = (q' : Int) from by omega]
                    obtain ⟨pp, hp0, hp1, hp2, hp3, ht0, ht1⟩ := HB7.out.check HSI7.out.si (by omega) (by omega) HBT7.out (q := q') (by have h1 := HBL7.out; have h2 := HTB.out; omega) d
                    obtain ⟨ya, yb, lg6, lg7⟩ := HRW7.out.at HTL.out HBL7.out (q := q') (by have h1 := HBL7.out; have h2 := HTB.out; omega)
                    have hst := cD_step (d := d) (B := B') (q := q') (by have h1 := HBL7.out; have h2 := HTB.out; omega)
                    rw [← HRU7.out.1] at hp0
                    rw [← HRU7.out.2] at hp3
                    obtain ⟨cn, hcn⟩ : ∃ cn, cn = cD d (B'.drop (q' + 1)) := ⟨_, rfl⟩
                    obtain ⟨cm, hcm⟩ : ∃ cm, cm = cD d (B'.drop q') := ⟨_, rfl⟩
                    obtain ⟨bb, hbb⟩ : ∃ bb, bb = B'.getD q' b0 := ⟨_, rfl⟩
                    rw [← hbb] at hp0 ht0 ht1 ya yb hst
                    rw [← hcm] at hp3 hst
                    rw [← hcn] at hst ⊢
                    obtain ⟨bt, bd⟩ := bb
                    simp only at hp0 ht0 ht1 ya yb hst
                    have y0 := (HK8.out.cell (q' * 3 + 2) lg6 (fun h => h)).trans ya
                    have y1 := (HK8.out.cell q' lg7 (fun h => h)).trans yb
                    have y2 := (HK8.out.cell 2 HX7.out.2 (fun h => h)).trans HX7.out.1
                    have HCM := Lib.hid hcm
                    have hcl : cn ≤ 151 := by rw [hcn]; refine Nat.le_trans (cD_le _ _) ?_; rw [List.length_drop]; have h1 := HBL7.out; have h2 := HTB.out; omega
                    have l6 := Nat.lt_of_lt_of_le lg6 HK8.out.size
                    have l7 := Nat.lt_of_lt_of_le lg7 HK8.out.size
                    have q1 : (0 : Int) ≤ (q' : Int) := by omega
                    have q2 : (q' : Int) < (T.length : Int) + 1 := by omega
                    have q3 : (q' : Int) < (B.length : Int) + 1 := by have := HTB.out; omega
                    have e1 : IntKind.i64.wrap ((q' : Int) - 1) = (q' : Int) - 1 := IntWalk.i64_in _ (by omega)
                    have e2 : IntKind.i64.wrap (now' - bt) = now' - bt := IntWalk.i64_in _ (by omega)
                    have e3 : IntKind.i64.wrap (r * (now' - bt)) = pp := by rw [hp0]; exact IntWalk.i64_in _ (by omega)
                    have e4 : IntKind.i64.wrap (u + pp) = u + pp := IntWalk.i64_in _ (by omega)
                    have e5 : IntKind.i64.wrap ((cn : Int) + 1) = ((cn + 1 : Nat) : Int) := by rw [IntWalk.i64_in _ (by omega)]; omega
                    clear hcn hcm hbb ya yb hp0 lg6 lg7
                    by_cases hde : bd = d
                    · subst hde
                      rw [if_pos rfl] at hst
                      have HST := Lib.hid hst
                      have hch : ((cn + 1 : Nat) : Int) ≤ u + pp := by omega
                      clear hst hp3
                      go_wp2_with fail
                      go_quiet (fail)
                      have HK9 := Lib.hid (HK8.out.drewN nq)
                      go_wp2_with fail
                      go_roundg q'
                      case measure => have := HKQ.out; omega
                      case rel => exact ⟨q', rfl, by omega, rfl, by rw [← HCM.out, HST.out]; rfl, HK9.out⟩
                    · rw [if_neg hde] at hst
                      have HST := Lib.hid hst
                      have hch : (cn : Int) ≤ u + pp := by omega
                      have z1 := toList_ne hde
                      have z2 : (bd.toList == d.toList) = false := beq_eq_false_iff_ne.2 z1
                      clear hst hp3
                      go_wp2_with fail
                      go_quiet (fail)
                      have HK9 := Lib.hid (HK8.out.drewN nq)
                      go_wp2_with fail
                      go_roundg q'
                      case measure => have := HKQ.out; omega
                      case rel => exact ⟨q', rfl, by omega, rfl, by rw [← HCM.out, HST.out]; rfl, HK9.out⟩
            by_cases hk4 : ok = 4
            · subst hk4
              go_wp2_with fail
              refine (endB (i := oid) (n := onx) (good := og) (stays := ost) HSIn.out HBIn.out (by omega) (by omega) (by omega)).mono ?_; rintro e w4 ⟨v4, s4, rfl, hsi4, hst4, hc4, hbi4⟩
              have HRW4 := Lib.hid (HRWn.out.next hst4); have HSI4 := Lib.hid hsi4; have HBI4 := Lib.hid hbi4; have HC4 := Lib.hid hc4
              clear hst4 hsi4 hbi4 hc4
              go_wp2_with fail
              go_meet
              exact ⟨N, s4, T, B, by omega, HSI4.out, HBI4.out, HRW4.out, by omega, HC4.out, fun b hb => by have := HBT.out b hb; omega⟩
            · go_wp2_with fail
              go_meet
              exact ⟨N, s, T, B, by omega, HSIn.out, HBIn.out, HRWn.out, by omega, rfl, fun b hb => by have := HBT.out b hb; omega⟩
          case rest =>
            obtain ⟨N4, s4, T4, B4, hN4, hsi4, hbi4, hrw4, hBl4, hc4, hbt4⟩ := hcut
            have HSI4 := Lib.hid hsi4; have HBI4 := Lib.hid hbi4; have HRW4 := Lib.hid hrw4; have HC4 := Lib.hid hc4; have HBT4 := Lib.hid hbt4; have HBL4 := Lib.hid hBl4
            clear hsi4 hbi4 hrw4 hc4 hbt4 hBl4 HSIn HBIn HRWn
            go_wp2_with fail
            refine (sgoing_any p N4 s4 _ HSI4.out.si (by omega)).mono ?_; rintro e w5 ⟨v5, rfl, ho5, hk5⟩
            obtain ⟨a5, c5, rfl⟩ := (own_weaken ho5).slice
            obtain ⟨n5, hn5⟩ : ∃ n5, n5 = s4.G.length := ⟨_, rfl⟩
            rw [← hn5] at ho5 ⊢
            have HSI5 := Lib.hid (HSI4.out.calm hk5); have HRW5 := Lib.hid (HRW4.out.calm hk5); have HO5 := Lib.hid (own_weaken ho5); have HN5 := Lib.hid hn5
            have HB5 := Lib.hid (show n5 ≤ 171 from by rw [hn5]; exact Nat.le_trans (Nat.le_trans HSI4.out.si.glen HSI4.out.si.lw) (by omega))
            clear ho5 hk5 hn5 HSI4 HRW4
            go_wp2_with fail
            go_loopg [21] n5 (fun k i w6 => ∃ t : Nat, k = n5 - t ∧ t ≤ n5 ∧ i = .int .i64 t ∧ Kp (fun _ => False) w5 w6)
            case atStart => exact ⟨0, rfl, by omega, rfl, Kp.refl _ _⟩
            case round =>
              obtain ⟨t, hkt, ht, rfl, hk6⟩ := hrel
              have HKT := Lib.hid hkt; have HK6 := Lib.hid hk6
              clear hkt hk6
              by_cases hlt2 : (t : Int) < (n5 : Int)
              · obtain ⟨ga, ca, hae, _, hga⟩ := own_shape HO5.out (by omega)
                simp only [Value.slice.injEq] at hae
                obtain ⟨rfl, _, rfl⟩ := hae
                have HGA := Lib.hid (fun q (hq : q < n5) => show w5.cell? ⟨ga, q * 3 + 2, none⟩ = some (.string (dG (ab s4) q)) from by
                  obtain ⟨k, hk⟩ := starts_get (A := ab s4) (q := q) (by have h1 : n5 = (ab s4).G.length := HN5.out; omega)
                  exact HO5.out.cell (Stc_get hk).2.2)
                obtain ⟨dt, hdt⟩ : ∃ dt, dt = dG (ab s4) t := ⟨_, rfl⟩
                have ht5 := HGA.out t (by omega)
                rw [← hdt] at ht5
                have HT5 := Lib.hid ht5; have HDT := Lib.hid hdt
                have q7 : (0 : Int) ≤ (t : Int) := by omega
                clear ht5 hdt
                go_wp2_with fail
                go_loopg [22, 23] n5 (fun k nn i w7 => ∃ q : Nat, k = n5 - q ∧ q ≤ n5 ∧ i = .int .i64 q ∧ nn = .int .i64 (cT (ab s4) dt q) ∧ cT (ab s4) dt q ≤ q ∧ Kp (fun _ => False) w5 w7)
                case atStart => exact ⟨0, rfl, by omega, rfl, rfl, Nat.le_refl _, HK6.out⟩
                case round =>
                  obtain ⟨q, hkq, hq, rfl, rfl, hcq, hk7⟩ := hrel
                  have HKQ := Lib.hid hkq; have HK7 := Lib.hid hk7
                  clear hkq hk7
                  obtain ⟨cn, hcn⟩ : ∃ cn, cn = cT (ab s4) dt q := ⟨_, rfl⟩
                  rw [← hcn] at hcq ⊢
                  have HCN := Lib.hid hcn
                  clear hcn
                  have hb5 := HB5.out
                  by_cases hlt3 : (q : Int) < (n5 : Int)
                  · have y0 := (HK7.out.cell (q * 3 + 2) hga (fun h => h)).trans (HGA.out q (by omega))
                    have y1 := (HK7.out.cell (t * 3 + 2) hga (fun h => h)).trans HT5.out
                    have lga := Nat.lt_of_lt_of_le hga HK7.out.size
                    have hst := cT_step (A := ab s4) (q := q) (by have h1 : n5 = (ab s4).G.length := HN5.out; omega) dt
                    rw [← HCN.out] at hst
                    obtain ⟨dq, hdq⟩ : ∃ dq, dq = dG (ab s4) q := ⟨_, rfl⟩
                    rw [← hdq] at y0 hst
                    clear hdq
                    have q8 : (0 : Int) ≤ (q : Int) := by omega
                    have eq1 : IntKind.i64.wrap ((q : Int) + 1) = ((q + 1 : Nat) : Int) := by rw [IntWalk.i64_in _ (by omega)]; omega
                    have ec1 : IntKind.i64.wrap ((cn : Int) + 1) = ((cn + 1 : Nat) : Int) := by rw [IntWalk.i64_in _ (by omega)]; omega
                    by_cases hde : dq = dt
                    · subst hde
                      rw [if_pos rfl] at hst
                      have HST := Lib.hid hst
                      clear hst
                      go_wp2_with fail
                      go_quiet (fail)
                      have HK8 := Lib.hid (HK7.out.drewN nq)
                      go_wp2_with fail
                      go_roundg (n5 - (q + 1))
                      case measure => have := HKQ.out; omega
                      case rel => exact ⟨q + 1, rfl, by omega, rfl, by rw [HST.out]; rfl, by rw [HST.out]; omega, HK8.out⟩
                    · rw [if_neg hde] at hst
                      have HST := Lib.hid hst
                      have z1 := toList_ne hde
                      have z2 : (dq.toList == dt.toList) = false := beq_eq_false_iff_ne.2 z1
                      clear hst
                      go_wp2_with fail
                      go_quiet (fail)
                      have HK8 := Lib.hid (HK7.out.drewN nq)
                      go_wp2_with fail
                      go_roundg (n5 - (q + 1))
                      case measure => have := HKQ.out; omega
                      case rel => exact ⟨q + 1, rfl, by omega, rfl, by rw [HST.out]; rfl, by rw [HST.out]; omega, HK8.out⟩
                  · obtain rfl : n5 = q := by omega
                    have hce : vB s4 dt = (cn : Int) := by
                      rw [HBI4.out.cnt, HCN.out, cT_all]
                      exact Nat.le_of_eq HN5.out.symm
                    obtain ⟨wb1, wb2, wb3, wb4⟩ := HSI5.out.si.wins dt
                    have htp : V8 s4.c.win = tp := by rw [HC4.out, HCWs.out.1]; exact HTP.out.symm
                    rw [htp] at wb2
                    rw [hce] at wb4
                    obtain ⟨vn, hvn⟩ : ∃ vn, vn = vN s4 dt := ⟨_, rfl⟩
                    rw [← hvn] at wb1 wb2 wb4
                    have y1 := (HK7.out.cell (t * 3 + 2) hga (fun h => h)).trans HT5.out
                    have lga := Nat.lt_of_lt_of_le hga HK7.out.size
                    have hsz : dt.size ≤ maxLen := by rw [HDT.out]; exact dG_size HSI5.out.si (by have h1 : n5 = s4.G.length := HN5.out; omega)
                    have et1 : IntKind.i64.wrap ((t : Int) + 1) = ((t + 1 : Nat) : Int) := by rw [IntWalk.i64_in _ (by omega)]; omega
                    have HVN := Lib.hid hvn; have HCE := Lib.hid hce
                    clear hvn hce htp wb3
                    go_wp2_with fail
                    refine (swindow_any p N4 s4 dt _ (HSI5.out.calm HK7.out).si hsz).mono ?_; rintro e w8 ⟨rfl, hk8⟩
                    rw [HCE.out, ← HVN.out]
                    have HK8 := Lib.hid (HK7.out.trans hk8)
                    clear hk8 y1
                    go_wp2_with fail
                    go_roundg (n5 - (t + 1))
                    case measure => have := HKT.out; omega
                    case rel => exact ⟨t + 1, rfl, by omega, rfl, HK8.out⟩
              · have HSI6 := Lib.hid (HSI5.out.calm HK6.out); have HRW6 := Lib.hid (HRW5.out.calm HK6.out)
                have ej : IntKind.i64.wrap ((j : Int) + 1) = ((j + 1 : Nat) : Int) := by rw [IntWalk.i64_in _ (by omega)]; omega
                go_wp2_with fail
                go_roundg (len - (j + 1))
                case measure => have := HKk.out; omega
                case rel => exact ⟨j + 1, N4, now', s4, T4, B4, rfl, by omega, rfl, rfl, by omega, by omega, by omega, HSI6.out, HBI4.out, HRW6.out, by have := HBL4.out; have := HBL.out; omega, by rw [HC4.out]; exact HCWs.out, HBT4.out⟩
      · have hnl : ¬ (j : Int) < (len : Int) := hlt
        go_wp2_with fail
        refine (r22ans_any _).mono ?_; rintro e w6 ⟨rfl, hk6⟩
        have HKE := Lib.hid (HSI.out.kp.trans hk6)
        clear hk6
        go_wp2_with fail
        go_ret
        exact ⟨rfl, HKE.out.below (fun _ _ h => h)⟩
  · have hlf : (decide (L.length ≤ 20) && decide (len ≤ 150)) = false := by cases h : (decide (L.length ≤ 20) && decide (len ≤ 150)) with | false => rfl | true => exact absurd h hlight
    go_enter Try.func12, Try.ntmps12
    unfold Cc
    go_wp2_with fail
    refine (light_any ⟨host, .slice ar L.length cc, L, i1, i2, i3, i4, i5, i6, i7, i8, i9, i10⟩ ar ao len cap cc _ rfl).mono ?_; rintro e w1 ⟨rfl, hk1⟩
    have HK1 := Lib.hid (HK0.out.trans hk1)
    rw [show (decide ((⟨host, .slice ar L.length cc, L, i1, i2, i3, i4, i5, i6, i7, i8, i9, i10⟩ : Cf).L.length ≤ 20) && decide (len ≤ 150)) = false from hlf]
    clear hk1
    go_wp2_with fail
    refine (r22ans_any _).mono ?_; rintro e w2 ⟨rfl, hk2⟩
    have HK2 := Lib.hid (HK1.out.trans hk2)
    clear hk2
    go_wp2_with fail
    go_ret
    exact ⟨rfl, HK2.out.below (fun _ _ h => h)⟩
end Go.Proofs.Ytbiahndpfbmoeaa
