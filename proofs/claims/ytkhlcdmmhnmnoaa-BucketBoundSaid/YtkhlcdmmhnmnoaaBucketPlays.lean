/- BucketPlays: whatever is taken, whenever, is as the reference's bucket has it: the law returns true for every input. No condition. -/
import Derived.Test.YtkhlcdmmhnmnoaaBucketLaws
import Derived.Test.YtkhlcdmmhnmnoaaOpen
import Derived.Deep.RegionHeld3
namespace Go.Proofs.Ytkhlcdmmhnmnoaa
open Go.RowKit SatAid Go.ChangeShapes Go.WideShapes

theorem cells_int : Try.prog.cellsOf 3 = 1 := by kernel_rfl
theorem cells_bool : Try.prog.cellsOf 4 = 1 := by kernel_rfl
theorem max_lo {a b : Int} (h : 0 ≤ a) : 0 ≤ max a b := by omega
theorem now_again {r u l t n : Int} (hu : 1 ≤ u) (hu2 : u ≤ 100) (hr : 1 ≤ r) (hr2 : r ≤ 100) (hl : 0 ≤ l) (hl2 : l ≤ u) (ht : 0 ≤ t) (ht2 : t ≤ 1099511627776) : Lf r u l (max t (C n)) n = l := by
  have h0 := C_lo n; have h1 := C_hi n
  exact (Lf_end hr hr2 hu hu2 hl hl2 (by omega) (by omega) (Or.inl (by omega))).symm
theorem max_again {t n : Int} : max (max t (C n)) (C n) = max t (C n) := by omega

set_option maxHeartbeats 1600000 in
theorem bucketPlays_law {H : Type} {enc : TypeId × Value → H} (W : World) {base : Nat} (v0 v1 v2 v3 v4 : Value) (d0 d1 d2 d3 d4 : DataW H) (p0 p1 p2 p3 p4 : List MemPlace)
    (k0 : Value.okWide Try.prog W .any base 3 v0) (k1 : Value.okWide Try.prog W .any base 3 v1) (k2 : Value.okWide Try.prog W .any base 3 v2) (k3 : Value.okWide Try.prog W .any base 26 v3) (k4 : Value.okWide Try.prog W .any base 35 v4)
    (h0 : DataW.Trod enc Try.prog W 0 (fun _ => true) true 3 v0 d0 p0) (h1 : DataW.Trod enc Try.prog W 0 (fun _ => true) true 3 v1 d1 p1) (h2 : DataW.Trod enc Try.prog W 0 (fun _ => true) true 3 v2 d2 p2)
    (h3 : DataW.Trod enc Try.prog W 0 (fun _ => true) true 26 v3 d3 p3) (h4 : DataW.Trod enc Try.prog W 0 (fun _ => true) true 35 v4 d4 p4) :
    Calls Try.prog 9 #[v0, v1, v2, v3, v4] W fun e W' => e = .returned (.bool true) ∧ Below W.heap.size W W' := by
  obtain ⟨rr, rfl, rfl, rfl, _⟩ := open_int Try.underlying3 k0 h0
  obtain ⟨uu, rfl, rfl, rfl, _⟩ := open_int Try.underlying3 k1 h1
  obtain ⟨nn, rfl, rfl, rfl, _⟩ := open_int Try.underlying3 k2 h2
  obtain ⟨ao, len, cap, f, rfl, hcap, hlen, hrow, _⟩ := open_introw Try.underlying26 cells_int Try.underlying3 k3 h3
  obtain ⟨bo, len2, cap2, g, rfl, hcap2, hlen2, hrow2⟩ := open_boolrow Try.underlying35 cells_bool Try.underlying4 k4 h4
  clear h0 h1 h2 h3 h4 k0 k1 k2 k3 k4
  have HR1 := Lib.hid hrow; have HR2 := Lib.hid hrow2; clear hrow hrow2
  obtain ⟨r, hr⟩ : ∃ r, r = V rr := ⟨_, rfl⟩
  obtain ⟨u, hu⟩ : ∃ u, u = V uu := ⟨_, rfl⟩
  have r0 := V_lo rr; have r1 := V_hi rr; have u0 := V_lo uu; have u1 := V_hi uu
  rw [← hr] at r0 r1; rw [← hu] at u0 u1
  have HR := Lib.hid hr; have HU := Lib.hid hu; clear hr hu
  go_enter Try.func9, Try.ntmps9
  go_wp2_with fail
  refine (bnew_any _ _ _ _).mono ?_; rintro e w0 ⟨x, rfl, hx, hbx, hk0⟩
  rw [← HR.out, ← HU.out] at hbx
  have HX := Lib.hid hbx; clear hbx
  go_wp2_with fail
  refine (rnew_any _ _ _ _).mono ?_; rintro e w1 ⟨y, rfl, hy, hby, hk1⟩
  rw [← HR.out, ← HU.out] at hby
  have hlx := lt_of_block HX.out
  have HX0 := Lib.hid (hk1.keep HX.out (fun h => h)); clear HX
  have hxy : x < y := by omega
  have HY0 := Lib.hid hby; clear hby
  have HK0 := Lib.hid (hk0.trans hk1); clear hk0 hk1
  have c0 := C_lo nn; have c1 := C_hi nn
  by_cases hmany : 100 < len
  · go_wp2_with fail
    refine (kans_any _).mono ?_; rintro e w2 ⟨rfl, hk2⟩
    go_wp2_with fail
    go_ret
    exact ⟨rfl, (HK0.out.trans hk2).below (fun _ _ h => h)⟩
  go_wp2_with fail
  go_loopg [13] len (fun k i wr => ∃ (j : Nat) (l t : Int), k = len - j ∧ j ≤ len ∧ i = .int .i64 j ∧ 0 ≤ l ∧ l ≤ u ∧ 0 ≤ t ∧ t ≤ 1099511627776 ∧ wr.heap[x]? = some (.cells (Bk r u l t) 50 (0, 0)) ∧ wr.heap[y]? = some (.cells (Bk r u l t) 43 (0, 0)) ∧ Kp (fun _ => False) W wr)
  case atStart => exact ⟨0, u, C nn, by omega, by omega, rfl, by omega, by omega, c0, c1, HX0.out, HY0.out, HK0.out⟩
  case round =>
    obtain ⟨j, l, t, hk, hj, rfl, l0, l1, t0, t1, hX, hY, hkp⟩ := hrel
    have HX := Lib.hid hX; have HY := Lib.hid hY; have HK2 := Lib.hid hk; have HKP := Lib.hid hkp; clear hX hY hk hkp HX0 HY0 HK0
    by_cases hlt : j < len
    · obtain ⟨b, off, rfl, hb, hrow0⟩ := HR1.out.get hlt
      have HRW := Lib.hid hrow0; clear hrow0
      obtain ⟨n, hn⟩ : ∃ n, n = f j := ⟨_, rfl⟩
      have HC0 := Lib.hid (show W.cell? ⟨b, off + j, none⟩ = some (.int .i64 n) by rw [hn]; exact HRW.out j hlt)
      clear hn HRW
      have hc := (HKP.out.cell (off + j) hb (fun h => h)).trans HC0.out
      obtain ⟨L, hL⟩ : ∃ L, L = Lf r u l t n := ⟨_, rfl⟩
      obtain ⟨T, hT⟩ : ∃ T, T = max t (C n) := ⟨_, rfl⟩
      have L0 := Lf_lo (r := r) (l := l) (t := t) (n := n) (show 0 ≤ u by omega)
      have L1 := Lf_hi (r := r) (u := u) (l := l) (t := t) (n := n)
      have d0 := C_lo n; have d1 := C_hi n
      rw [← hL] at L0 L1
      have T0 : 0 ≤ T := by omega
      have T1 : T ≤ 1099511627776 := by omega
      have HL := Lib.hid hL; have HT := Lib.hid hT; clear hL hT
      go_wp2_with fail
      refine (rgo_any y r u l t n _ r0 r1 u0 u1 l0 l1 t0 t1 HY.out).mono ?_; rintro e w2 ⟨rfl, hY, hk2⟩
      rw [← HL.out, ← HT.out] at hY
      have HX2 := Lib.hid (hk2.keep HX.out (by omega))
      have HY2 := Lib.hid hY; clear hY
      have HKP2 := Lib.hid (HKP.out.trans_new hk2 (fun k h1 h2 => by have := HKP.out.size; omega))
      by_cases htk : j < len2
      · obtain ⟨b2, off2, rfl, hb2, hrow2⟩ := HR2.out.get htk
        have hc2 := (HKP2.out.cell (off2 + j) hb2 (fun h => h)).trans (hrow2 j htk)
        clear hrow2
        cases hgj : g j with
        | false =>
          rw [hgj] at hc2
          clear hgj
          have E1 := Lib.hid HL.out.symm
          have E2 := Lib.hid HT.out.symm
          have HXq := HX2; have HYq := HY2; have HKPq := HKP2
          have hcq := (HKPq.out.cell (off + j) hb (fun h => h)).trans HC0.out
          have cy := cell_of HYq.out 2
          simp only [Bk, List.getElem?_toArray, List.getElem?_cons_zero, List.getElem?_cons_succ] at cy
          have ly := lt_of_block HYq.out
          have lW := HKPq.out.size
          go_wp2_with fail
          go_region_held3 (fun w' => w'.cell? ⟨b, off + j, none⟩ = some (.int .i64 n) ∧ w'.cell? ⟨y, 2, none⟩ = some (.int .i64 L)) (first | exact ⟨hcq, cy⟩ | exact ⟨(hkq.cell (off + j) (Nat.lt_of_lt_of_le hb lW) (show ¬ b = x by omega)).trans hcq, (hkq.cell 2 ly (show ¬ y = x by omega)).trans cy⟩)
            (first | (go_at_call 29; refine (bleft_any x r u l t n _ (by exact HXq.out)).mono ?_; rintro e w9 ⟨rfl, hXq, hkq⟩; rw [E1.out, E2.out] at hXq; rw [E1.out]; have HXr := Lib.hid hXq; clear hXq))
          go_wp2_with fail
          go_roundg (len - (j + 1))
          case measure => rw [HK2.out]; omega
          case rel => exact ⟨j + 1, L, T, rfl, by omega, by go_num, L0, L1, T0, T1, HXr.out, hkq.keep (by exact HYq.out) (by omega), (HKPq.out.drew).trans_new hkq (fun k h1 h2 => by have h3 : k = x := h2; have h4 : W.heap.size ≤ x := hx; omega)⟩
        | true =>
          rw [hgj] at hc2
          clear hgj
          have hc3 := (HKP2.out.cell (off + j) hb (fun h => h)).trans HC0.out
          have cy := cell_of HY2.out 2
          simp only [Bk, List.getElem?_toArray, List.getElem?_cons_zero, List.getElem?_cons_succ] at cy
          have ly := lt_of_block HY2.out
          have lW := HKP2.out.size
          have hxW : W.heap.size ≤ x := hx
          by_cases hpos : 0 < L
          · have e1 : decide (0 < L) = true := decide_eq_true hpos
            have HTk := Lib.hid (show Tk r u l t n = true by unfold Tk; rw [← HL.out]; exact e1)
            have HTl := Lib.hid (show Tl r u l t n = L - 1 by unfold Tl; rw [← HL.out]; omega)
            go_wp2_with fail
            go_region_held3 (fun w' => w'.cell? ⟨b, off + j, none⟩ = some (.int .i64 n) ∧ w'.cell? ⟨y, 2, none⟩ = some (.int .i64 L)) (first | exact ⟨hc3, cy⟩ | exact ⟨(hkt.cell (off + j) (Nat.lt_of_lt_of_le hb lW) (show ¬ b = x by omega)).trans hc3, (hkt.cell 2 ly (show ¬ y = x by omega)).trans cy⟩)
              (first | (go_at_call 28; refine (btake_any x r u l t n _ (by omega) (by omega) (by exact HX2.out)).mono ?_; rintro e w9 ⟨rfl, hXt, hkt⟩; rw [HTl.out, ← HT.out] at hXt; rw [HTk.out]; have HXt := Lib.hid hXt; clear hXt))
            have HYt := Lib.hid (hkt.keep (by exact HY2.out) (show ¬ y = x by omega))
            have cyt := cell_of HYt.out 2
            simp only [Bk, List.getElem?_toArray, List.getElem?_cons_zero, List.getElem?_cons_succ] at cyt
            have fyt := frozen_of HYt.out 2
            have HKPt := Lib.hid ((HKP2.out.drew).trans_new hkt (fun k h1 h2 => by have h3 : k = x := h2; omega))
            have E1 := Lib.hid (show Lf r u (L - 1) T n = L - 1 by rw [HT.out]; exact now_again u0 u1 r0 r1 (by omega) (by omega) t0 t1)
            have E2 := Lib.hid (show max T (C n) = T by rw [HT.out]; exact max_again)
            have M0 : 0 ≤ L - 1 := by omega
            have M1 : L - 1 ≤ u := by omega
            go_wp2_with fail
            have HYq := Lib.hid (show (w9.setCell ⟨y, 2, none⟩ (.int .i64 (L - 1))).heap[y]? = some (.cells (Bk r u (L - 1) T) 43 (0, 0)) from heap_set HYt.out _)
            have HXq := Lib.hid (show (w9.setCell ⟨y, 2, none⟩ (.int .i64 (L - 1))).heap[x]? = some (.cells (Bk r u (L - 1) T) 50 (0, 0)) from (Below.heap_setCell w9 ⟨y, 2, none⟩ (.int .i64 (L - 1)) x (show x ≠ y by omega)).trans HXt.out)
            have HKPq := Lib.hid (HKPt.out.setCell ⟨y, 2, none⟩ (.int .i64 (L - 1)) (Or.inr (show W.heap.size ≤ y by omega)))
            clear cyt fyt cy ly lW hc3 hc2 hc
            have hcq := (HKPq.out.cell (off + j) hb (fun h => h)).trans HC0.out
            have cy := cell_of HYq.out 2
            simp only [Bk, List.getElem?_toArray, List.getElem?_cons_zero, List.getElem?_cons_succ] at cy
            have ly := lt_of_block HYq.out
            have lW := HKPq.out.size
            go_wp2_with fail
            go_region_held3 (fun w' => w'.cell? ⟨b, off + j, none⟩ = some (.int .i64 n) ∧ w'.cell? ⟨y, 2, none⟩ = some (.int .i64 (L - 1))) (first | exact ⟨hcq, cy⟩ | exact ⟨(hkq.cell (off + j) (Nat.lt_of_lt_of_le hb lW) (show ¬ b = x by omega)).trans hcq, (hkq.cell 2 ly (show ¬ y = x by omega)).trans cy⟩)
              (first | (go_at_call 29; refine (bleft_any x r u (L - 1) T n _ (by exact HXq.out)).mono ?_; rintro e w9 ⟨rfl, hXq, hkq⟩; rw [E1.out, E2.out] at hXq; rw [E1.out]; have HXr := Lib.hid hXq; clear hXq))
            go_wp2_with fail
            go_roundg (len - (j + 1))
            case measure => rw [HK2.out]; omega
            case rel => exact ⟨j + 1, (L - 1), T, rfl, by omega, by go_num, M0, M1, T0, T1, HXr.out, hkq.keep (by exact HYq.out) (by omega), (HKPq.out.drew).trans_new hkq (fun k h1 h2 => by have h3 : k = x := h2; have h4 : W.heap.size ≤ x := hx; omega)⟩
          · have e1 : decide (0 < L) = false := decide_eq_false hpos
            have HTk := Lib.hid (show Tk r u l t n = false by unfold Tk; rw [← HL.out]; exact e1)
            have HTl := Lib.hid (show Tl r u l t n = L by unfold Tl; rw [← HL.out]; omega)
            go_wp2_with fail
            go_region_held3 (fun w' => w'.cell? ⟨b, off + j, none⟩ = some (.int .i64 n) ∧ w'.cell? ⟨y, 2, none⟩ = some (.int .i64 L)) (first | exact ⟨hc3, cy⟩ | exact ⟨(hkt.cell (off + j) (Nat.lt_of_lt_of_le hb lW) (show ¬ b = x by omega)).trans hc3, (hkt.cell 2 ly (show ¬ y = x by omega)).trans cy⟩)
              (first | (go_at_call 28; refine (btake_any x r u l t n _ (by omega) (by omega) (by exact HX2.out)).mono ?_; rintro e w9 ⟨rfl, hXt, hkt⟩; rw [HTl.out, ← HT.out] at hXt; rw [HTk.out]; have HXt := Lib.hid hXt; clear hXt))
            have HYt := Lib.hid (hkt.keep (by exact HY2.out) (show ¬ y = x by omega))
            have cyt := cell_of HYt.out 2
            simp only [Bk, List.getElem?_toArray, List.getElem?_cons_zero, List.getElem?_cons_succ] at cyt
            have HKPt := Lib.hid ((HKP2.out.drew).trans_new hkt (fun k h1 h2 => by have h3 : k = x := h2; omega))
            have E1 := Lib.hid (show Lf r u L T n = L by rw [HT.out]; exact now_again u0 u1 r0 r1 L0 L1 t0 t1)
            have E2 := Lib.hid (show max T (C n) = T by rw [HT.out]; exact max_again)
            go_wp2_with fail
            have HYq := HYt; have HXq := HXt; have HKPq := HKPt
            clear cyt cy ly lW hc3 hc2 hc
            have hcq := (HKPq.out.cell (off + j) hb (fun h => h)).trans HC0.out
            have cy := cell_of HYq.out 2
            simp only [Bk, List.getElem?_toArray, List.getElem?_cons_zero, List.getElem?_cons_succ] at cy
            have ly := lt_of_block HYq.out
            have lW := HKPq.out.size
            go_wp2_with fail
            go_region_held3 (fun w' => w'.cell? ⟨b, off + j, none⟩ = some (.int .i64 n) ∧ w'.cell? ⟨y, 2, none⟩ = some (.int .i64 L)) (first | exact ⟨hcq, cy⟩ | exact ⟨(hkq.cell (off + j) (Nat.lt_of_lt_of_le hb lW) (show ¬ b = x by omega)).trans hcq, (hkq.cell 2 ly (show ¬ y = x by omega)).trans cy⟩)
              (first | (go_at_call 29; refine (bleft_any x r u L T n _ (by exact HXq.out)).mono ?_; rintro e w9 ⟨rfl, hXq, hkq⟩; rw [E1.out, E2.out] at hXq; rw [E1.out]; have HXr := Lib.hid hXq; clear hXq))
            go_wp2_with fail
            go_roundg (len - (j + 1))
            case measure => rw [HK2.out]; omega
            case rel => exact ⟨j + 1, L, T, rfl, by omega, by go_num, L0, L1, T0, T1, HXr.out, hkq.keep (by exact HYq.out) (by omega), (HKPq.out.drew).trans_new hkq (fun k h1 h2 => by have h3 : k = x := h2; have h4 : W.heap.size ≤ x := hx; omega)⟩
      · have E1 := Lib.hid HL.out.symm
        have E2 := Lib.hid HT.out.symm
        have HXq := HX2; have HYq := HY2; have HKPq := HKP2
        have hcq := (HKPq.out.cell (off + j) hb (fun h => h)).trans HC0.out
        have cy := cell_of HYq.out 2
        simp only [Bk, List.getElem?_toArray, List.getElem?_cons_zero, List.getElem?_cons_succ] at cy
        have ly := lt_of_block HYq.out
        have lW := HKPq.out.size
        go_wp2_with fail
        go_region_held3 (fun w' => w'.cell? ⟨b, off + j, none⟩ = some (.int .i64 n) ∧ w'.cell? ⟨y, 2, none⟩ = some (.int .i64 L)) (first | exact ⟨hcq, cy⟩ | exact ⟨(hkq.cell (off + j) (Nat.lt_of_lt_of_le hb lW) (show ¬ b = x by omega)).trans hcq, (hkq.cell 2 ly (show ¬ y = x by omega)).trans cy⟩)
          (first | (go_at_call 29; refine (bleft_any x r u l t n _ (by exact HXq.out)).mono ?_; rintro e w9 ⟨rfl, hXq, hkq⟩; rw [E1.out, E2.out] at hXq; rw [E1.out]; have HXr := Lib.hid hXq; clear hXq))
        go_wp2_with fail
        go_roundg (len - (j + 1))
        case measure => rw [HK2.out]; omega
        case rel => exact ⟨j + 1, L, T, rfl, by omega, by go_num, L0, L1, T0, T1, HXr.out, hkq.keep (by exact HYq.out) (by omega), (HKPq.out.drew).trans_new hkq (fun k h1 h2 => by have h3 : k = x := h2; have h4 : W.heap.size ≤ x := hx; omega)⟩
    · go_wp2_with fail
      refine (kans_any _).mono ?_; rintro e w2 ⟨rfl, hk2⟩
      go_wp2_with fail
      go_ret
      exact ⟨rfl, (HKP.out.trans hk2).below (fun _ _ h => h)⟩
end Go.Proofs.Ytkhlcdmmhnmnoaa
