/- BucketBound: in any span of ticks no more are taken than burst, and rate for each tick: the law returns true for every input. No condition. -/
import Derived.Test.YtkhlcdmmhnmnoaaBucketPlays
namespace Go.Proofs.Ytkhlcdmmhnmnoaa
open Go.RowKit SatAid Go.ChangeShapes Go.WideShapes
attribute [local go_sem] Mm.max2_int Mm.min2_int Mm.max_two Mm.min_two

theorem cells_u8 : Try.prog.cellsOf 5 = 1 := by kernel_rfl
theorem int_info : (Try.prog.info? 3).map (fun i => (i.zero, i.size, i.bytes)) = some (some (.int .i64 0), 1, 8) := by kernel_rfl

/-- in every span that ends now no more were taken than fits, what is left counted too -/
def Spans (x y : Int) (G : List Int) (R : Int) : Prop := ∀ k, k < G.length → (G.drop k).sum + R ≤ y + x * ((G.length : Int) - 1 - k)
theorem sum_snoc (l : List Int) (n : Int) : (l ++ [n]).sum = l.sum + n := by simp
theorem spans_snoc {x y R R' n : Int} {G : List Int} (h : Spans x y G R) (h1 : G ≠ [] → R' ≤ R + x) (h2 : R' ≤ y) : Spans x y (G ++ [n]) (R' - n) := by
  intro k hk
  rw [List.length_append, List.length_singleton] at hk
  rw [List.length_append, List.length_singleton]
  by_cases e : k = G.length
  · subst e
    rw [List.drop_append_of_le_length (by omega), List.drop_length, List.nil_append]
    have e2 : ((G.length + 1 : Nat) : Int) - 1 - (G.length : Int) = 0 := by omega
    rw [e2, Int.mul_zero]
    simp only [List.sum_cons, List.sum_nil]; omega
  · have hk' : k < G.length := by omega
    have := h k hk'
    have h3 := h1 (by intro hn; rw [hn] at hk'; simp at hk')
    rw [List.drop_append_of_le_length (by omega), sum_snoc]
    have e2 : ((G.length + 1 : Nat) : Int) - 1 - (k : Int) = ((G.length : Int) - 1 - k) + 1 := by omega
    rw [e2, Int.mul_add, Int.mul_one]
    omega
theorem sum_bounds {l : List Int} (h : ∀ z ∈ l, 0 ≤ z ∧ z ≤ 255) : 0 ≤ l.sum ∧ l.sum ≤ 255 * (l.length : Int) := by
  induction l with
  | nil => simp
  | cons a l ih =>
    have h1 := h a (by simp)
    have h2 := ih (fun z hz => h z (by simp [hz]))
    simp only [List.sum_cons, List.length_cons]
    omega
theorem Lf_tick {r u l t : Int} {i : Nat} (hr : 1 ≤ r) (hr2 : r ≤ 100) (hu : 1 ≤ u) (hu2 : u ≤ 100) (hl : 0 ≤ l) (hl2 : l ≤ u) (ht : 0 ≤ t) (hti : t ≤ (i : Int)) (hi : i ≤ 1000) : Lf r u l t ((i : Int) + 1) ≤ Lf r u l t i + r := by
  rw [Lf_eq hr hr2 hu hu2 hl hl2 ht (by omega), Lf_eq hr hr2 hu hu2 hl hl2 ht (by omega), C_of (n := (i : Int) + 1) (by omega) (by omega), C_of (n := (i : Int)) (by omega) (by omega)]
  have e1 : max ((i : Int) + 1 - t) 0 = max ((i : Int) - t) 0 + 1 := by omega
  rw [e1, Int.mul_add, Int.mul_one]
  omega
theorem Tl_eq_any (r l t n : Int) {u : Int} (hu : 1 ≤ u) : 0 ≤ Tl r u l t n ∧ Tl r u l t n ≤ u := by
  have h1 := Lf_hi (r := r) (u := u) (l := l) (t := t) (n := n)
  unfold Tl; omega
/-- of a bucket that waits long enough burst -/
theorem Lf_full {r u l t : Int} (hr : 1 ≤ r) (hr2 : r ≤ 100) (hu : 1 ≤ u) (hu2 : u ≤ 100) (hl : 0 ≤ l) (hl2 : l ≤ u) (ht : 0 ≤ t) (hti : t ≤ 60) : Lf r u l t 1000 = u := by
  rw [Lf_eq hr hr2 hu hu2 hl hl2 ht (by omega), C_of (n := 1000) (by omega) (by omega)]
  have : 1 * max (1000 - t) 0 ≤ r * max (1000 - t) 0 := Int.mul_le_mul_of_nonneg_right hr (by omega)
  omega

set_option maxHeartbeats 1600000 in
theorem bucketBound_law {H : Type} {enc : TypeId × Value → H} (W : World) {base : Nat} (v0 v1 v2 : Value) (d0 d1 d2 : DataW H) (p0 p1 p2 : List MemPlace)
    (k0 : Value.okWide Try.prog W .any base 5 v0) (k1 : Value.okWide Try.prog W .any base 5 v1) (k2 : Value.okWide Try.prog W .any base 45 v2)
    (h0 : DataW.Trod enc Try.prog W 0 (fun _ => true) true 5 v0 d0 p0) (h1 : DataW.Trod enc Try.prog W 0 (fun _ => true) true 5 v1 d1 p1) (h2 : DataW.Trod enc Try.prog W 0 (fun _ => true) true 45 v2 d2 p2) :
    Calls Try.prog 10 #[v0, v1, v2] W fun e W' => e = .returned (.bool true) ∧ Below W.heap.size W W' := by
  obtain ⟨rr, rfl, rfl, rfl, wr0⟩ := open_int Try.underlying5 k0 h0
  obtain ⟨uu, rfl, rfl, rfl, wu0⟩ := open_int Try.underlying5 k1 h1
  obtain ⟨ao, len, cap, f, rfl, hcap, hlen, hrow, hwf⟩ := open_introw Try.underlying45 cells_u8 Try.underlying5 k2 h2
  obtain ⟨ra, rb⟩ := bounds_u8 wr0
  obtain ⟨ua, ub⟩ := bounds_u8 wu0
  clear h0 h1 h2 k0 k1 k2 wr0 wu0
  have HR1 := Lib.hid hrow; have HW1 := Lib.hid hwf; clear hrow hwf
  obtain ⟨i0, hi, hz0, hz1, hz2⟩ := info_parts int_info
  obtain ⟨r, hr⟩ : ∃ r, r = V rr := ⟨_, rfl⟩
  obtain ⟨u, hu⟩ : ∃ u, u = V uu := ⟨_, rfl⟩
  have r0 := V_lo rr; have r1 := V_hi rr; have u0 := V_lo uu; have u1 := V_hi uu
  rw [← hr] at r0 r1; rw [← hu] at u0 u1
  have HR := Lib.hid hr; have HU := Lib.hid hu; clear hr hu
  by_cases hmany : 60 < len
  · go_enter Try.func10, Try.ntmps10
    go_wp2_with fail
    refine (kans_any _).mono ?_; rintro e w2 ⟨rfl, hk2⟩
    go_wp2_with fail
    go_ret
    exact ⟨rfl, hk2.below (fun _ _ h => h)⟩
  have er : min (max rr 1) 100 = r := HR.out.symm
  have eu : min (max uu 1) 100 = u := HU.out.symm
  go_enter Try.func10, Try.ntmps10
  go_wp2_with fail
  refine (bnew_any _ _ _ _).mono ?_; rintro e w0 ⟨x, rfl, hx, hbx, hk0⟩
  rw [← HR.out, ← HU.out] at hbx
  replace hbx : w0.heap[x]? = some (.cells (Bk r u u 0) 50 (0, 0)) := hbx
  have HX0 := Lib.hid hbx; clear hbx
  have HK0 := Lib.hid hk0; clear hk0
  have hx0 := lt_of_block HX0.out
  go_wp2_with fail
  clear er eu
  obtain ⟨B, hB⟩ : ∃ B, B = w0.heap.size := ⟨_, rfl⟩
  have HB := Lib.hid hB; clear hB
  go_loopg [10, 11] len (fun k v i wr => ∃ (j : Nat) (G : List Int) (l t : Int), k = len - j ∧ j ≤ len ∧ i = .int .i64 j ∧ G.length = j ∧ (∀ z ∈ G, 0 ≤ z ∧ z ≤ 255) ∧ Spans r u G (Lf r u l t ((j : Int) - 1)) ∧ 0 ≤ l ∧ l ≤ u ∧ 0 ≤ t ∧ (t = 0 ∨ t ≤ (j : Int) - 1) ∧
      wr.heap[x]? = some (.cells (Bk r u l t) 50 (0, 0)) ∧ wr.ownsRow B 3 1 v G.length (G.map (Value.int .i64)) ∧ Kp (fun _ => False) W wr ∧ B ≤ wr.heap.size)
  case atStart => exact ⟨0, [], u, 0, by omega, by omega, rfl, rfl, by simp, fun k hk => by simp at hk, by omega, by omega, by omega, Or.inl rfl, HX0.out, World.ownsRow_nil _ _ _ _, HK0.out, by rw [HB.out]; exact Nat.le_refl _⟩
  case round =>
    obtain ⟨j, G, l, t, hk, hj, rfl, hG, hGz, hsp, l0, l1, t0, ht, hX, hown, hkp, hBs⟩ := hrel
    have hxB : x < B := by rw [HB.out]; exact hx0
    have HX := Lib.hid hX; have HG := Lib.hid hG; have HGz := Lib.hid hGz; have HSP := Lib.hid hsp; have HOWN := Lib.hid hown; have HKP := Lib.hid hkp; have HKk := Lib.hid hk
    clear hX hG hGz hsp hown hkp hk
    by_cases hlt : j < len
    · obtain ⟨b, off, rfl, hb, hrow0⟩ := HR1.out.get hlt
      obtain ⟨n, hn⟩ : ∃ n, n = f j := ⟨_, rfl⟩
      have HC0 := Lib.hid (show W.cell? ⟨b, off + j, none⟩ = some (.int .u8 n) by rw [hn]; exact hrow0 j hlt)
      obtain ⟨n0, n1⟩ := bounds_u8 (HW1.out j hlt)
      rw [← hn] at n0 n1
      clear hn hrow0
      have t1 : t ≤ (j : Int) := by omega
      have hj60 : j < 60 := by omega
      obtain ⟨R, hR⟩ : ∃ R, R = Lf r u l t j := ⟨_, rfl⟩
      have R0 := Lf_lo (r := r) (l := l) (t := t) (n := j) (show 0 ≤ u by omega)
      have R1 := Lf_hi (r := r) (u := u) (l := l) (t := t) (n := j)
      rw [← hR] at R0 R1
      have HRR := Lib.hid hR; clear hR
      have lW := HKP.out.size
      have hbx : ¬ b = x := by omega
      obtain ⟨ws, hws⟩ : ∃ ws : World, ws = wr := ⟨_, rfl⟩
      rw [← hws]
      rw [← hws] at HX HOWN HKP hBs lW
      clear hws
      go_wp2_with fail
      go_loopg [12, 13] (n.toNat) (fun k sn sk wi => ∃ (m nn : Nat) (l' t' : Int), k = n.toNat - m ∧ m ≤ n.toNat ∧ sk = .int .i64 m ∧ sn = .int .i64 nn ∧ nn ≤ m ∧ 0 ≤ l' ∧ l' ≤ u ∧ 0 ≤ t' ∧ t' ≤ (j : Int) ∧ Lf r u l' t' j = R - nn ∧
          wi.heap[x]? = some (.cells (Bk r u l' t') 50 (0, 0)) ∧ Kp (· = x) ws wi)
      case atStart => exact ⟨0, 0, l, t, by omega, by omega, rfl, rfl, by omega, l0, l1, t0, t1, by rw [← HRR.out]; omega, HX.out, Kp.refl _ _⟩
      case round =>
        obtain ⟨m, nn, l', t', hk', hm, rfl, rfl, hnn, l0', l1', t0', t1', hLf, hX', hkp'⟩ := hrel
        have HX2 := Lib.hid hX'; have HKP2 := Lib.hid hkp'; have HLf := Lib.hid hLf; have HKk2 := Lib.hid hk'
        clear hX' hkp' hLf hk'
        have hc := ((HKP2.out.cell (off + j) (Nat.lt_of_lt_of_le hb lW) hbx).trans (HKP.out.cell (off + j) hb (fun h => h))).trans HC0.out
        by_cases hm2 : (m : Int) < n
        · have hTl := Lib.hid (show Lf r u (Tl r u l' t' j) (max t' (C j)) j = Tl r u l' t' j from now_again u0 u1 r0 r1 (Tl_eq_any r l' t' j u0).1 (Tl_eq_any r l' t' j u0).2 t0' (by omega))
          obtain ⟨q0, q1⟩ := Tl_eq_any r l' t' j u0
          have hcj : C (j : Int) = j := C_of (by omega) (by omega)
          have HT := Lib.hid (show max t' (C (j : Int)) ≤ (j : Int) by rw [hcj]; omega)
          have HT0 := Lib.hid (show 0 ≤ max t' (C (j : Int)) by omega)
          clear hcj
          by_cases hpos : 0 < R - nn
          · have HTk := Lib.hid (show Tk r u l' t' j = true by unfold Tk; rw [HLf.out]; exact decide_eq_true hpos)
            have HTv := Lib.hid (show Tl r u l' t' j = R - (nn + 1 : Nat) by unfold Tl; rw [HLf.out]; omega)
            go_wp2_with fail
            refine (btake_any x r u l' t' j _ (by omega) (by omega) HX2.out).mono ?_; rintro e w3 ⟨rfl, hX3, hk3⟩
            rw [HTk.out]
            have HX3 := Lib.hid hX3; clear hX3
            have hnn' : (nn : Int) ≤ 255 := by omega
            go_wp2_with fail
            go_roundg (n.toNat - (m + 1))
            case measure => rw [HKk2.out]; omega
            case rel => exact ⟨m + 1, nn + 1, _, _, rfl, by omega, by go_num, by go_num, by omega, q0, q1, HT0.out, HT.out, hTl.out.trans HTv.out, HX3.out, HKP2.out.trans hk3⟩
          · have HTk := Lib.hid (show Tk r u l' t' j = false by unfold Tk; rw [HLf.out]; exact decide_eq_false hpos)
            have hge : 0 ≤ R - nn := by rw [← HLf.out]; exact Lf_lo (by omega)
            have HTv := Lib.hid (show Tl r u l' t' j = R - (nn : Nat) by unfold Tl; rw [HLf.out]; omega)
            go_wp2_with fail
            refine (btake_any x r u l' t' j _ (by omega) (by omega) HX2.out).mono ?_; rintro e w3 ⟨rfl, hX3, hk3⟩
            rw [HTk.out]
            have HX3 := Lib.hid hX3; clear hX3
            go_wp2_with fail
            go_roundg (n.toNat - (m + 1))
            case measure => rw [HKk2.out]; omega
            case rel => exact ⟨m + 1, nn, _, _, rfl, by omega, by go_num, rfl, by omega, q0, q1, HT0.out, HT.out, hTl.out.trans HTv.out, HX3.out, HKP2.out.trans hk3⟩
        · have hge : 0 ≤ R - nn := by rw [← HLf.out]; exact Lf_lo (by omega)
          have hown2 := own_keep HOWN.out HKP2.out (fun k h1 h2 => by have h3 : k = x := h2; omega)
          have hBi : B ≤ wr.heap.size := Nat.le_trans hBs HKP2.out.size
          have hGl : G.length ≤ 60 := by rw [HG.out]; omega
          go_wp2_with (at_builtin; refine wpList_append_own _ rfl _ _ 26 rfl B 3 i0 (.int .i64 0) 1 8 Try.underlying26 hi hz0 hz1 hz2 rfl (by decide) _ _ _ rfl (hown2.alloc _) ⟨wr.heap.size, 0, none⟩ 1 1 [.int .i64 nn] rfl rfl one_news one_int (by unfold maxLen; omega) (by omega) (by simp; omega) ?_)
          · intro v' w4 hown4 hgrow _
            obtain ⟨g, cap', rfl, hg1, hg2⟩ := own_shape hown4 (by omega)
            have hlt4 := hown2.lt
            have HK4 := Lib.hid ((HKP2.out.trans_new (S := (· = x)) ((Kp.refl (fun _ => False) wr).alloc (.cells #[.int .i64 nn] 3)) (fun k _ h => h.elim)))
            have HX4 := Lib.hid (show w4.heap[x]? = some (.cells (Bk r u l' t') 50 (0, 0)) from (Kp.of_grown hgrow).keep (heap_old _ HX2.out) (fun h => by
              obtain ⟨h5, _⟩ := hlt4 x h.symm; omega))
            have HKP4 := Lib.hid (show Kp (fun _ => False) W w4 from (HKP.out.trans_new HK4.out (fun k h1 h2 => by have h3 : k = x := h2; have h4 : W.heap.size ≤ x := hx; omega)).trans_new (Kp.of_grown hgrow) (fun k h1 h2 => by
              obtain ⟨h5, _⟩ := hlt4 k h2.symm; have h4 : W.heap.size ≤ x := hx; omega))
            have hB4 : B ≤ w4.heap.size := by omega
            obtain ⟨G', hG'⟩ : ∃ G', G' = G ++ [(nn : Int)] := ⟨_, rfl⟩
            have hown5 : w4.ownsRow B 3 1 (.slice (some ⟨g, 0, none⟩) (G.length + 1) cap') (G.length + 1) (G'.map (Value.int .i64)) := by rw [hG']; simpa using hown4
            have HO4 := Lib.hid hown5; clear hown4 hown5 hgrow hown2 hlt4
            have hsp' : Spans r u G' (R - nn) := by
              rw [hG']
              refine spans_snoc HSP.out (fun hne => ?_) R1
              have hj1 : 1 ≤ j := by rw [← HG.out]; cases hGe : G with | nil => exact absurd hGe hne | cons a l => simp
              have := Lf_tick (i := j - 1) r0 r1 u0 u1 l0 l1 t0 (show t ≤ ((j - 1 : Nat) : Int) by omega) (by omega)
              rw [show ((j - 1 : Nat) : Int) = (j : Int) - 1 from by omega, show (j : Int) - 1 + 1 = j from by omega] at this
              rw [HRR.out]; exact this
            have hz' : ∀ z ∈ G', 0 ≤ z ∧ z ≤ 255 := by
              intro z hz
              rw [hG', List.mem_append, List.mem_singleton] at hz
              rcases hz with hz | rfl
              · exact HGz.out z hz
              · omega
            have hl' : G'.length = j + 1 := by rw [hG', List.length_append, HG.out]; rfl
            have HSP' := Lib.hid hsp'; have HZ' := Lib.hid hz'; have HL' := Lib.hid hl'
            clear hG' hsp' hz' hl'
            rw [HG.out] at HO4 ⊢
            go_wp2_with fail
            go_loop [14, 15] (fun ss sk => ∃ (q : Nat) (sm : Int), q ≤ j + 1 ∧ ((q = 0 ∧ sk = .int .i64 (-1)) ∨ ∃ q' : Nat, q = q' + 1 ∧ sk = .int .i64 q') ∧ ss = .int .i64 sm ∧ Hid (sm = (G'.drop q).sum)) (fun _ sk => (intOf sk + 1).toNat)
            case atStart => exact ⟨j + 1, 0, Nat.le_refl _, Or.inr ⟨j, rfl, rfl⟩, rfl, Lib.hid (by rw [← HL'.out, List.drop_length]; rfl)⟩
            case round =>
              obtain ⟨q, sm, hq, hqq, rfl, hsm⟩ := hrel
              rcases hqq with ⟨hq0, rfl⟩ | ⟨q', hq1, rfl⟩
              · clear hq0
                go_wp2_with fail
                go_roundg (len - (j + 1))
                case measure => rw [HKk.out]; omega
                case rel =>
                  have e : ((j + 1 : Nat) : Int) - 1 = j := by omega
                  exact ⟨j + 1, G', l', t', rfl, by omega, by go_num, HL'.out, HZ'.out, by rw [e, HLf.out]; exact HSP'.out, l0', l1', t0', Or.inr (by omega), HX4.out, by rw [HL'.out]; exact HO4.out, HKP4.out, hB4⟩
              · subst hq1
                have hq2 : q' < G'.length := by rw [HL'.out]; omega
                obtain ⟨z, hz⟩ : ∃ z, z = G'[q'] := ⟨_, rfl⟩
                have hcell : w4.cell? ⟨g, q', none⟩ = some (.int .i64 z) := by
                  rw [HO4.out.cellAt q' (by omega), List.getElem?_map, List.getElem?_eq_getElem hq2, hz]; rfl
                obtain ⟨z0, z1⟩ := HZ'.out z (by rw [hz]; exact List.getElem_mem hq2)
                obtain ⟨s0, s1⟩ := sum_bounds (l := G'.drop (q' + 1)) (fun y hy => HZ'.out y (List.mem_of_mem_drop hy))
                rw [← hsm.out, List.length_drop, HL'.out] at s1
                rw [← hsm.out] at s0
                have hsum : sm + z = (G'.drop q').sum := by
                  rw [List.drop_eq_getElem_cons hq2, List.sum_cons, ← hz, ← hsm.out]; omega
                have hspq := HSP'.out q' hq2
                rw [← hsum, HL'.out, show ((j + 1 : Nat) : Int) - 1 - (q' : Int) = (j : Int) - q' from by omega] at hspq
                have hle : sm + z ≤ u + r * ((j : Int) - q') := by omega
                have p0 : 0 ≤ r * ((j : Int) - q') := Int.mul_nonneg (by omega) (by omega)
                have p1 : r * ((j : Int) - q') ≤ 100 * 60 := Int.mul_le_mul r1 (by omega) (by omega) (by omega)
                have p2 : r * ((j : Int) - q') ≤ 6000 := by omega
                have hs2 : sm ≤ 20000 := by omega
                have HSM := Lib.hid hsum
                clear hz hsum hspq p1 s1 hq2 hsm
                go_wp2_with fail
                go_round
                case rel =>
                  refine ⟨q', sm + z, by omega, ?_, rfl, HSM⟩
                  cases q' with
                  | zero => exact Or.inl ⟨rfl, by go_num⟩
                  | succ q'' => exact Or.inr ⟨q'', rfl, by go_num⟩
                case measure => simp [intOf]
    · have HF := Lib.hid (Lf_full r0 r1 u0 u1 l0 l1 t0 (show t ≤ 60 by omega))
      go_wp2_with fail
      refine (kans_any _).mono ?_; rintro e w2 ⟨rfl, hk2⟩
      go_wp2_with fail
      refine (bleft_any x r u l t 1000 _ (hk2.keep HX.out (fun h => h))).mono ?_; rintro e w3 ⟨rfl, hX3, hk3⟩
      clear hX3
      rw [HF.out]
      go_wp2_with fail
      go_ret
      exact ⟨rfl, ((HKP.out.trans hk2).trans_new hk3 (fun k h1 h2 => by have h3 : k = x := h2; have h4 : W.heap.size ≤ x := hx; omega)).below (fun _ _ h => h)⟩
end Go.Proofs.Ytkhlcdmmhnmnoaa
