/- WordWrites: the law returns true for every input. No condition. -/
import Derived.Test.YtihndplkkpglcaaWordOps
namespace Go.Proofs.Ytihndplkkpglcaa
open Go.RowKit Go.ChangeShapes Go.WideShapes Go.Deep

theorem src_zero {w : World} {bo : Option Addr} {c : Nat} {N : List Int} (hs : Src w bo c N) (h : bo = none) : N.length = 0 := by rw [(hs.1 h).1]; rfl
theorem src8 {w : World} {g : Nat} {n : Int} (h : w.heap[g]? = some (.cells (Bc (enc n)).toArray 5 (0, 0))) : Src w (some ⟨g, 0, none⟩) 8 (enc n) := by
  refine Src.of_row fun j hj => ?_
  rw [Nat.zero_add, cell_of h]
  simp [Bc, List.getElem?_eq_getElem hj, List.getD]

set_option maxRecDepth 100000 in
set_option maxHeartbeats 1600000 in
theorem wordWrites_law {H : Type} {enc' : TypeId × Value → H} (W : World) {base : Nat} (v0 : Value) (d0 : DataW H) (p0 : List MemPlace)
    (k0 : Value.okWide Try.prog W .any base 46 v0) (h0 : DataW.Trod enc' Try.prog W 0 (fun _ => true) true 46 v0 d0 p0) :
    Calls Try.prog 9 #[v0] W fun e W' => e = .returned (.bool true) ∧ Below W.heap.size W W' := by
  obtain ⟨ao, M, cap, rfl, hMc, hcap, hrow, hok⟩ := open_ops k0 h0
  clear h0 k0
  have HR := Lib.hid hrow; have HOP := Lib.hid hok; clear hrow hok
  obtain ⟨i0, hi, hz0, hz1, hz2⟩ := info_parts u8_info
  have hwi0 : WI W (W.alloc (.cells #[.slice none 0 0, .bool false] 49)) (.slice none 0 0) (!true) [] (.slice none 0 0) [] :=
    ⟨⟨heap_new _, Own.nil _ _ _, by simp [Value.ownBlock]⟩, Own.nil _ _ _, fun k hk => by simp [Value.ownBlock] at hk, fun k hk => by simp [Value.ownBlock] at hk, (Kp.refl _ _).alloc _⟩
  have HW0 := Lib.hid hwi0; clear hwi0
  go_enter Try.func9, Try.ntmps9
  go_wp2_with fail
  go_loopg [6, 5, 4] M.length (fun k i ok want wr => ∃ (j : Nat) (b : Bool) (v : Value) (X : List Int) (vw : Value) (E : List Int), k = M.length - j ∧ j ≤ M.length ∧ i = .int .i64 j ∧ ok = .bool b ∧ want = vw ∧ WI W wr v (!b) X vw E ∧ (b = true → X = E) ∧ X.length ≤ 508 * j ∧ E.length ≤ 508 * j ∧ (0 < j → M.length ≤ 50))
  case atStart => exact ⟨0, true, _, [], _, [], rfl, Nat.zero_le _, rfl, rfl, rfl, HW0.out, fun _ => rfl, Nat.zero_le _, Nat.zero_le _, fun h => absurd h (by omega)⟩
  case round =>
    obtain ⟨j, b, v, X, vw, E, hk, hj, rfl, rfl, rfl, hwi, hsame, hX, hE, hM50⟩ := hrel
    have HKk := Lib.hid hk; have HWI := Lib.hid hwi; have HSAME := Lib.hid hsame; clear hk hwi hsame
    obtain ⟨aw, cw, rfl⟩ := HWI.out.want.slice
    by_cases hlt : j < M.length
    · obtain ⟨bb, off, rfl, hb, hcell⟩ := HR.out.get hlt
      have hopj := HOP.out j hlt
      obtain ⟨r, hr⟩ : ∃ r, r = M.getD j op0 := ⟨_, rfl⟩
      obtain ⟨kd, n, bo, c, N⟩ := r
      rw [← hr] at hopj
      obtain ⟨hsrc, hbyt, hNc, hcc⟩ := hopj
      simp only at hsrc hbyt hNc hcc
      have c0 := (HWI.out.kp.cell (off + j * 3 + 0) hb (fun h => h)).trans (hcell j hlt 0 (.int .i64 kd) (by rw [← hr]; rfl))
      have c1 := (HWI.out.kp.cell (off + j * 3 + 1) hb (fun h => h)).trans (hcell j hlt 1 (.int .i64 n) (by rw [← hr]; rfl))
      have c2 := (HWI.out.kp.cell (off + j * 3 + 2) hb (fun h => h)).trans (hcell j hlt 2 (.slice bo N.length c) (by rw [← hr]; rfl))
      rw [Nat.add_zero] at c0
      have HSRC := Lib.hid hsrc
      clear hr hcell hbyt hsrc
      have lW := HWI.out.kp.size
      by_cases hbig : 500 < N.length ∨ 50 < M.length
      · have fin : ∀ w1, Kp (fun _ => False) wr w1 → Below W.heap.size W w1 := fun w1 hk => (HWI.out.kp.trans hk).below (fun _ _ h => h)
        have FIN := Lib.hid fin; clear fin
        by_cases h5 : 500 < N.length
        · clear hbig
          go_wp2_with fail
          refine (w3ans_any _).mono ?_; rintro e w1 ⟨rfl, hk1⟩
          go_wp2_with fail
          go_ret
          exact ⟨rfl, FIN.out _ hk1⟩
        · have h50 : 50 < M.length := by omega
          clear hbig
          go_wp2_with fail
          refine (w3ans_any _).mono ?_; rintro e w1 ⟨rfl, hk1⟩
          go_wp2_with fail
          go_ret
          exact ⟨rfl, FIN.out _ hk1⟩
      have hN5 : N.length ≤ 500 := by omega
      have hM5 : M.length ≤ 50 := by omega
      clear hbig
      have hXl : X.length ≤ 1000000 := by omega
      have hEl : E.length ≤ 1000000 := by omega
      by_cases hkd : kd = 1
      · subst hkd
        cases hm : May n with
        | true =>
          have HMAY := Lib.hid hm; clear hm
          have hn : 0 ≤ n ∧ n ≤ 4611686018427387904 := by
            have := HMAY.out
            unfold May at this
            simpa using this
          obtain ⟨n0, n1⟩ := hn
          go_wp2_with fail
          refine (wnum_any W.heap.size v _ X n _ HMAY.out HWI.out.wr (by omega)).mono ?_; rintro e w1 ⟨rfl, ⟨v', hp1, hsn⟩, hkr⟩
          have hnb : ¬ (bb = W.heap.size ∨ In v bb) := fun h => h.elim (fun h => by omega) (fun h => by have := HWI.out.v1 bb h; omega)
          have d1 := (hkr.cell (off + j * 3 + 1) (Nat.lt_of_lt_of_le hb lW) hnb).trans c1
          have HWI1 := Lib.hid (HWI.out.put hp1 hsn hkr); clear hp1 hsn hkr
          cases b with
          | false =>
            go_wp2_with fail
            go_roundg (M.length - (j + 1))
            case measure => rw [HKk.out]; omega
            case rel => exact ⟨j + 1, false, v', X ++ enc n, _, E, rfl, by omega, by go_num, rfl, rfl, HWI1.out, (fun h => by cases h), by rw [List.length_append, enc_len]; omega, by omega, fun _ => hM5⟩
          | true =>
            go_wp2_with fail
            refine (may_any n _).mono ?_; rintro e w1' ⟨rfl, rfl⟩
            rw [HMAY.out]
            go_wp2_with fail
            refine (refnum_any n _ n0 n1).mono ?_; rintro e w2 ⟨g, rfl, hg, hh, hk2⟩
            have HWI2 := Lib.hid (HWI1.out.calm hk2); have HS8 := Lib.hid (src8 hh); clear hk2 hh
            go_wp2_with (at_builtin; (refine wpList_append_prec _ rfl _ _ 22 rfl 5 i0 _ 1 1 Try.underlying22 hi hz0 hz1 hz2 rfl (by decide) _ E.length (Bc E) rfl HWI2.out.want (some ⟨g, 0, none⟩) 8 8 (Bc (enc n)) rfl (fun h => ⟨src_zero HS8.out h, (HS8.out.1 h).2⟩) (Bc_len1 _) HS8.out.2 (Bc_one _) (by unfold maxLen; omega) (by omega) ?_; intro v2 w3 hown3 hk3 hsn3 _; have hsn4 : SameOrNew _ (.slice aw E.length cw) v2 := hsn3; have hk4 : Kp (In (.slice aw E.length cw)) _ w3 := hk3; have HO3 := Lib.hid hown3; have HSN3 := Lib.hid hsn4; have HK3 := Lib.hid hk4; clear hown3 hk3 hsn3 hk4 hsn4))
            have HWI3 := Lib.hid (HWI2.out.add (E' := E ++ enc n) (by rw [List.length_append, enc_len, ← Bc_app]; exact HO3.out) HSN3.out HK3.out)
            go_wp2_with fail
            go_roundg (M.length - (j + 1))
            case measure => rw [HKk.out]; omega
            case rel => exact ⟨j + 1, true, v', X ++ enc n, _, E ++ enc n, rfl, by omega, by go_num, rfl, rfl, HWI3.out, fun _ => by rw [HSAME.out (by simp)], by rw [List.length_append, enc_len]; omega, by rw [List.length_append, enc_len]; omega, fun _ => hM5⟩
        | false =>
          have HMAY := Lib.hid hm; clear hm
          go_wp2_with fail
          refine (wnum_bad W.heap.size v _ X n _ HMAY.out HWI.out.wr).mono ?_; rintro e w1 ⟨rfl, hp1, hkr⟩
          have d1 := (hkr.cell (off + j * 3 + 1) (Nat.lt_of_lt_of_le hb lW) (show ¬ bb = W.heap.size by omega)).trans c1
          have HWI1 := Lib.hid (HWI.out.put (b' := !false) hp1 (Or.inl rfl) (hkr.mono (fun k _ h => Or.inl h))); clear hp1 hkr
          cases b with
          | false =>
            go_wp2_with fail
            go_roundg (M.length - (j + 1))
            case measure => rw [HKk.out]; omega
            case rel => exact ⟨j + 1, false, v, X, _, E, rfl, by omega, by go_num, rfl, rfl, HWI1.out, (fun h => by cases h), by omega, by omega, fun _ => hM5⟩
          | true =>
            go_wp2_with fail
            refine (may_any n _).mono ?_; rintro e w1' ⟨rfl, rfl⟩
            rw [HMAY.out]
            go_wp2_with fail
            go_roundg (M.length - (j + 1))
            case measure => rw [HKk.out]; omega
            case rel => exact ⟨j + 1, false, v, X, _, E, rfl, by omega, by go_num, rfl, rfl, HWI1.out, (fun h => by cases h), by omega, by omega, fun _ => hM5⟩
      · have HSR := Lib.hid (HSRC.out.keep HWI.out.kp (fun _ _ _ h => h))
        have HAP := Lib.hid (show ∀ ad, bo = some ad → N ≠ [] → ad.block < W.heap.size from fun ad ha hne => by
          have h0 : 0 < N.length := List.length_pos_iff.2 hne
          have := HSRC.out.2 ad ha 0 (.int .u8 N[0]) (by simp [Bc, List.getElem?_eq_getElem h0])
          have hbk : (ad.add 0).block = ad.block := by unfold Addr.add; split <;> rfl
          rw [← hbk]
          exact cell_lt this)
        go_wp2_with fail
        refine (wbytes_any W.heap.size v _ X N bo c _ HWI.out.wr hXl (by omega) HSR.out (fun ad ha hne => ⟨by have := HAP.out ad ha hne; omega, fun h => by have := HAP.out ad ha hne; have := HWI.out.v1 _ h; omega⟩)).mono ?_; rintro e w1 ⟨rfl, ⟨v', hp1, hsn⟩, hkr⟩
        have hnb : ¬ (bb = W.heap.size ∨ In v bb) := fun h => h.elim (fun h => by omega) (fun h => by have := HWI.out.v1 bb h; omega)
        have d2 := (hkr.cell (off + j * 3 + 2) (Nat.lt_of_lt_of_le hb lW) hnb).trans c2
        have HWI1 := Lib.hid (HWI.out.put hp1 hsn hkr)
        have HSR1 := Lib.hid (HSRC.out.keep HWI1.out.kp (fun _ _ _ h => h))
        clear hp1 hsn hkr
        go_wp2_with fail
        refine (refbytes_any bo c N _ HSR1.out (by omega)).mono ?_; rintro e w2 ⟨u, rfl, hu, _, hk2⟩
        obtain ⟨Y, hY⟩ : ∃ Y, Y = enc N.length ++ N := ⟨_, rfl⟩
        have hYl : Y.length ≤ 508 := by rw [hY, List.length_append, enc_len]; omega
        rw [← hY] at hu
        have HY := Lib.hid hY
        have HU := Lib.hid hu
        have HWI2 := Lib.hid (HWI1.out.calm hk2); clear hk2 hu hY
        obtain ⟨au, cu, rfl⟩ := HU.out.slice
        have HSU := Lib.hid (Src.own HU.out rfl)
        go_wp2_with (at_builtin; (refine wpList_append_prec _ rfl _ _ 22 rfl 5 i0 _ 1 1 Try.underlying22 hi hz0 hz1 hz2 rfl (by decide) _ E.length (Bc E) rfl HWI2.out.want au Y.length cu (Bc Y) rfl (fun h => ⟨src_zero HSU.out h, (HSU.out.1 h).2⟩) (Bc_len1 _) HSU.out.2 (Bc_one _) (by unfold maxLen; omega) (by omega) ?_; intro v2 w3 hown3 hk3 hsn3 _; have hsn4 : SameOrNew _ (.slice aw E.length cw) v2 := hsn3; have hk4 : Kp (In (.slice aw E.length cw)) _ w3 := hk3; have HO3 := Lib.hid hown3; have HSN3 := Lib.hid hsn4; have HK3 := Lib.hid hk4; clear hown3 hk3 hsn3 hk4 hsn4))
        have HWI3 := Lib.hid (HWI2.out.add (E' := E ++ Y) (by rw [List.length_append, ← Bc_app]; exact HO3.out) HSN3.out HK3.out)
        go_wp2_with fail
        go_roundg (M.length - (j + 1))
        case measure => rw [HKk.out]; omega
        case rel => exact ⟨j + 1, b, v', X ++ enc N.length ++ N, _, E ++ Y, rfl, by omega, by go_num, rfl, rfl, HWI3.out, fun h => by rw [HSAME.out h, HY.out, List.append_assoc], by simp only [List.length_append, enc_len]; omega, by rw [List.length_append]; omega, fun _ => hM5⟩
    · have hXl : X.length ≤ 1000000000 := by
        rcases Nat.eq_zero_or_pos j with h0 | h0
        · subst h0; omega
        · have := hM50 h0; omega
      cases b with
      | false =>
        go_wp2_with fail
        refine (wout_bad W.heap.size v X _ HWI.out.wr).mono ?_; rintro e w1 ⟨rfl, rfl⟩
        go_wp2_with fail
        refine (w3ans_any _).mono ?_; rintro e w2 ⟨rfl, hk2⟩
        go_wp2_with fail
        go_ret
        exact ⟨rfl, (HWI.out.kp.trans hk2).below (fun _ _ h => h)⟩
      | true =>
        go_wp2_with fail
        refine (wout_any W.heap.size v X _ HWI.out.wr hXl).mono ?_; rintro e w1 ⟨u, rfl, hu, hk1⟩
        have HU := Lib.hid (own_weaken hu)
        have HWI1 := Lib.hid (HWI.out.calm hk1); clear hu hk1
        obtain ⟨au, cu, rfl⟩ := HU.out.slice
        go_wp2_with fail
        refine (w3ans_any _).mono ?_; rintro e w2 ⟨rfl, hk2⟩
        obtain ⟨S, hS⟩ : ∃ S, S = Str X := ⟨_, rfl⟩
        have hv1 : (convert 22 9 (.slice au X.length cu)).run Try.prog w2 = .ok (.string S) w2 := by rw [hS]; exact run_str (Src.own (HU.out.keepF hk2) rfl)
        have hv2 : (convert 22 9 (.slice aw E.length cw)).run Try.prog w2 = .ok (.string S) w2 := by rw [hS, HSAME.out (by simp)]; exact run_str (Src.own (HWI1.out.want.keepF hk2) rfl)
        have HKF := Lib.hid (HWI1.out.kp.trans hk2); clear hS hk2
        go_wp2_with fail
        go_ret
        exact ⟨by simp, HKF.out.below (fun _ _ h => h)⟩
end Go.Proofs.Ytihndplkkpglcaa
