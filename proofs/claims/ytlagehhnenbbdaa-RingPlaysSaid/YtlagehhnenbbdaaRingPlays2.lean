/- RingPlays: the law returns true for every input. No condition. -/
import Derived.Test.YtlagehhnenbbdaaRingPlays
namespace Go.Proofs.Ytlagehhnenbbdaa
open Go.RowKit Go.ChangeShapes Go.WideShapes Go.Deep

theorem plus_nodup {x : ByteArray} {L : List ByteArray} (h : L.Nodup) : (Plus x L).Nodup := by
  unfold Plus
  by_cases hc : Has x L = true
  · rw [if_pos hc]; exact h
  · rw [if_neg hc]
    rw [Has_mem] at hc
    exact (List.perm_append_singleton x L).symm.nodup (List.nodup_cons.2 ⟨hc, h⟩)
theorem less_nodup {x : ByteArray} {L : List ByteArray} (h : L.Nodup) : (Less x L).Nodup := by
  unfold Less
  split
  · exact cut_nodup h
  · exact h
theorem less_len (x : ByteArray) (L : List ByteArray) : (Less x L).length ≤ L.length := by
  unfold Less
  split
  · rename_i h; rw [Cut_len (Has_ix h)]; omega
  · exact Nat.le_refl _

/-- the two rings, alike -/
structure PK (W w : World) (v : Value) (L : List ByteArray) (u : Value) : Prop where
  ri : RI W w W.heap.size v L
  rf : RfAt w (W.heap.size + 1) u L
  u0 : ∀ k, u.ownBlock = some k → W.heap.size ≤ k ∧ k ≠ W.heap.size ∧ v.ownBlock ≠ some k
  v0 : ∀ k, v.ownBlock = some k → k ≠ W.heap.size + 1
theorem PJ.pk {W w : World} {v u : Value} {L : List ByteArray} {b : Nat} {O : Obj} (h : PJ W w W.heap.size (W.heap.size + 1) v L u L b O) : PK W w v L u :=
  ⟨h.ri, h.rf, fun k hk => ⟨(h.u0 k hk).1, (h.u0 k hk).2.1, (h.u0 k hk).2.2.1⟩, fun k hk => (h.v0 k hk).1⟩
theorem PK.hold {W w : World} {v u : Value} {L : List ByteArray} (h : PK W w v L u) (O' : Obj) : PJ W (w.alloc O') W.heap.size (W.heap.size + 1) v L u L w.heap.size O' := by
  have hk := (Kp.refl (fun _ => False) w).alloc O'
  have hp := lt_of_block h.ri.rg.head
  have hq := lt_of_block h.rf.head
  refine ⟨h.ri.calm hk, h.rf.keep hk (fun h => h) (fun _ _ h => h), by omega, by omega, fun k hk' => ?_, fun k hk' => ?_, heap_new _, by omega⟩
  · have h1 := h.u0 k hk'
    have h2 := h.rf.row.lt hk'
    exact ⟨h1.1, h1.2.1, h1.2.2, by omega⟩
  · have h1 := h.v0 k hk'
    have h2 := h.ri.rg.row.lt hk'
    exact ⟨h1, by omega⟩

set_option maxRecDepth 100000 in
set_option maxHeartbeats 1600000 in
theorem ringPlays_law {H : Type} {enc' : TypeId × Value → H} (W : World) {base : Nat} (v0 : Value) (d0 : DataW H) (p0 : List MemPlace)
    (k0 : Value.okWide Try.prog W .any base 60 v0) (h0 : DataW.Trod enc' Try.prog W 0 (fun _ => true) true 60 v0 d0 p0) :
    Calls Try.prog 5 #[v0] W fun e W' => e = .returned (.bool true) ∧ Below W.heap.size W W' := by
  obtain ⟨ar, n, cap, f, rfl, hnc, hcap, hrow, hhs⟩ := open_rops k0 h0
  clear h0 k0
  obtain ⟨i0, hi, hz0, hz1, hz2⟩ := info_parts str_info
  have HR := Lib.hid hrow; have HHS := Lib.hid hhs; clear hrow hhs
  have H0 := RI.new W W (Kp.refl _ _)
  have hk0 := (Kp.refl (fun _ => False) (W.alloc (.cells #[.slice none 0 0] 63))).alloc (.cells #[.slice none 0 0] 35)
  have hrf : RfAt ((W.alloc (.cells #[.slice none 0 0] 63)).alloc (.cells #[.slice none 0 0] 35)) (W.heap.size + 1) (.slice none 0 0) [] :=
    ⟨by have := heap_new (w := W.alloc (.cells #[.slice none 0 0] 63)) (.cells #[.slice none 0 0] 35); rwa [World.size_alloc] at this, Own.nil _ _ _, by simp [Value.ownBlock]⟩
  have H1 := H0.calm hk0
  clear H0
  have HI0 := Lib.hid H1; have HF0 := Lib.hid hrf; clear H1 hrf hk0
  go_enter Try.func5, Try.ntmps5
  go_wp2_with fail
  go_loopg [5] n (fun k i wr => ∃ (j : Nat) (v : Value) (L : List ByteArray) (u : Value), k = n - j ∧ j ≤ n ∧ i = .int .i64 j ∧ PK W wr v L u ∧ L.Nodup ∧ L.length ≤ j ∧ j ≤ 200)
  case atStart =>
    exact ⟨0, .slice none 0 0, [], .slice none 0 0, rfl, Nat.zero_le _, rfl, ⟨HI0.out, HF0.out, fun k h => by simp [Value.ownBlock] at h, fun k h => by simp [Value.ownBlock] at h⟩, List.nodup_nil, Nat.le_refl _, by omega⟩
  case round =>
    obtain ⟨j, v, L, u, hk, hj, rfl, hpk, hnd, hL, hj2⟩ := hrel
    have HKk := Lib.hid hk; have HPK := Lib.hid hpk; have HND := Lib.hid hnd; clear hk hpk hnd
    by_cases hlt : j < n ∧ j < 200
    · obtain ⟨hl1, hl2⟩ := hlt
      obtain ⟨bb, off, rfl, hb, hcell⟩ := HR.out.get hl1
      have hhq := HHS.out j hl1
      obtain ⟨r, hr⟩ : ∃ r, r = f j := ⟨_, rfl⟩
      obtain ⟨kd, s, bo, c, N⟩ := r
      rw [← hr] at hhq
      have c0 := (HPK.out.ri.kp.cell (off + j * 3 + 0) hb (fun h => h)).trans (hcell j hl1 0 (.int .i64 kd) (by rw [← hr]; rfl))
      have c1 := (HPK.out.ri.kp.cell (off + j * 3 + 1) hb (fun h => h)).trans (hcell j hl1 1 (.string s) (by rw [← hr]; rfl))
      have c2 := (HPK.out.ri.kp.cell (off + j * 3 + 2) hb (fun h => h)).trans (hcell j hl1 2 (.slice bo N.length c) (by rw [← hr]; rfl))
      rw [Nat.add_zero] at c0
      have HHQ := Lib.hid hhq
      clear hr hcell hhq
      by_cases hbig : 50 < N.length
      · have HB := Lib.hid (HPK.out.ri.kp.alloc (.cells #[.int .i64 kd, .string s, .slice bo N.length c] 66))
        go_wp2_with fail
        refine (r21ans_any _).mono ?_; rintro e w3 ⟨rfl, hk3⟩
        go_wp2_with fail
        go_ret
        exact ⟨rfl, (HB.out.trans hk3).below (fun _ _ h => h)⟩
      have hN50 : N.length ≤ 50 := by omega
      clear hbig
      have HPJ := Lib.hid (HPK.out.hold (.cells #[.int .i64 kd, .string s, .slice bo N.length c] 66))
      by_cases hk1 : kd = 1
      · subst hk1
        have HJ0 := Lib.hid (HPJ.out.calm (Kp.refl (fun _ => False) _).drew)
        have hs0 := cell_of HPJ.out.kb 1
        simp only [List.getElem?_toArray, List.getElem?_cons_zero, List.getElem?_cons_succ] at hs0
        go_wp2_with fail
        go_region_held3 (fun w' => w'.cell? ⟨wr.heap.size, 1, none⟩ = some (.string s)) (first | exact hs0 | exact (cell_of HJr.kb 1).trans rfl | exact (cell_of HJf.kb 1).trans rfl) (first | (go_at_call 32; refine (padd_r s (by first | exact HJ0.out | exact HJf) (by omega)).mono ?_; rintro e wa ⟨rfl, va, HJr⟩) | (go_at_call 33; refine (padd_f s (by first | exact HJ0.out | exact HJr) (by omega)).mono ?_; rintro e wb ⟨rfl, ub, HJf⟩))
        all_goals
          obtain ⟨Q, hQ⟩ : ∃ Q, Q = Plus s L := ⟨_, rfl⟩
          have hQn : Q.Nodup := by rw [hQ]; exact plus_nodup HND.out
          have hQl : Q.length ≤ j + 1 := by rw [hQ]; exact Nat.le_trans (Plus_len s L) (by omega)
          first | (have hT : PJ W wb W.heap.size (W.heap.size + 1) va (Plus s L) ub (Plus s L) wr.heap.size _ := HJf) | (have hT : PJ W wa W.heap.size (W.heap.size + 1) va (Plus s L) ub (Plus s L) wr.heap.size _ := HJr)
          rw [← hQ] at hT
          clear hQ HJf HJr
          have hmc := cell_of hT.rf.head 0
          simp only [List.getElem?_toArray, List.getElem?_cons_zero] at hmc
          have hqt := lt_of_block hT.rf.head
          have hcl := fun (w' : World) (hk : Kp (fun _ => False) _ w') => hT.calm hk
          obtain ⟨am, cm, hum⟩ := hT.rf.row.slice
          subst hum
          have HCL := Lib.hid hcl; have HT := Lib.hid hT; have HQN := Lib.hid hQn
          clear hcl hT hQn
          have hQ2 : Q.length ≤ 1000000000 := by omega
          go_wp2_with fail
          go_region_held3 (fun w' => w'.cell? ⟨W.heap.size + 1, 0, none⟩ = some (.slice am Q.length cm)) (first | exact hmc | exact (hkn.cell 0 hqt (fun h => h)).trans hmc | exact (hkq.cell 0 hqt (fun h => h)).trans hmc) (first | (go_at_call 39; refine (rnames_any W.heap.size _ Q _ ((HCL.out _ (Kp.refl _ _).drew).ri.rg) hQ2).mono ?_; rintro e wn ⟨vn, rfl, hon, hkn0⟩; have hkn := (Kp.refl (fun _ => False) _).drew.trans hkn0; obtain ⟨an, cn, rfl⟩ := (own_weaken hon).slice) | (go_at_call 38; refine (texts_same an am cn cm Q _ (SRd.own (own_weaken hon) rfl) (SRd.own (HCL.out _ hkn).rf.row rfl) hQ2).mono ?_; rintro e wq ⟨rfl, hkq0⟩; have hkq := hkn.trans hkq0))
          go_wp2_with fail
          go_roundg (n - (j + 1))
          case measure => rw [HKk.out]; omega
          case rel => exact ⟨j + 1, _, Q, _, rfl, by omega, by go_num, (HCL.out _ hkq).pk, HQN.out, hQl, by omega⟩
      by_cases hk2 : kd = 2
      · subst hk2
        have HJ0 := Lib.hid (HPJ.out.calm (Kp.refl (fun _ => False) _).drew)
        have hs0 := cell_of HPJ.out.kb 1
        simp only [List.getElem?_toArray, List.getElem?_cons_zero, List.getElem?_cons_succ] at hs0
        go_wp2_with fail
        go_region_held3 (fun w' => w'.cell? ⟨wr.heap.size, 1, none⟩ = some (.string s)) (first | exact hs0 | exact (cell_of HJr.kb 1).trans rfl | exact (cell_of HJf.kb 1).trans rfl) (first | (go_at_call 34; refine (pdrop_r s (by first | exact HJ0.out | exact HJf) (by omega)).mono ?_; rintro e wa ⟨rfl, va, HJr⟩) | (go_at_call 35; refine (pdrop_f s (by first | exact HJ0.out | exact HJr) (by omega)).mono ?_; rintro e wb ⟨rfl, ub, HJf⟩))
        all_goals
          obtain ⟨Q, hQ⟩ : ∃ Q, Q = Less s L := ⟨_, rfl⟩
          have hQn : Q.Nodup := by rw [hQ]; exact less_nodup HND.out
          have hQl : Q.length ≤ j + 1 := by rw [hQ]; exact Nat.le_trans (less_len s L) (by omega)
          first | (have hT : PJ W wb W.heap.size (W.heap.size + 1) va (Less s L) ub (Less s L) wr.heap.size _ := HJf) | (have hT : PJ W wa W.heap.size (W.heap.size + 1) va (Less s L) ub (Less s L) wr.heap.size _ := HJr)
          rw [← hQ] at hT
          clear hQ HJf HJr
          have hmc := cell_of hT.rf.head 0
          simp only [List.getElem?_toArray, List.getElem?_cons_zero] at hmc
          have hqt := lt_of_block hT.rf.head
          have hcl := fun (w' : World) (hk : Kp (fun _ => False) _ w') => hT.calm hk
          obtain ⟨am, cm, hum⟩ := hT.rf.row.slice
          subst hum
          have HCL := Lib.hid hcl; have HT := Lib.hid hT; have HQN := Lib.hid hQn
          clear hcl hT hQn
          have hQ2 : Q.length ≤ 1000000000 := by omega
          go_wp2_with fail
          go_region_held3 (fun w' => w'.cell? ⟨W.heap.size + 1, 0, none⟩ = some (.slice am Q.length cm)) (first | exact hmc | exact (hkn.cell 0 hqt (fun h => h)).trans hmc | exact (hkq.cell 0 hqt (fun h => h)).trans hmc) (first | (go_at_call 39; refine (rnames_any W.heap.size _ Q _ ((HCL.out _ (Kp.refl _ _).drew).ri.rg) hQ2).mono ?_; rintro e wn ⟨vn, rfl, hon, hkn0⟩; have hkn := (Kp.refl (fun _ => False) _).drew.trans hkn0; obtain ⟨an, cn, rfl⟩ := (own_weaken hon).slice) | (go_at_call 38; refine (texts_same an am cn cm Q _ (SRd.own (own_weaken hon) rfl) (SRd.own (HCL.out _ hkn).rf.row rfl) hQ2).mono ?_; rintro e wq ⟨rfl, hkq0⟩; have hkq := hkn.trans hkq0))
          go_wp2_with fail
          go_roundg (n - (j + 1))
          case measure => rw [HKk.out]; omega
          case rel => exact ⟨j + 1, _, Q, _, rfl, by omega, by go_num, (HCL.out _ hkq).pk, HQN.out, hQl, by omega⟩
      by_cases hk3 : kd = 3
      · subst hk3
        have HSN := Lib.hid (fun (h : bo = none) => HHQ.out.emp h)
        have HSC := Lib.hid (HHQ.out.news (HPJ.out.ri.kp.alloc (.cells #[] 9)))
        have hE := own_weaken (World.ownsRow_lit (base := (wr.alloc (.cells #[.int .i64 3, .string s, .slice bo N.length c] 66)).heap.size) (e := 9) (size := 1) (wr.alloc (.cells #[.int .i64 3, .string s, .slice bo N.length c] 66)) #[] 0 (Nat.le_refl _) (by unfold maxLen; omega) rfl)
        rw [World.size_alloc] at hE
        have HE := Lib.hid hE; clear hE
        go_wp2_with (at_builtin; refine wpList_append_prec _ rfl _ _ 22 rfl 9 i0 _ 1 16 Try.underlying22 hi hz0 hz1 hz2 rfl (by decide) _ 0 [] rfl HE.out bo N.length c (Sc N) rfl HSN.out (Sc_len1 _) HSC.out (Sc_one _) (by unfold maxLen; omega) (by omega) ?_; intro v2 w3 hown3 hk3 hsn3 _; rw [Nat.zero_add, List.nil_append] at hown3; have hk4 : Kp (In (.slice (some ⟨wr.heap.size + 1, 0, none⟩) 0 0)) ((wr.alloc (.cells #[.int .i64 3, .string s, .slice bo N.length c] 66)).alloc (.cells #[] 9)) w3 := hk3; have hsn4 : SameOrNew ((wr.alloc (.cells #[.int .i64 3, .string s, .slice bo N.length c] 66)).alloc (.cells #[] 9)) (.slice (some ⟨wr.heap.size + 1, 0, none⟩) 0 0) v2 := hsn3; have HO3 := Lib.hid hown3; have HSN3 := Lib.hid hsn4; have HK3 := Lib.hid hk4; obtain ⟨a3, c3, rfl⟩ := HO3.out.slice; clear hown3 hk3 hsn3 hk4 hsn4)
        have hw0 := World.size_alloc wr (.cells #[.int .i64 3, .string s, .slice bo N.length c] 66)
        have hk3a : Kp (fun _ => False) (wr.alloc (.cells #[.int .i64 3, .string s, .slice bo N.length c] 66)) w3 := ((Kp.refl _ _).alloc (.cells #[] 9)).trans_new HK3.out (fun k h1 h2 => by
          have : wr.heap.size + 1 = k := by simpa [In, Value.ownBlock] using h2
          omega)
        have HJ3 := Lib.hid (HPJ.out.calm hk3a)
        clear hw0 hk3a
        have hyy0 : (ByteArray.empty.toList == ByteArray.empty.toList) = true := by simp
        by_cases hfx : Fx N L < L.length
        · obtain ⟨i, hI⟩ : ∃ i, i = Fx N L := ⟨_, rfl⟩
          rw [← hI] at hfx
          have HI := Lib.hid hI; clear hI
          refine (rnext_any W.heap.size v L N a3 c3 i _ HJ3.out.ri.rg (SRd.own HO3.out rfl) (by omega) (by omega) HI.out.symm hfx).mono ?_; rintro e w4 ⟨rfl, ⟨v4, hr4, hs4⟩, hk4⟩
          have HJ4 := Lib.hid (HJ3.out.real hr4 hs4 hk4); clear hr4 hs4 hk4
          obtain ⟨y, hy⟩ : ∃ y, y = L.getD i ByteArray.empty := ⟨_, rfl⟩
          rw [← hy]
          have HY := Lib.hid hy; clear hy
          have hyy : (y.toList == y.toList) = true := by simp
          have hs2 := cell_of HJ4.out.kb 2
          simp only [List.getElem?_toArray, List.getElem?_cons_zero, List.getElem?_cons_succ] at hs2
          go_wp2_with fail
          refine (fnext_any (W.heap.size + 1) u L N bo c _ HJ4.out.rf (HHQ.out.rd.keep HJ4.out.ri.kp (fun _ _ _ _ h => h)) (by omega) (by omega) HND.out).mono ?_; rintro e w5 hf5
          unfold Fnext at hf5
          rw [← HI.out, if_pos hfx] at hf5
          unfold Fturn at hf5
          rw [← HY.out] at hf5
          obtain ⟨rfl, ⟨u5, hp5, hu5⟩, hk5⟩ := hf5
          have hJ5 := HJ4.out.ref hp5 hu5 hk5
          clear hp5 hu5 hk5
          obtain ⟨Q, hQ⟩ : ∃ Q, Q = Turn i L := ⟨_, rfl⟩
          have hQn : Q.Nodup := by rw [hQ]; exact (turn_perm hfx).nodup HND.out
          have hQl : Q.length ≤ j + 1 := by rw [hQ, Turn_len hfx]; omega
          have hT := hJ5
          rw [← hQ] at hT
          clear hQ hJ5
          have hmc := cell_of hT.rf.head 0
          simp only [List.getElem?_toArray, List.getElem?_cons_zero] at hmc
          have hqt := lt_of_block hT.rf.head
          have hcl := fun (w' : World) (hk : Kp (fun _ => False) _ w') => hT.calm hk
          obtain ⟨am, cm, hum⟩ := hT.rf.row.slice
          subst hum
          have HCL := Lib.hid hcl; have HT := Lib.hid hT; have HQN := Lib.hid hQn
          clear hcl hT hQn
          have hQ2 : Q.length ≤ 1000000000 := by omega
          go_wp2_with fail
          go_region_held3 (fun w' => w'.cell? ⟨W.heap.size + 1, 0, none⟩ = some (.slice am Q.length cm)) (first | exact hmc | exact (hkn.cell 0 hqt (fun h => h)).trans hmc | exact (hkq.cell 0 hqt (fun h => h)).trans hmc) (first | (go_at_call 39; refine (rnames_any W.heap.size _ Q _ ((HCL.out _ (Kp.refl _ _).drew).ri.rg) hQ2).mono ?_; rintro e wn ⟨vn, rfl, hon, hkn0⟩; have hkn := (Kp.refl (fun _ => False) _).drew.trans hkn0; obtain ⟨an, cn, rfl⟩ := (own_weaken hon).slice) | (go_at_call 38; refine (texts_same an am cn cm Q _ (SRd.own (own_weaken hon) rfl) (SRd.own (HCL.out _ hkn).rf.row rfl) hQ2).mono ?_; rintro e wq ⟨rfl, hkq0⟩; have hkq := hkn.trans hkq0))
          go_wp2_with fail
          go_roundg (n - (j + 1))
          case measure => rw [HKk.out]; omega
          case rel => exact ⟨j + 1, _, Q, _, rfl, by omega, by go_num, (HCL.out _ hkq).pk, HQN.out, hQl, by omega⟩
        · refine (rnext_no W.heap.size v L N a3 c3 _ HJ3.out.ri.rg (SRd.own HO3.out rfl) (by omega) (by omega) hfx).mono ?_; rintro e w4 ⟨rfl, hk4⟩
          have HJ4 := Lib.hid (HJ3.out.calm hk4); clear hk4
          have hs2 := cell_of HJ4.out.kb 2
          simp only [List.getElem?_toArray, List.getElem?_cons_zero, List.getElem?_cons_succ] at hs2
          go_wp2_with fail
          refine (fnext_any (W.heap.size + 1) u L N bo c _ HJ4.out.rf (HHQ.out.rd.keep HJ4.out.ri.kp (fun _ _ _ _ h => h)) (by omega) (by omega) HND.out).mono ?_; rintro e w5 hf5
          unfold Fnext at hf5
          rw [if_neg hfx] at hf5
          obtain ⟨rfl, rfl⟩ := hf5
          obtain ⟨Q, hQ⟩ : ∃ Q, Q = L := ⟨_, rfl⟩
          have hQn : Q.Nodup := by rw [hQ]; exact HND.out
          have hQl : Q.length ≤ j + 1 := by rw [hQ]; omega
          have hT := HJ4.out
          rw [← hQ] at hT
          clear hQ
          have hmc := cell_of hT.rf.head 0
          simp only [List.getElem?_toArray, List.getElem?_cons_zero] at hmc
          have hqt := lt_of_block hT.rf.head
          have hcl := fun (w' : World) (hk : Kp (fun _ => False) _ w') => hT.calm hk
          obtain ⟨am, cm, hum⟩ := hT.rf.row.slice
          subst hum
          have HCL := Lib.hid hcl; have HT := Lib.hid hT; have HQN := Lib.hid hQn
          clear hcl hT hQn
          have hQ2 : Q.length ≤ 1000000000 := by omega
          go_wp2_with fail
          go_region_held3 (fun w' => w'.cell? ⟨W.heap.size + 1, 0, none⟩ = some (.slice am Q.length cm)) (first | exact hmc | exact (hkn.cell 0 hqt (fun h => h)).trans hmc | exact (hkq.cell 0 hqt (fun h => h)).trans hmc) (first | (go_at_call 39; refine (rnames_any W.heap.size _ Q _ ((HCL.out _ (Kp.refl _ _).drew).ri.rg) hQ2).mono ?_; rintro e wn ⟨vn, rfl, hon, hkn0⟩; have hkn := (Kp.refl (fun _ => False) _).drew.trans hkn0; obtain ⟨an, cn, rfl⟩ := (own_weaken hon).slice) | (go_at_call 38; refine (texts_same an am cn cm Q _ (SRd.own (own_weaken hon) rfl) (SRd.own (HCL.out _ hkn).rf.row rfl) hQ2).mono ?_; rintro e wq ⟨rfl, hkq0⟩; have hkq := hkn.trans hkq0))
          go_wp2_with fail
          go_roundg (n - (j + 1))
          case measure => rw [HKk.out]; omega
          case rel => exact ⟨j + 1, _, Q, _, rfl, by omega, by go_num, (HCL.out _ hkq).pk, HQN.out, hQl, by omega⟩
      · obtain ⟨Q, hQ⟩ : ∃ Q, Q = L := ⟨_, rfl⟩
        have hQn : Q.Nodup := by rw [hQ]; exact HND.out
        have hQl : Q.length ≤ j + 1 := by rw [hQ]; omega
        have hT := HPJ.out
        rw [← hQ] at hT
        clear hQ
        have hmc := cell_of hT.rf.head 0
        simp only [List.getElem?_toArray, List.getElem?_cons_zero] at hmc
        have hqt := lt_of_block hT.rf.head
        have hcl := fun (w' : World) (hk : Kp (fun _ => False) _ w') => hT.calm hk
        obtain ⟨am, cm, hum⟩ := hT.rf.row.slice
        subst hum
        have HCL := Lib.hid hcl; have HT := Lib.hid hT; have HQN := Lib.hid hQn
        clear hcl hT hQn
        have hQ2 : Q.length ≤ 1000000000 := by omega
        go_wp2_with fail
        go_region_held3 (fun w' => w'.cell? ⟨W.heap.size + 1, 0, none⟩ = some (.slice am Q.length cm)) (first | exact hmc | exact (hkn.cell 0 hqt (fun h => h)).trans hmc | exact (hkq.cell 0 hqt (fun h => h)).trans hmc) (first | (go_at_call 39; refine (rnames_any W.heap.size _ Q _ ((HCL.out _ (Kp.refl _ _).drew).ri.rg) hQ2).mono ?_; rintro e wn ⟨vn, rfl, hon, hkn0⟩; have hkn := (Kp.refl (fun _ => False) _).drew.trans hkn0; obtain ⟨an, cn, rfl⟩ := (own_weaken hon).slice) | (go_at_call 38; refine (texts_same an am cn cm Q _ (SRd.own (own_weaken hon) rfl) (SRd.own (HCL.out _ hkn).rf.row rfl) hQ2).mono ?_; rintro e wq ⟨rfl, hkq0⟩; have hkq := hkn.trans hkq0))
        go_wp2_with fail
        go_roundg (n - (j + 1))
        case measure => rw [HKk.out]; omega
        case rel => exact ⟨j + 1, _, Q, _, rfl, by omega, by go_num, (HCL.out _ hkq).pk, HQN.out, hQl, by omega⟩
    · by_cases hjn : j < n
      · have hj4 : ¬ j < 200 := by omega
        go_wp2_with fail
        refine (r21ans_any _).mono ?_; rintro e w3 ⟨rfl, hk3⟩
        go_wp2_with fail
        go_ret
        exact ⟨rfl, (HPK.out.ri.kp.trans hk3).below (fun _ _ h => h)⟩
      · go_wp2_with fail
        refine (r21ans_any _).mono ?_; rintro e w3 ⟨rfl, hk3⟩
        go_wp2_with fail
        go_ret
        exact ⟨rfl, (HPK.out.ri.kp.trans hk3).below (fun _ _ h => h)⟩
end Go.Proofs.Ytlagehhnenbbdaa
