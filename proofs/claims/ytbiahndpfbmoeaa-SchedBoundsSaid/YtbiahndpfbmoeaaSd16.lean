/- What a scheduler's Pick does. Conditions: times do not go back, there are no more recipients than fit into memory. -/
import Derived.Test.YtbiahndpfbmoeaaSd15
namespace Go.Proofs.Ytbiahndpfbmoeaa
open Go.RowKit Go.Maps SatAid Go.MapKept Go.ChangeMaps Go.WideShapes

theorem key_info : (Try.prog.info? 95).map (fun i => (i.zero, i.size, i.bytes)) = some (some (.agg #[.int .i64 0, .int .i64 0]), 2, 16) := by kernel_rfl
theorem two_ints {k : IntKind} {a b : Int} : ∀ u ∈ [Value.int k a, .int k b], u.oneCell' = true := by intro u hu; simp at hu; rcases hu with rfl | rfl <;> rfl
theorem heap_new2 {w : World} (o o' : Obj) : ((w.alloc o).alloc o').heap[w.heap.size + 1]? = some o' := by
  have h := heap_new (w := w.alloc o) o'
  rwa [World.size_alloc] at h
set_option maxRecDepth 100000 in
set_option maxHeartbeats 6400000 in
theorem spick_any (p N : Nat) (s : Sd) (n now : Int) (w : World) (h : SIn w p s N) (ht : Tik s now) (hC : C n = now) (hN : N ≤ 1000000) :
    Calls Try.prog 30 #[.pointer (some ⟨p, 0, none⟩), .int .i64 n] w (Spick p N s now w) := by
  have hn : 0 ≤ now := by rw [← hC]; exact C_lo _
  have hn2 : now ≤ 1099511627776 := by rw [← hC]; exact C_hi _
  have c16 : w.cell? ⟨p, 16, none⟩ = some (.bool s.last) := (cell_of h.head 16).trans rfl
  have lp := lt_of_block h.head
  obtain ⟨i0, hi, hz0, hz1, hz2⟩ := info_parts key_info
  have H := Lib.hid h; have HT := Lib.hid ht; have HC := Lib.hid hC; clear h ht hC
  go_enter Try.func30, Try.ntmps30
  go_wp2_with fail
  refine (clamp_any _ _).mono ?_; rintro e w1 ⟨rfl, rfl⟩
  rw [HC.out]
  go_wp2_with fail
  go_region_held3 (fun w' => w'.cell? ⟨p, 16, none⟩ = some (.bool s.last)) (first | exact c16 | exact (Kp.cell (S := fun _ => False) (w := w) (by repeat (first | exact Kp.refl _ _ | apply Kp.drew | apply Kp.drewN | refine Kp.setCell ?_ _ _ (Or.inr (by simp)) | apply Kp.alloc)) 16 lp (fun h => h)).trans c16) (fail)
  obtain ⟨w0, hw0⟩ : ∃ w0, w0 = ((w.alloc (.cells #[.int .i64 0, .int .i64 0, .string ByteArray.empty] 66)).alloc (.cells #[.bool !s.last, .bool s.last] 4)).drew := ⟨_, rfl⟩
  have hk0 : Kp (fun _ => False) w w0 := by rw [hw0]; exact (by repeat (first | exact Kp.refl _ _ | apply Kp.drew | apply Kp.drewN | refine Kp.setCell ?_ _ _ (Or.inl rfl) | apply Kp.alloc))
  have hr0 : w0.heap[w.heap.size]? = some (.cells #[.int .i64 0, .int .i64 0, .string ByteArray.empty] 66 (0, 0)) := by rw [hw0]; exact heap_old _ (heap_new _)
  have hb0 : w0.heap[w.heap.size + 1]? = some (.cells #[.bool !s.last, .bool s.last] 4 (0, 0)) := by rw [hw0]; exact heap_new2 (w := w) _ _
  rw [show ({ data := #[] } : ByteArray) = ByteArray.empty from rfl, ← hw0]
  clear hw0 c16
  obtain ⟨rs, hrs⟩ : ∃ rs, rs = w.heap.size := ⟨_, rfl⟩
  rw [← hrs] at hr0 hb0 ⊢
  have HRS := Lib.hid hrs; have HK0 := Lib.hid hk0; have HR0 := Lib.hid hr0; have HB0 := Lib.hid hb0
  clear hrs hk0 hr0 hb0
  go_wp2_with fail
  go_loopg [7, 8, 9, 10, 27] 2 (fun k _ _ _ _ i wr => ∃ (j : Nat) (s1 : Sd), k = 2 - j ∧ j ≤ 2 ∧ i = .int .i64 j ∧ SIn wr p s1 N ∧ St w0 wr s s1 ∧ ab s1 = ab s ∧ Vq now s s1 ∧ s1.Ws = s.Ws ∧ s1.D = s.D ∧ (1 ≤ j → ¬ pk s now (!s.last)) ∧ (2 ≤ j → ¬ pk s now s.last))
  case atStart => exact ⟨0, s, rfl, by omega, rfl, H.out.keep HK0.out (fun _ _ h => h), St.refl _ _, rfl, Vq.refl HT.out, rfl, rfl, fun h => absurd h (by omega), fun h => absurd h (by omega)⟩
  case round =>
    obtain ⟨j, s1, hk, hj, rfl, hsi, hst, hab, hvq, hws, hdd, hp1, hp2⟩ := hrel
    have HKk := Lib.hid hk; have HSI := Lib.hid hsi; have HST := Lib.hid hst; have HAB := Lib.hid hab; have HVQ := Lib.hid hvq; have HWS := Lib.hid hws; have HDD := Lib.hid hdd; have HP1 := Lib.hid hp1; have HP2 := Lib.hid hp2
    have hun : ∀ k, rs ≤ k → ¬ (s.col k).isSome := fun k e h => by have := H.out.lt k h; have := HRS.out; omega
    have hlr := lt_of_block HR0.out
    have hlb := lt_of_block HB0.out
    have HRr := Lib.hid (hst.kp.keep HR0.out (hun _ (Nat.le_refl _)))
    have HUN := Lib.hid hun
    by_cases hlt : j < 2
    · obtain ⟨lc, hlc⟩ : ∃ lc, lc = (if j = 0 then !s.last else s.last) := ⟨_, rfl⟩
      have cj : wr.cell? ⟨rs + 1, j, none⟩ = some (.bool lc) := by
        refine (hst.kp.cell j hlb (hun _ (by omega))).trans ?_
        rw [cell_of HB0.out, hlc]
        match j, hlt with
        | 0, _ => rfl
        | 1, _ => rfl
      have q2 : (0 : Int) ≤ (j : Int) := by omega
      have q3 : (j : Int) < 2 := by omega
      have HLC := Lib.hid hlc
      clear hk hsi hst hab hvq hws hdd hp1 hp2 hun hlc
      go_wp2_with fail
      refine (sturn_any p N s1 lc now _ HSI.out HVQ.out.le hn hn2 hN).mono ?_; intro e w2 hq
      by_cases hpk : pk s now lc
      · obtain ⟨m, s2, hbest, rfl, hsi2, hst2, hab2, hvq2, hws2, hdd2⟩ := hq.2 ((pk_same HVQ.out HWS.out HAB.out hn2).2 hpk)
        clear hq
        have hrs' := rsn_vq (loc := lc) HVQ.out HWS.out hn2
        have hrg' := rgA_ab (loc := lc) HAB.out
        rw [hrs', hrg'] at hbest
        have hbest' := best_same HVQ.out HWS.out hn2 hbest
        have hrd := hbest'.rd
        have hmW : m ∈ s2.Ws := by rw [hws2]; exact hbest.mem
        have HBE := Lib.hid hbest'
        have HAB2 := Lib.hid (show ab s2 = aTurn (ab s) lc (Fx (rsn s lc now) (rgA s lc)) from by
          rw [hab2]
          have a0 : s1.A0 = s.A0 := congrArg Ab.A0 HAB.out
          have a1 : s1.A1 = s.A1 := congrArg Ab.A1 HAB.out
          unfold aTurn
          cases lc with
          | true => simp only [if_true]; rw [hrs', HAB.out, a1]; rfl
          | false => simp only [Bool.false_eq_true, if_false]; rw [hrs', HAB.out, a0]; rfl)
        have HSI2 := Lib.hid hsi2; have HST2 := Lib.hid (HST.out.trans hst2); have HVQ2 := Lib.hid (HVQ.out.trans hvq2); have HDD2 := Lib.hid (hdd2.trans HDD.out); have HPK := Lib.hid hpk
        have hc2 : s2.c = s.c := congrArg Ab.c (by rw [HAB2.out]; unfold aTurn; split <;> rfl : ab s2 = { ab s2 with c := s.c })
        have hl2 : s2.last = s.last := by
          have : (ab s2).last = (ab s).last := by rw [HAB2.out]; unfold aTurn; split <;> rfl
          exact this
        have hG2 : s2.G = s.G := by
          have : (ab s2).G = (ab s).G := by rw [HAB2.out]; unfold aTurn; split <;> rfl
          exact this
        have hmb := hsi2.wts m hmW
        have x3 : w2.cell? ⟨m.blk, 3, none⟩ = some (.string m.dom) := (cell_of hmb 3).trans rfl
        have HMW := Lib.hid hmW
        clear hrs' hrg' hbest hsi2 hst2 hvq2 hws2 hdd2 hpk hab2 hmW hbest' hmb
        go_wp2_with fail
        refine (speer_any p N s2 m.dom now _ HSI2.out (HSI2.out.wfs m HMW.out).2.2 hN).mono ?_; rintro e w3 ⟨y, Ps3, col3, rfl, hyd, hpx, hcx, hsi3, hk3⟩
        have hv3 := HVQ2.out.trans (Vq.ext (s' := { s2 with Ps := Ps3, col := col3 }) HVQ2.out.le hn hn2 hpx rfl)
        have hst3 := HST2.out.trans (St.peer (Ps' := Ps3) HSI2.out hcx hk3)
        have hy3 := hpx.1
        obtain ⟨q4, q5, q6⟩ := pn_of hsi3.doms hy3
        obtain ⟨b1, b2, b3⟩ := hsi3.prs y hy3
        obtain ⟨ok1, ok2, ok3, ok4, ok5, _⟩ := hsi3.pok y hy3
        have hty := hv3.le y hy3
        have y0 : w3.cell? ⟨y.blk, 0, none⟩ = some (.pointer (some ⟨y.wb, 0, none⟩)) := (cell_of b1 0).trans rfl
        have y1 : w3.cell? ⟨y.blk, 1, none⟩ = some (.pointer (some ⟨y.tb, 0, none⟩)) := (cell_of b1 1).trans rfl
        have ly := lt_of_block b1
        have hwt : y.wb ≠ y.tb := col_neq (hsi3.cols.prs y hy3).2.1 (hsi3.cols.prs y hy3).2.2 rfl
        have hwy : y.wb ≠ y.blk := col_neq (hsi3.cols.prs y hy3).2.1 (hsi3.cols.prs y hy3).1 rfl
        have hbn : y.busy < y.now ∧ 0 < vT { s2 with Ps := Ps3, col := col3 } now y.dom := by
          unfold rdy at hrd
          simp only [Bool.and_eq_true, decide_eq_true_eq] at hrd
          obtain ⟨_, _, _, h4, h5⟩ := hrd
          rw [← hyd] at h4 h5
          rw [← hv3.n, ← hv3.b, q4, q5] at h4
          rw [← hv3.t now _ (Int.le_refl _) hn2] at h5
          exact ⟨h4, h5⟩
        have HYD := Lib.hid hyd; have HSI3 := Lib.hid hsi3; have HV3 := Lib.hid hv3; have HST3 := Lib.hid hst3; have HY3 := Lib.hid hy3; have HB2 := Lib.hid b2; have HB3 := Lib.hid b3; have HQ6 := Lib.hid q6; have HBN := Lib.hid hbn; have HOK := Lib.hid ok1
        clear hyd hpx hcx hsi3 hk3 hv3 hst3 hy3 q4 q5 q6 b1 b2 b3 hbn ok1 hrd x3
        go_wp2_with fail
        refine (wbegin_any y.wb _ _ _ _ HOK.out HB2.out).mono ?_; rintro e w4 ⟨rfl, hb4, hk4⟩
        have y1' := (hk4.cell 1 ly (fun h => hwy h.symm)).trans y1
        have HB4 := Lib.hid hb4; have HT4 := Lib.hid (hk4.keep HB3.out hwt.symm); have HK4 := Lib.hid hk4
        clear hb4 hk4 y0 y1
        go_wp2_with fail
        refine (btake_any y.tb _ _ _ _ now _ (by have := V_lo s2.c.burst; show 0 ≤ V s2.c.burst; omega) (V_hi _) HT4.out).mono ?_; rintro e w5 ⟨rfl, hb5, hk5⟩
        have hkk : Kp (fun k => k = y.wb ∨ k = y.tb) w3 w5 := (HK4.out.mono (fun _ _ h => Or.inl h)).trans (hk5.mono (fun _ _ h => Or.inr h))
        have hmx : max y.t (C now) = now := by rw [C_of hn hn2]; omega
        rw [hmx] at hb5
        have hB5 := hk5.keep HB4.out hwt
        obtain ⟨g1, g2⟩ := HSI3.out.setPeer HY3.out (y' := { y with busy := Bb y.now y.busy, l := Tl (V s2.c.rate) (V s2.c.burst) y.l y.t now, t := now }) rfl rfl rfl rfl hkk hB5 hb5 ⟨HOK.out.begin, by unfold Tl; simp only; omega, by have := Lf_hi (r := V s2.c.rate) (u := V s2.c.burst) (l := y.l) (t := y.t) (n := now); have := V_lo s2.c.burst; unfold Tl; simp only; omega, hn, hn2⟩
        have hvb := Vb.begun (now := now) (y' := { y with busy := Bb y.now y.busy, l := Tl (V s2.c.rate) (V s2.c.burst) y.l y.t now, t := now }) HSI3.out.doms HY3.out rfl rfl (by simp only [Bb, if_pos HBN.out.1]) (by
          have h1 := HBN.out.2
          rw [HQ6.out] at h1 ⊢
          simp only [Tl] at h1 ⊢
          omega) rfl HV3.out.le
        have HVB := Lib.hid (Vb.of_vq HV3.out hvb hc2 hn2)
        obtain ⟨s5, hs5⟩ : ∃ s5, s5 = { { s2 with Ps := Ps3, col := col3 } with Ps := Psub Ps3 { y with busy := Bb y.now y.busy, l := Tl (V s2.c.rate) (V s2.c.burst) y.l y.t now, t := now } } := ⟨_, rfl⟩
        have HS5 := Lib.hid (show ab s5 = ab s2 ∧ s5.Ws = s2.Ws ∧ s5.D = s2.D ∧ s5.G = s2.G ∧ s5.c = s2.c from by rw [hs5]; exact ⟨rfl, rfl, rfl, rfl, rfl⟩)
        have HVB5 := Lib.hid (show Vb now y.dom s s5 by rw [hs5]; exact HVB.out)
        have HSI5 := Lib.hid (show SIn w5 p s5 N by rw [hs5]; exact g1)
        have HST5 := Lib.hid (show St w0 w5 s s5 by rw [hs5]; exact HST3.out.trans g2)
        clear hs5 g1 g2 hvb HVB hb5 hk5 hB5 hkk hmx y1' HK4 HT4 HB4 HB3 HB2 HY3 HSI3 HST3
        have hm5 : m ∈ s5.Ws := by rw [HS5.out.2.1]; exact HMW.out
        have hmb := HSI5.out.wts m hm5
        have f5 := frozen_of hmb 5
        have x5 : w5.cell? ⟨m.blk, 5, none⟩ = some (.bool m.go) := (cell_of hmb 5).trans rfl
        have hhd := HSI5.out.head
        have f16 := frozen_of hhd 16
        have c16 : w5.cell? ⟨p, 16, none⟩ = some (.bool s5.last) := (cell_of hhd 16).trans rfl
        have hpm : p ≠ m.blk := col_neq HSI5.out.cols.head (HSI5.out.cols.wts m hm5) rfl
        obtain ⟨u1, u2⟩ := HSI5.out.setWait (g := true) (n := m.nx) hm5 (fun h => by cases h) (((Kp.refl (· = m.blk) w5).setCell ⟨m.blk, 5, none⟩ (.bool true) (Or.inl rfl))) ((heap_set hmb (i := 5) _).trans rfl)
        obtain ⟨u3, u4⟩ := u1.setLast (l := lc) ((Kp.refl (· = p) _).setCell ⟨p, 16, none⟩ (.bool lc) (Or.inl rfl)) ((heap_set u1.head (i := 16) _).trans rfl)
        have hkW : ∀ z ∈ s5.Ws, (z.id, z.rc) = (m.id, m.rc) → z = m := fun z hz e => HSI5.out.key_eq hz hm5 e
        have HA7 := Lib.hid (show ab { setW s5 (Go1 m true m.nx) with last := lc } = { aGo (aTurn (ab s) lc (Fx (rsn s lc now) (rgA s lc))) (m.id, m.rc) true (fun n => n) with last := lc } from by
          have e1 := ab_setW s5 m true m.nx hm5 hkW
          have e2 : ab { setW s5 (Go1 m true m.nx) with last := lc } = { ab (setW s5 (Go1 m true m.nx)) with last := lc } := rfl
          rw [e2, e1, HS5.out.1, HAB2.out, aGo_same (n0 := m.nx)]
          intro z hz e
          rw [← HAB2.out] at hz
          obtain ⟨z', hz', rfl⟩ := List.mem_map.1 hz
          have : z' = m := HSI2.out.key_eq hz' HMW.out e
          subst this
          rfl)
        have hx7 : Go1 m true m.nx ∈ (setW s5 (Go1 m true m.nx)).Ws := List.mem_map.2 ⟨m, hm5, by rw [if_pos]; rfl⟩
        have HVB7 := Lib.hid (HVB5.out.then (s2 := { setW s5 (Go1 m true m.nx) with last := lc }) rfl rfl)
        have HD7 := Lib.hid (show ({ setW s5 (Go1 m true m.nx) with last := lc } : Sd).D = s.D from HS5.out.2.2.1.trans HDD2.out)
        have HG7 := Lib.hid (show ({ setW s5 (Go1 m true m.nx) with last := lc } : Sd).G = s.G from HS5.out.2.2.2.1.trans hG2)
        have HX7 := Lib.hid (show Go1 m true m.nx ∈ ({ setW s5 (Go1 m true m.nx) with last := lc } : Sd).Ws from hx7)
        obtain ⟨s7, hs7⟩ : ∃ s7 : Sd, s7 = { setW s5 (Go1 m true m.nx) with last := lc } := ⟨_, rfl⟩
        have HST7 := Lib.hid (show St w0 ((w5.setCell ⟨m.blk, 5, none⟩ (.bool true)).setCell ⟨p, 16, none⟩ (.bool lc)) s s7 by rw [hs7]; exact (HST5.out.trans u2).trans u4)
        have HSI7 := Lib.hid (show SIn ((w5.setCell ⟨m.blk, 5, none⟩ (.bool true)).setCell ⟨p, 16, none⟩ (.bool lc)) p s7 N by rw [hs7]; exact u3)
        rw [← hs7] at HA7 HVB7 HD7 HG7 HX7
        clear u1 u2 u3 u4 hs7 hkW hhd hx7 HVB5 HSI5 HST5
        go_wp2_with fail
        obtain ⟨w7, hw7⟩ : ∃ w7, w7 = (w5.setCell ⟨m.blk, 5, none⟩ (.bool true)).setCell ⟨p, 16, none⟩ (.bool lc) := ⟨_, rfl⟩
        rw [← hw7] at HST7 HSI7 ⊢
        clear hw7 x5 f5 f16 c16 hmb
        have hgng := HSI7.out.gng
        obtain ⟨vo, vc, hvg⟩ := hgng.slice
        have hGl : s7.G.length ≤ N := Nat.le_trans HSI7.out.glen HSI7.out.lw
        have hm7 := HSI7.out.wts _ HX7.out
        have k0 : w7.cell? ⟨m.blk, 0, none⟩ = some (.int .i64 m.id) := (cell_of hm7 0).trans rfl
        have k1 : w7.cell? ⟨m.blk, 1, none⟩ = some (.int .i64 m.rc) := (cell_of hm7 1).trans rfl
        have c15 : w7.cell? ⟨p, 15, none⟩ = some s7.vg := (cell_of HSI7.out.head 15).trans rfl
        have f15 := frozen_of HSI7.out.head 15
        have hpg : ∀ k, s7.vg.ownBlock = some k → p ≠ k := fun k e => col_neq HSI7.out.cols.head (HSI7.out.cols.gng k e) rfl
        have lp7 := lt_of_block HSI7.out.head
        have lm7 := lt_of_block hm7
        have hm7a := lt_of_block hm7
        rw [hvg] at c15 hgng hpg
        have HGN := Lib.hid hgng; have HPG := Lib.hid hpg; have HVG := Lib.hid hvg
        clear hgng hpg hvg hm7 hm7a
        go_region_law (first | (refine step_append_lies _ rfl _ _ 91 rfl 0 95 i0 _ 2 16 Try.underlying91 hi hz0 hz1 hz2 rfl (by decide) (.slice vo s7.G.length vc) s7.G.length (Gc s7.G) rfl (by exact HGN.out.alloc _) ⟨w7.heap.size, 0, none⟩ 1 1 [.int .i64 m.id, .int .i64 m.rc] rfl rfl (lit_news _ rfl) two_ints (by omega) (by unfold maxLen; omega) (by omega) (by omega) _ rfl ?_; intro g cap1 w8 hown8 hgrow8 hat8 hlt8; have hk8 : Kp (In (.slice vo s7.G.length vc)) w7 w8 := ((Kp.refl _ w7).alloc (.cells #[.int .i64 m.id, .int .i64 m.rc] 95)).drew.trans (show Kp (In (.slice vo s7.G.length vc)) _ w8 from Kp.of_grown' hgrow8); have k15 := (hk8.cell 15 lp7 (fun h => HPG.out _ h rfl)).trans c15; have e15 := (hk8.frozen 15 lp7 (fun h => HPG.out _ h rfl)).trans f15; have HO8 := Lib.hid (own_weaken hown8); have HK8 := Lib.hid hk8; have HAT8 := Lib.hid hat8; clear hown8 hgrow8 hat8 hk8))
        all_goals
          have hnotin : (m.id, m.rc) ∉ s7.G := by
            rw [HG7.out, ← hG2]
            refine HSI2.out.notin HMW.out ?_
            have hrd := HBE.out.rd
            unfold rdy at hrd
            simp only [Bool.and_eq_true, Bool.not_eq_true'] at hrd
            exact hrd.2.1
          have hw9 : w8.heap[p]? = some (.cells (Hd s7) 93 (0, 0)) := HK8.out.keep HSI7.out.head (fun h => HPG.out _ h rfl)
          have hgp : g ≠ p := fun e => by
            rcases HAT8.out with h | h
            · exact HPG.out g h e.symm
            · simp at h; omega
          obtain ⟨v1, v2⟩ := HSI7.out.setGoing (vg := .slice (some ⟨g, 0, none⟩) (s7.G.length + 1) cap1) (G := s7.G ++ [(m.id, m.rc)]) (w' := w8.setCell ⟨p, 15, none⟩ (.slice (some ⟨g, 0, none⟩) (s7.G.length + 1) cap1)) ((heap_set hw9 (i := 15) _).trans rfl) (by
            rw [List.length_append, Gc_app]
            exact Own.keep HO8.out ((Kp.refl (· = p) w8).setCell ⟨p, 15, none⟩ _ (Or.inl rfl)) (fun k hk h => hgp (by
              have : g = k := by simpa [Value.ownBlock] using hk
              exact this.trans h))) (by
            rw [HVG.out]
            rcases HAT8.out with h | h
            · exact Or.inl h.symm
            · refine Or.inr fun k hk => ?_
              have : g = k := by simpa [Value.ownBlock] using hk
              simp at h; omega) ((HK8.out.mono (fun k _ h => by rw [HVG.out]; exact Or.inr h)).setCell ⟨p, 15, none⟩ _ (Or.inl (Or.inl rfl))) (fun k hk => by
            rcases List.mem_append.1 hk with hk | hk
            · exact HSI7.out.gin k hk
            · obtain rfl := List.mem_singleton.1 hk
              exact ⟨_, HX7.out, rfl, rfl⟩) (List.nodup_append.2 ⟨HSI7.out.gnd, by simp, fun a ha b hb e => by
            obtain rfl := List.mem_singleton.1 hb
            exact hnotin (e ▸ ha)⟩)
          have HSI9 := Lib.hid v1; have HST9 := Lib.hid (HST7.out.trans v2)
          have HVB9 := Lib.hid (HVB7.out.then (s2 := setG s7 (.slice (some ⟨g, 0, none⟩) (s7.G.length + 1) cap1) (s7.G ++ [(m.id, m.rc)])) rfl rfl)
          have HA9 := Lib.hid (show ab (setG s7 (.slice (some ⟨g, 0, none⟩) (s7.G.length + 1) cap1) (s7.G ++ [(m.id, m.rc)])) = aBegin (ab s) lc (Fx (rsn s lc now) (rgA s lc)) (m.id, m.rc) from by
            have e1 : ab (setG s7 (.slice (some ⟨g, 0, none⟩) (s7.G.length + 1) cap1) (s7.G ++ [(m.id, m.rc)])) = { ab s7 with G := s7.G ++ [(m.id, m.rc)] } := rfl
            rw [e1, HA7.out, HG7.out]; rfl)
          have hcs : s.col rs = none := by
            cases hc : s.col rs with
            | none => rfl
            | some c => exact absurd (by rw [hc]; rfl) (HUN.out rs (Nat.le_refl _))
          have HCN := Lib.hid (HST9.out.none hlr hcs)
          have hr9 := HST9.out.kp.keep HR0.out (HUN.out rs (Nat.le_refl _))
          have HR9 := Lib.hid hr9
          have HM9 := Lib.hid (v1.wts (Go1 m true m.nx) HX7.out)
          have hpl : pkl s now = lc := by
            unfold pkl
            by_cases e : j = 0
            · have hl := HLC.out
              rw [if_pos e] at hl
              have := HPK.out
              rw [hl] at this
              rw [if_pos this, hl]
            · have hl := HLC.out
              rw [if_neg e] at hl
              rw [if_neg (HP1.out (by omega)), hl]
          have hor : pk s now (!s.last) ∨ pk s now s.last := by
            have hl := HLC.out
            by_cases e : j = 0
            · rw [if_pos e] at hl; rw [← hl]; exact Or.inl HPK.out
            · rw [if_neg e] at hl; rw [← hl]; exact Or.inr HPK.out
          have HFIN := Lib.hid (show ∀ wz, Kp (· = rs) (w8.setCell ⟨p, 15, none⟩ (.slice (some ⟨g, 0, none⟩) (s7.G.length + 1) cap1)) wz → Spick p N s now w (.returned (.tuple #[.agg #[.int .i64 m.id, .int .i64 m.rc, .string m.dom], .bool true])) wz from fun wz hkz =>
            ⟨fun h => absurd hor (by rintro (h1 | h1); exact h.1 h1; exact h.2 h1), fun _ => ⟨m, _, by rw [hpl]; exact HBE.out, rfl, HSI9.out.keep hkz (fun k e e2 => by have e3 : k = rs := e2; subst e3; exact none_some HCN.out e), ((St.of HK0.out (fun _ _ h => h.elim) rfl).trans HST9.out).past hkz (fun k e => by have e3 : k = rs := e; have := HRS.out; omega), by rw [hpl]; exact HA9.out, HYD.out ▸ HVB9.out, HD7.out⟩⟩)
          clear v1 v2 hnotin hw9 hgp hcs hr9 hpl hor
          go_wp2_with fail
          refine (sstart_any (Go1 m true m.nx) _ HM9.out _).mono ?_; rintro e w10 ⟨rfl, hk10⟩
          have hr10 := hk10.keep HR9.out (fun h => h)
          have r1 := cell_of hr10 0
          have r2 := cell_of hr10 1
          have r3 := cell_of hr10 2
          simp only [List.getElem?_toArray, List.getElem?_cons_zero, List.getElem?_cons_succ] at r1 r2 r3
          have e1 := frozen_of hr10 0
          have e2 := frozen_of hr10 1
          have e3 := frozen_of hr10 2
          have HFIN2 := Lib.hid (fun wz (h : Kp (· = rs) w10 wz) => HFIN.out wz ((hk10.mono (fun _ _ h => h.elim)).trans h))
          clear hk10 hr10
          go_wp2_with fail
          refine bodyPost_ret (v := .tuple #[.agg #[.int .i64 m.id, .int .i64 m.rc, .string m.dom], .bool true]) ?_ rfl (HFIN2.out _ ?_)
          · rw [results_cell_tmp rfl]
            go_simp
            exact ⟨rfl, rfl, rfl⟩
          · exact (by repeat (first | exact Kp.refl _ _ | apply Kp.drew | apply Kp.drewN | refine Kp.setCell ?_ _ _ (Or.inl rfl) | apply Kp.alloc))
      · obtain ⟨rfl, s2, hsi2, hst2, hab2, hvq2, hws2, hdd2⟩ := hq.1 (fun h => hpk ((pk_same HVQ.out HWS.out HAB.out hn2).1 h))
        clear hq
        have HSI2 := Lib.hid hsi2; have HST2 := Lib.hid (HST.out.trans hst2); have HAB2 := Lib.hid (hab2.trans HAB.out); have HVQ2 := Lib.hid (HVQ.out.trans hvq2); have HWS2 := Lib.hid (hws2.trans HWS.out); have HDD2 := Lib.hid (hdd2.trans HDD.out); have HPK := Lib.hid hpk
        clear hsi2 hst2 hab2 hvq2 hws2 hdd2 hpk
        go_wp2_with fail
        go_roundg (2 - (j + 1))
        case measure => rw [HKk.out]; omega
        case rel => exact ⟨j + 1, s2, rfl, by omega, by go_num, HSI2.out, HST2.out, HAB2.out, HVQ2.out, HWS2.out, HDD2.out, fun _ => by
          by_cases e : j = 0
          · have := HPK.out; rw [HLC.out, if_pos e] at this; exact this
          · exact HP1.out (by omega), fun h2 => by
          have := HPK.out; rw [HLC.out, if_neg (by omega)] at this; exact this⟩
    · have hj2 : j = 2 := by omega
      subst hj2
      have HZ := Lib.hid (show ∀ wz, Kp (· = rs) wr wz → Spick p N s now w (.returned (.tuple #[z3, .bool false])) wz from fun wz hkz =>
        ⟨fun _ => ⟨rfl, s1, hsi.keep hkz (fun k e e2 => by
          have e3 : k = rs := e2
          subst e3
          rcases hst.new _ e with e4 | e4
          · exact hun _ (Nat.le_refl _) e4
          · omega), ((St.of HK0.out (fun _ _ h => h.elim) rfl).trans hst).past hkz (fun k e => by have e3 : k = rs := e; have := HRS.out; omega), hab, hvq, hdd⟩, fun h => absurd h (by
          rintro (h | h)
          · exact hp1 (by omega) h
          · exact hp2 (by omega) h)⟩)
      clear hk hsi hst hab hvq hws hdd hp1 hp2 hun
      have r1 := cell_of HRr.out 0
      have r2 := cell_of HRr.out 1
      have r3 := cell_of HRr.out 2
      simp only [List.getElem?_toArray, List.getElem?_cons_zero, List.getElem?_cons_succ] at r1 r2 r3
      have e1 := frozen_of HRr.out 0
      have e2 := frozen_of HRr.out 1
      have e3 := frozen_of HRr.out 2
      go_wp2_with fail
      refine bodyPost_ret (v := .tuple #[z3, .bool false]) ?_ rfl (HZ.out _ ?_)
      · rw [results_cell_tmp rfl]
        go_simp
        rfl
      · exact (by repeat (first | exact Kp.refl _ _ | apply Kp.drew | apply Kp.drewN | refine Kp.setCell ?_ _ _ (Or.inl rfl) | apply Kp.alloc))
end Go.Proofs.Ytbiahndpfbmoeaa
