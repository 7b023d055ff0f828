/- What a scheduler's End does: the walk. Conditions: there are no more recipients than fit into memory. -/
import Derived.Test.YtbiahndpfbmoeaaSd18
namespace Go.Proofs.Ytbiahndpfbmoeaa
open Go.RowKit Go.Maps SatAid Go.MapKept Go.ChangeMaps Go.WideShapes

set_option maxRecDepth 100000 in
set_option maxHeartbeats 6400000 in
theorem send_no (p N : Nat) (s : Sd) (i : Int) (good stays : Bool) (n : Int) (w : World) (h : SIn w p s N) (hi : i < 0 ∨ (s.G.length : Int) ≤ i) :
    Calls Try.prog 32 #[.pointer (some ⟨p, 0, none⟩), .int .i64 i, .bool good, .bool stays, .int .i64 n] w fun e w' => e = .returned (.tuple #[z3, .bool false]) ∧ Kp (fun _ => False) w w' := by
  obtain ⟨vo, vc, hvg⟩ := h.gng.slice
  have c15 : w.cell? ⟨p, 15, none⟩ = some s.vg := (cell_of h.head 15).trans rfl
  rw [hvg] at c15
  have lp := lt_of_block h.head
  clear h hvg
  by_cases h1 : i < 0
  · clear hi
    go_enter Try.func32, Try.ntmps32
    go_wp2_with fail
    refine bodyPost_ret (v := .tuple #[z3, .bool false]) ?_ rfl ⟨rfl, (by repeat (first | exact Kp.refl _ _ | apply Kp.drew | apply Kp.drewN | refine Kp.setCell ?_ _ _ (Or.inl rfl) | apply Kp.alloc))⟩
    rw [results_cell_tmp rfl]
    go_simp
    rfl
  · have h2 : (s.G.length : Int) ≤ i := by omega
    clear hi
    go_enter Try.func32, Try.ntmps32
    go_wp2_with fail
    refine bodyPost_ret (v := .tuple #[z3, .bool false]) ?_ rfl ⟨rfl, (by repeat (first | exact Kp.refl _ _ | apply Kp.drew | apply Kp.drewN | refine Kp.setCell ?_ _ _ (Or.inl rfl) | apply Kp.alloc))⟩
    rw [results_cell_tmp rfl]
    go_simp
    rfl
set_option maxRecDepth 100000 in
set_option maxHeartbeats 6400000 in
theorem send_yes (p N : Nat) (s : Sd) (i : Nat) (good stays : Bool) (n now : Int) (w : World) (h : SIn w p s N) (hi : i < s.G.length) (ht : Tik s now) (hn : 0 ≤ now) (hn2 : now ≤ 1099511627776) (hN : N ≤ 1000000) :
    Calls Try.prog 32 #[.pointer (some ⟨p, 0, none⟩), .int .i64 i, .bool good, .bool stays, .int .i64 n] w fun e w' =>
      ∃ x s', x ∈ s.Ws ∧ s.G[i]? = some (x.id, x.rc) ∧ e = .returned (.tuple #[.agg #[.int .i64 x.id, .int .i64 x.rc, .string x.dom], .bool true]) ∧ SIn w' p s' N ∧ St w w' s s' ∧
        ab s' = aEnd (ab s) i (wx x) stays (C n) ∧ Ve now x.dom good s s' := by
  obtain ⟨k, hk⟩ : ∃ k, s.G[i]? = some k := ⟨_, List.getElem?_eq_getElem hi⟩
  obtain ⟨x, hx, hxk, hxg⟩ := h.gin k (List.mem_of_getElem? hk)
  subst hxk
  rcases h.gng.shape with ⟨_, h1, _⟩ | ⟨g, vc, hvg, hcap, hcm, hg⟩
  · omega
  have hgng := h.gng
  rw [hvg] at hgng
  have c13 : w.cell? ⟨p, 12, none⟩ = some (.map (some s.bm)) := (cell_of h.head 12).trans rfl
  have c15 : w.cell? ⟨p, 15, none⟩ = some s.vg := (cell_of h.head 15).trans rfl
  rw [hvg] at c15
  have g0 := hgng.cell (Gc_get hk).1
  have g1 := hgng.cell (Gc_get hk).2
  have lp := lt_of_block h.head
  have q0 : (0 : Int) ≤ (i : Int) := by omega
  have q1 : (i : Int) < (s.G.length : Int) := by omega
  have q2 : ¬ (i : Int) < 0 := by omega
  have q3 : ¬ (s.G.length : Int) ≤ (i : Int) := by omega
  have hGl : s.G.length ≤ N := Nat.le_trans h.glen h.lw
  have hka : Kp (fun _ => False) w (w.alloc (.cells #[.int .i64 0, .int .i64 0, .string ({ data := #[] } : ByteArray)] 66)) := (by repeat (first | exact Kp.refl _ _ | apply Kp.drew | apply Kp.drewN | refine Kp.setCell ?_ _ _ (Or.inl rfl) | apply Kp.alloc))
  have hlk := fun m => (MapAt.look (h.bym.keep (hka.drewN m) (fun h => h)) key_keyed Try.underlying88 (wzero _) (key_lit (h.wfs x hx).1 (h.wfs x hx).2.1) (wm_mem hx)).2
  unfold Kv at hlk
  have H := Lib.hid h; have HX := Lib.hid hx; have HK := Lib.hid hk; have HT := Lib.hid ht; have HVG := Lib.hid hvg; have HGN := Lib.hid hgng; have HXG := Lib.hid hxg
  clear h hx hk ht hvg hgng hxg
  go_enter Try.func32, Try.ntmps32
  go_wp2_with fail
  go_quiet (fail)
  go_wp2_with fail
  obtain ⟨w1, hw1⟩ : ∃ w1, w1 = (w.alloc (.cells #[.int .i64 0, .int .i64 0, .string ({ data := #[] } : ByteArray)] 66)).drewN nq := ⟨_, rfl⟩
  have hk1 : Kp (fun _ => False) w w1 := by rw [hw1]; exact (by repeat (first | exact Kp.refl _ _ | apply Kp.drew | apply Kp.drewN | refine Kp.setCell ?_ _ _ (Or.inl rfl) | apply Kp.alloc))
  have hr1 : w1.heap[w.heap.size]? = some (.cells #[.int .i64 0, .int .i64 0, .string ByteArray.empty] 66 (0, 0)) := by rw [hw1]; exact heap_new _
  rw [← hw1]
  clear hw1 hka hlk c13 g0 g1
  obtain ⟨rs, hrs⟩ : ∃ rs, rs = w.heap.size := ⟨_, rfl⟩
  rw [← hrs] at hr1 ⊢
  have HRS := Lib.hid hrs; have HK1 := Lib.hid hk1; have HR1 := Lib.hid hr1
  have HSI1 := Lib.hid (H.out.keep hk1 (fun _ _ h => h))
  have HGN1 := Lib.hid (HGN.out.keep hk1 (fun _ _ h => h))
  have d15 := (hk1.cell 15 lp (fun h => h)).trans c15
  have f15 := frozen_of HSI1.out.head 15
  have hpg : p ≠ g := col_neq H.out.cols.head (H.out.cols.gng g (by rw [HVG.out]; rfl)) rfl
  have lp1 := lt_of_block HSI1.out.head
  have hlr := lt_of_block HR1.out
  clear hrs hk1 hr1 c15 lp
  refine (kdel_any g vc i s.G _ HGN1.out hi (by omega)).mono ?_; rintro e w2 ⟨rfl, ho2, hk2⟩
  have e15 := (hk2.cell 15 lp1 hpg).trans d15
  have e15f := (hk2.frozen 15 lp1 hpg).trans f15
  have hhead2 := hk2.keep HSI1.out.head hpg
  have hk3 : Kp (fun k => k = p ∨ In s.vg k) w1 (w2.setCell ⟨p, 15, none⟩ (.slice (some ⟨g, 0, none⟩) (s.G.length - 1) vc)) := (hk2.mono (fun k _ h => by have h' : k = g := h; subst h'; rw [HVG.out]; exact Or.inr rfl)).setCell ⟨p, 15, none⟩ _ (Or.inl (Or.inl rfl))
  obtain ⟨v1, v2⟩ := HSI1.out.setGoing (vg := .slice (some ⟨g, 0, none⟩) (s.G.length - 1) vc) (G := CutG i s.G) (w' := w2.setCell ⟨p, 15, none⟩ (.slice (some ⟨g, 0, none⟩) (s.G.length - 1) vc)) ((heap_set hhead2 (i := 15) _).trans rfl) (by
    rw [CutG_len hi]
    exact ho2.keep ((Kp.refl (· = p) w2).setCell ⟨p, 15, none⟩ _ (Or.inl rfl)) (fun k hk h => hpg (by
      have h1 : g = k := by simpa [Value.ownBlock] using hk
      have h2 : k = p := h
      rw [h1, h2]))) (Or.inl (by rw [HVG.out]; rfl)) hk3 (fun k hk => H.out.gin k (CutG_sub hk)) (CutG_nodup H.out.gnd)
  have HSI3 := Lib.hid v1; have HST3 := Lib.hid ((St.of (s' := s) HK1.out (fun _ _ h => h.elim) rfl).trans v2)
  obtain ⟨s3, hs3⟩ : ∃ s3, s3 = setG s (.slice (some ⟨g, 0, none⟩) (s.G.length - 1) vc) (CutG i s.G) := ⟨_, rfl⟩
  have HE3 := Lib.hid (show ab s3 = { ab s with G := CutG i (ab s).G } ∧ s3.Ws = s.Ws ∧ s3.D = s.D ∧ s3.G = CutG i s.G ∧ s3.c = s.c ∧ s3.Ps = s.Ps from by rw [hs3]; exact ⟨rfl, rfl, rfl, rfl, rfl, rfl⟩)
  rw [← hs3] at HSI3 HST3
  have HSW := Lib.hid v2
  rw [← hs3] at HSW
  clear hs3 v1 v2 hk3 ho2 hhead2
  have hx3 : x ∈ s3.Ws := by rw [HE3.out.2.1]; exact HX.out
  have hmb3 := HSI3.out.wts x hx3
  have x3 : (w2.setCell ⟨p, 15, none⟩ (.slice (some ⟨g, 0, none⟩) (s.G.length - 1) vc)).cell? ⟨x.blk, 3, none⟩ = some (.string x.dom) := (cell_of hmb3 3).trans rfl
  have HX3 := Lib.hid hx3
  clear hk2 hmb3 d15 f15 hx3
  go_wp2_with fail
  obtain ⟨w3, hw3⟩ : ∃ w3, w3 = w2.setCell ⟨p, 15, none⟩ (.slice (some ⟨g, 0, none⟩) (s.G.length - 1) vc) := ⟨_, rfl⟩
  rw [← hw3] at HSI3 HST3 HSW ⊢
  clear hw3 e15 e15f x3
  refine (speer_any p N s3 x.dom 0 _ HSI3.out (HSI3.out.wfs x HX3.out).2.2 hN).mono ?_; rintro e w4 ⟨y, Ps4, col4, rfl, hyd, hpx, hcx, hsi4, hk4⟩
  have ht3 : Tik s3 now := by unfold Tik; rw [HE3.out.2.2.2.2.2]; exact HT.out
  have hv4 := (Vq.of HE3.out.2.2.2.2.2 HE3.out.2.2.2.2.1 HT.out).trans (Vq.ext0 (s := s3) (s' := { s3 with Ps := Ps4, col := col4 }) ht3 (Int.le_refl 0) hn hn2 hpx rfl)
  have hst4 := HST3.out.trans (St.peer (Ps' := Ps4) HSI3.out hcx hk4)
  have hsw4 := HSW.out.trans (St.peer (Ps' := Ps4) HSI3.out hcx hk4)
  have hy4 := hpx.1
  obtain ⟨b1, b2, b3⟩ := hsi4.prs y hy4
  obtain ⟨ok1, ok2, ok3, ok4, ok5, _⟩ := hsi4.pok y hy4
  have y0 : w4.cell? ⟨y.blk, 0, none⟩ = some (.pointer (some ⟨y.wb, 0, none⟩)) := (cell_of b1 0).trans rfl
  have hwt : y.wb ≠ y.tb := col_neq (hsi4.cols.prs y hy4).2.1 (hsi4.cols.prs y hy4).2.2 rfl
  have HYD := Lib.hid hyd; have HSI4 := Lib.hid hsi4; have HV4 := Lib.hid hv4; have HST4 := Lib.hid hst4; have HSW4 := Lib.hid hsw4; have HY4 := Lib.hid hy4; have HB2 := Lib.hid b2; have HB3 := Lib.hid b3; have HOK := Lib.hid ok1
  clear hyd hpx hcx hsi4 hk4 hv4 hst4 hsw4 hy4 b1 b2 b3 ok1 ht3 HSI3 HST3 HSW
  go_wp2_with fail
  refine (wend_any y.wb good _ _ _ _ HOK.out HB2.out).mono ?_; rintro e w5 ⟨rfl, hb5, hk5⟩
  have hT5 := hk5.keep HB3.out hwt.symm
  obtain ⟨g1, g2⟩ := HSI4.out.setPeer HY4.out (y' := { y with now := En good (V8 s3.c.win) y.now y.busy, busy := Eb y.busy }) rfl rfl rfl rfl (hk5.mono (fun _ _ h => Or.inl h)) hb5 hT5 ⟨HOK.out.ends good, ok2, ok3, ok4, ok5⟩
  have hve := Ve.of_vq HV4.out (Ve.ended (g := good) (y' := { y with now := En good (V8 s3.c.win) y.now y.busy, busy := Eb y.busy }) HSI4.out.doms HY4.out rfl rfl rfl rfl rfl HV4.out.le) HE3.out.2.2.2.2.1
  obtain ⟨s5, hs5⟩ : ∃ s5, s5 = { { s3 with Ps := Ps4, col := col4 } with Ps := Psub Ps4 { y with now := En good (V8 s3.c.win) y.now y.busy, busy := Eb y.busy } } := ⟨_, rfl⟩
  have HS5 := Lib.hid (show ab s5 = ab s3 ∧ s5.Ws = s3.Ws ∧ s5.D = s3.D ∧ s5.G = s3.G from by rw [hs5]; exact ⟨rfl, rfl, rfl, rfl⟩)
  have HVE5 := Lib.hid (show Ve now y.dom good s s5 by rw [hs5]; exact hve)
  have HSI5 := Lib.hid (show SIn w5 p s5 N by rw [hs5]; exact g1)
  have HST5 := Lib.hid (show St w w5 s s5 by rw [hs5]; exact HST4.out.trans g2)
  have HSW5 := Lib.hid (show St w1 w5 s s5 by rw [hs5]; exact HSW4.out.trans g2)
  clear hs5 g1 g2 hve hb5 hk5 hT5 y0 HST4 HSW4 HSI4 HB2 HB3 HY4 HV4
  have hx5 : x ∈ s5.Ws := by rw [HS5.out.2.1]; exact HX3.out
  have hmb := HSI5.out.wts x hx5
  have f5 := frozen_of hmb 5
  have f6 := frozen_of hmb 6
  have x5 : w5.cell? ⟨x.blk, 5, none⟩ = some (.bool x.go) := (cell_of hmb 5).trans rfl
  have x6 : w5.cell? ⟨x.blk, 6, none⟩ = some (.int .i64 x.nx) := (cell_of hmb 6).trans rfl
  have hni : (x.id, x.rc) ∉ s5.G := by rw [HS5.out.2.2.2, HE3.out.2.2.2.1]; exact CutG_notin H.out.gnd HK.out
  obtain ⟨u1, u2⟩ := HSI5.out.setWait (w' := (w5.setCell ⟨x.blk, 5, none⟩ (.bool false)).setCell ⟨x.blk, 6, none⟩ (.int .i64 (C n))) (g := false) (n := C n) hx5 (fun _ => hni) (((Kp.refl (· = x.blk) w5).setCell ⟨x.blk, 5, none⟩ (.bool false) (Or.inl rfl)).setCell ⟨x.blk, 6, none⟩ _ (Or.inl rfl)) ((heap_set (heap_set hmb (i := 5) _) (i := 6) _).trans rfl)
  have HA7 := Lib.hid (show ab (setW s5 (Go1 x false (C n))) = aGo { ab s with G := CutG i (ab s).G } (x.id, x.rc) false (fun _ => C n) from by
    rw [ab_setW s5 x false (C n) hx5 (fun z hz e => HSI5.out.key_eq hz hx5 e), HS5.out.1, HE3.out.1])
  have hx7 : Go1 x false (C n) ∈ (setW s5 (Go1 x false (C n))).Ws := List.mem_map.2 ⟨x, hx5, by rw [if_pos]; rfl⟩
  have HVE7 := Lib.hid (HVE5.out.then (s2 := setW s5 (Go1 x false (C n))) rfl rfl)
  obtain ⟨s7, hs7⟩ : ∃ s7, s7 = setW s5 (Go1 x false (C n)) := ⟨_, rfl⟩
  have HNI := Lib.hid (show (x.id, x.rc) ∉ s7.G by rw [hs7]; exact hni)
  have HST7 := Lib.hid (HST5.out.trans u2); have HSW7 := Lib.hid (HSW5.out.trans u2); have HSI7 := Lib.hid u1; have HX7 := Lib.hid hx7
  rw [← hs7] at HST7 HSW7 HSI7 HX7 HA7 HVE7
  clear hs7 u1 u2 hx7 hmb hni HSI5 HST5 HSW5 HVE5
  have hun : ∀ k, rs ≤ k → ¬ (s.col k).isSome := fun k e h => by have := H.out.lt k h; have := HRS.out; omega
  have hcs : s.col rs = none := by
    cases hc : s.col rs with
    | none => rfl
    | some c => exact absurd (by rw [hc]; rfl) (hun rs (Nat.le_refl _))
  have HUN := Lib.hid hun; have HCS := Lib.hid hcs
  clear hun hcs
  go_wp2_with fail
  refine (clamp_any _ _).mono ?_; rintro e w6 ⟨rfl, rfl⟩
  cases stays with
  | true =>
    have HFIN := Lib.hid (show ∀ wz, Kp (· = rs) ((w5.setCell ⟨x.blk, 5, none⟩ (.bool false)).setCell ⟨x.blk, 6, none⟩ (.int .i64 (C n))) wz → ∃ x' s', x' ∈ s.Ws ∧ s.G[i]? = some (x'.id, x'.rc) ∧ (Ending.returned (.tuple #[.agg #[.int .i64 x.id, .int .i64 x.rc, .string x.dom], .bool true])) = .returned (.tuple #[.agg #[.int .i64 x'.id, .int .i64 x'.rc, .string x'.dom], .bool true]) ∧ SIn wz p s' N ∧ St w wz s s' ∧ ab s' = aEnd (ab s) i (wx x') true (C n) ∧ Ve now x'.dom good s s' from fun wz hkz =>
      ⟨x, s7, HX.out, HK.out, rfl, HSI7.out.keep hkz (fun k e e2 => by have e3 : k = rs := e2; subst e3; exact none_some (HSW7.out.none hlr HCS.out) e), HST7.out.past hkz (fun k e => by have e3 : k = rs := e; have := HRS.out; omega), HA7.out, HYD.out ▸ HVE7.out⟩)
    have HM7 := Lib.hid (HSI7.out.wts _ HX7.out)
    have HR7 := Lib.hid (HSW7.out.kp.keep HR1.out (HUN.out rs (Nat.le_refl _)))
    go_wp2_with fail
    refine (sstart_any (Go1 x false (C n)) _ HM7.out _).mono ?_; rintro e w10 ⟨rfl, hk10⟩
    have hr10 := hk10.keep HR7.out (fun h => h)
    have r1 := cell_of hr10 0
    have r2 := cell_of hr10 1
    have r3 := cell_of hr10 2
    simp only [List.getElem?_toArray, List.getElem?_cons_zero, List.getElem?_cons_succ] at r1 r2 r3
    have e1 := frozen_of hr10 0
    have e2 := frozen_of hr10 1
    have e3 := frozen_of hr10 2
    have HFIN2 := Lib.hid (fun wz (h : Kp (· = rs) w10 wz) => HFIN.out wz ((hk10.mono (fun _ _ h => h.elim)).trans h))
    clear hk10 hr10
    go_wp2_with fail
    refine bodyPost_ret (v := .tuple #[.agg #[.int .i64 x.id, .int .i64 x.rc, .string x.dom], .bool true]) ?_ rfl (HFIN2.out _ ?_)
    · rw [results_cell_tmp rfl]
      go_simp
      exact ⟨rfl, rfl, rfl⟩
    · exact (by repeat (first | exact Kp.refl _ _ | apply Kp.drew | apply Kp.drewN | refine Kp.setCell ?_ _ _ (Or.inl rfl) | apply Kp.alloc))
  | false =>
    go_wp2_with fail
    refine (sgone_any p N s7 (Go1 x false (C n)) _ HSI7.out HX7.out HNI.out hN).mono ?_; rintro e w8 ⟨rfl, hxb, s8, g1, g2, g3, g4⟩
    have HFIN := Lib.hid (show ∀ wz, Kp (· = rs) w8 wz → ∃ x' s', x' ∈ s.Ws ∧ s.G[i]? = some (x'.id, x'.rc) ∧ (Ending.returned (.tuple #[.agg #[.int .i64 x.id, .int .i64 x.rc, .string x.dom], .bool true])) = .returned (.tuple #[.agg #[.int .i64 x'.id, .int .i64 x'.rc, .string x'.dom], .bool true]) ∧ SIn wz p s' N ∧ St w wz s s' ∧ ab s' = aEnd (ab s) i (wx x') false (C n) ∧ Ve now x'.dom good s s' from fun wz hkz =>
      ⟨x, s8, HX.out, HK.out, rfl, g1.keep hkz (fun k e e2 => by have e3 : k = rs := e2; subst e3; exact none_some ((HSW7.out.trans g2).none hlr HCS.out) e), (HST7.out.trans g2).past hkz (fun k e => by have e3 : k = rs := e; have := HRS.out; omega), by rw [g3, HA7.out]; rfl, HYD.out ▸ HVE7.out.then g4 (congrArg Ab.c (show ab s8 = { ab s8 with c := s7.c } by rw [g3]; unfold aGone; simp only; split <;> rfl))⟩)
    have HM7 := Lib.hid hxb
    have HR7 := Lib.hid ((HSW7.out.trans g2).kp.keep HR1.out (HUN.out rs (Nat.le_refl _)))
    clear g1 g2 g3 g4 hxb
    go_wp2_with fail
    refine (sstart_any (Go1 x false (C n)) _ HM7.out _).mono ?_; rintro e w10 ⟨rfl, hk10⟩
    have hr10 := hk10.keep HR7.out (fun h => h)
    have r1 := cell_of hr10 0
    have r2 := cell_of hr10 1
    have r3 := cell_of hr10 2
    simp only [List.getElem?_toArray, List.getElem?_cons_zero, List.getElem?_cons_succ] at r1 r2 r3
    have e1 := frozen_of hr10 0
    have e2 := frozen_of hr10 1
    have e3 := frozen_of hr10 2
    have HFIN2 := Lib.hid (fun wz (h : Kp (· = rs) w10 wz) => HFIN.out wz ((hk10.mono (fun _ _ h => h.elim)).trans h))
    clear hk10 hr10
    go_wp2_with fail
    refine bodyPost_ret (v := .tuple #[.agg #[.int .i64 x.id, .int .i64 x.rc, .string x.dom], .bool true]) ?_ rfl (HFIN2.out _ ?_)
    · rw [results_cell_tmp rfl]
      go_simp
      exact ⟨rfl, rfl, rfl⟩
    · exact (by repeat (first | exact Kp.refl _ _ | apply Kp.drew | apply Kp.drewN | refine Kp.setCell ?_ _ _ (Or.inl rfl) | apply Kp.alloc))
theorem send_any (p N : Nat) (s : Sd) (i : Int) (good stays : Bool) (n now : Int) (w : World) (h : SIn w p s N) (ht : Tik s now) (hn : 0 ≤ now) (hn2 : now ≤ 1099511627776) (hN : N ≤ 1000000) :
    Calls Try.prog 32 #[.pointer (some ⟨p, 0, none⟩), .int .i64 i, .bool good, .bool stays, .int .i64 n] w (Send p N s i good stays n now w) := by
  by_cases hi : i < 0 ∨ (s.G.length : Int) ≤ i
  · refine (send_no p N s i good stays n w h hi).mono ?_
    intro e w' hq
    exact ⟨fun _ => hq, fun h => by omega⟩
  · obtain ⟨k, rfl⟩ : ∃ k : Nat, i = (k : Int) := ⟨i.toNat, by omega⟩
    refine (send_yes p N s k good stays n now w h (by omega) ht hn hn2 hN).mono ?_
    intro e w' hq
    exact ⟨fun h => absurd h hi, fun _ => hq⟩
end Go.Proofs.Ytbiahndpfbmoeaa
