/- What a scheduler's Pick comes to: the plain side. No condition. -/
import Derived.Test.YtbiahndpfbmoeaaSd14
import Derived.Laws.ResultCell
import Derived.Shelf.RegionOpenPlain
namespace Go.Proofs.Ytbiahndpfbmoeaa
open Go.RowKit Go.Maps SatAid Go.MapKept Go.ChangeMaps Go.WideShapes

/-- has a transport one that may begin, and whose turn comes? -/
def pk (s : Sd) (now : Int) (loc : Bool) : Prop := Fx (rsn s loc now) (rgA s loc) < (rgA s loc).length
instance (s : Sd) (now : Int) (loc : Bool) : Decidable (pk s now loc) := by unfold pk; infer_instance
def aTurn (A : Ab) (loc : Bool) (i : Nat) : Ab := if loc then { A with A1 := Turn i A.A1 } else { A with A0 := Turn i A.A0 }
def aGo (A : Ab) (k : Int × Int) (g : Bool) (n : Int → Int) : Ab := { A with W := A.W.map fun z => if (z.id, z.rc) = k then { z with go := g, nx := n z.nx } else z }
/-- one begins -/
def aBegin (A : Ab) (loc : Bool) (i : Nat) (k : Int × Int) : Ab := { aGo (aTurn A loc i) k true (fun n => n) with G := A.G ++ [k], last := loc }
/-- one domain has begun one more -/
structure Vb (now : Int) (d0 : ByteArray) (s s' : Sd) : Prop where
  n : ∀ d, vN s' d = vN s d
  b : ∀ d, vB s' d = if d = d0 then vB s d + 1 else vB s d
  t : ∀ m d, now ≤ m → m ≤ 1099511627776 → vT s' m d = if d = d0 then Lf (V s.c.rate) (V s.c.burst) (vT s now d0 - 1) now m else vT s m d
  le : Tik s' now
theorem ab_setW (s : Sd) (x : Wt) (g : Bool) (n : Int) (hx : x ∈ s.Ws) (hk : ∀ z ∈ s.Ws, (z.id, z.rc) = (x.id, x.rc) → z = x) : ab (setW s (Go1 x g n)) = aGo (ab s) (x.id, x.rc) g (fun _ => n) := by
  unfold ab setW aGo
  simp only [List.map_map]
  congr 1
  refine List.map_congr_left fun z hz => ?_
  simp only [Function.comp]
  by_cases e : (z.id, z.rc) = (x.id, x.rc)
  · have := hk z hz e
    subst this
    rw [if_pos (show (z.id, z.rc) = ((Go1 z g n).id, (Go1 z g n).rc) from rfl), if_pos (show ((wx z).id, (wx z).rc) = (z.id, z.rc) from rfl)]
    rfl
  · rw [if_neg (show ¬ (z.id, z.rc) = ((Go1 x g n).id, (Go1 x g n).rc) from e), if_neg (show ¬ ((wx z).id, (wx z).rc) = (x.id, x.rc) from e)]
theorem aGo_same {A : Ab} {k : Int × Int} {g : Bool} {n0 : Int} (h : ∀ z ∈ A.W, (z.id, z.rc) = k → z.nx = n0) : aGo A k g (fun _ => n0) = aGo A k g (fun n => n) := by
  unfold aGo
  congr 1
  refine List.map_congr_left fun z hz => ?_
  by_cases e : (z.id, z.rc) = k
  · rw [if_pos e, if_pos e, h z hz e]
  · rw [if_neg e, if_neg e]
theorem Vb.begun {s : Sd} {y y' : Pe} {now : Int} (hp : s.Ps.Pairwise (fun a b => a.dom ≠ b.dom)) (hy : y ∈ s.Ps) (e4 : y'.dom = y.dom) (e1 : y'.now = y.now) (e2 : y'.busy = y.busy + 1) (e3 : y'.l = vT s now y.dom - 1) (e5 : y'.t = now) (ht : Tik s now) : Vb now y.dom s { s with Ps := Psub s.Ps y' } := by
  have hf := fun d => fp_sub (d := d) hp (y' := y') ⟨y, hy, e4.symm⟩
  rw [e4] at hf
  refine ⟨fun d => ?_, fun d => ?_, fun m d h1 h2 => ?_, fun z hz => ?_⟩
  · unfold vN; simp only [hf]
    by_cases e : d = y.dom
    · subst e; rw [fp_eq hp hy, if_pos rfl]; exact e1
    · rw [if_neg e]
  · by_cases e : d = y.dom
    · subst e
      unfold vB; simp only [hf]; rw [fp_eq hp hy]; simp only [if_true]; exact e2
    · unfold vB; simp only [hf]; rw [if_neg e, if_neg e]
  · by_cases e : d = y.dom
    · subst e
      rw [if_pos rfl]
      unfold vT at e3 ⊢
      simp only [hf, if_true]
      rw [e3, e5]
    · rw [if_neg e]
      unfold vT; simp only [hf]; rw [if_neg e]
  · rcases Psub_mem hz with ⟨rfl, _⟩ | ⟨hz, _⟩
    · rw [e5]; exact Int.le_refl _
    · exact ht z hz
theorem Vb.of_vq {now : Int} {d0 : ByteArray} {s s1 s2 : Sd} (h : Vq now s s1) (g : Vb now d0 s1 s2) (hc : s1.c = s.c) (hn2 : now ≤ 1099511627776) : Vb now d0 s s2 :=
  ⟨fun d => (g.n d).trans (h.n d), fun d => by rw [g.b, h.b], fun m d h1 h2 => by rw [g.t m d h1 h2, h.t now d0 (Int.le_refl _) hn2, h.t m d h1 h2, hc], g.le⟩
theorem Vb.then {now : Int} {d0 : ByteArray} {s s1 s2 : Sd} (h : Vb now d0 s s1) (hp : s2.Ps = s1.Ps) (hc : s2.c = s1.c) : Vb now d0 s s2 :=
  ⟨fun d => by rw [← h.n]; unfold vN; rw [hp], fun d => by rw [← h.b]; unfold vB; rw [hp], fun m d h1 h2 => by rw [← h.t m d h1 h2]; unfold vT; rw [hp, hc], by unfold Tik; rw [hp]; exact h.le⟩
theorem rsn_vq {s s1 : Sd} {loc : Bool} {now : Int} (h : Vq now s s1) (hw : s1.Ws = s.Ws) (hn2 : now ≤ 1099511627776) : rsn s1 loc now = rsn s loc now := by
  unfold rsn
  rw [hw]
  congr 1
  exact List.filter_congr fun x _ => vq_rdy h hn2
theorem rgA_ab {s s1 : Sd} {loc : Bool} (h : ab s1 = ab s) : rgA s1 loc = rgA s loc := by
  have h0 : s1.A0 = s.A0 := congrArg Ab.A0 h
  have h1 : s1.A1 = s.A1 := congrArg Ab.A1 h
  unfold rgA
  rw [h0, h1]
theorem pk_same {s s1 : Sd} {loc : Bool} {now : Int} (h : Vq now s s1) (hw : s1.Ws = s.Ws) (ha : ab s1 = ab s) (hn2 : now ≤ 1099511627776) : pk s1 now loc ↔ pk s now loc := by
  unfold pk; rw [rsn_vq h hw hn2, rgA_ab ha]
theorem best_same {s s1 : Sd} {loc : Bool} {now : Int} {a : ByteArray} {m : Wt} (h : Vq now s s1) (hw : s1.Ws = s.Ws) (hn2 : now ≤ 1099511627776) (hb : Best s1 loc now a m) : Best s loc now a m :=
  ⟨hw ▸ hb.mem, (vq_rdy h hn2) ▸ hb.rd, hb.sd, fun z hz h1 h2 => hb.le z (hw ▸ hz) (by rw [vq_rdy h hn2]; exact h1) h2⟩
/-- who is picked: of this transport -/
def pkl (s : Sd) (now : Int) : Bool := if pk s now (!s.last) then !s.last else s.last
def z3 : Value := .agg #[.int .i64 0, .int .i64 0, .string ByteArray.empty]
def Spick (p N : Nat) (s : Sd) (now : Int) (w : World) (e : Ending) (w' : World) : Prop :=
  ((¬ pk s now (!s.last) ∧ ¬ pk s now s.last) → e = .returned (.tuple #[z3, .bool false]) ∧ ∃ s', SIn w' p s' N ∧ St w w' s s' ∧ ab s' = ab s ∧ Vq now s s' ∧ s'.D = s.D) ∧
  ((pk s now (!s.last) ∨ pk s now s.last) → ∃ m s', Best s (pkl s now) now ((rgA s (pkl s now)).getD (Fx (rsn s (pkl s now) now) (rgA s (pkl s now))) ByteArray.empty) m ∧ e = .returned (.tuple #[.agg #[.int .i64 m.id, .int .i64 m.rc, .string m.dom], .bool true]) ∧ SIn w' p s' N ∧ St w w' s s' ∧
    ab s' = aBegin (ab s) (pkl s now) (Fx (rsn s (pkl s now) now) (rgA s (pkl s now))) (m.id, m.rc) ∧ Vb now m.dom s s' ∧ s'.D = s.D)
theorem spick_none (n : Int) (w : World) : Calls Try.prog 30 #[.pointer none, .int .i64 n] w fun e w' => e = .returned (.tuple #[z3, .bool false]) ∧ Kp (fun _ => False) w w' := by
  go_enter Try.func30, Try.ntmps30
  go_wp2_with fail
  refine bodyPost_ret (v := .tuple #[z3, .bool false]) ?_ rfl ⟨rfl, (by repeat (first | exact Kp.refl _ _ | apply Kp.drew | apply Kp.drewN | refine Kp.setCell ?_ _ _ (Or.inl rfl) | apply Kp.alloc))⟩
  rw [results_cell_tmp rfl]
  go_simp
  rfl
end Go.Proofs.Ytbiahndpfbmoeaa

/- What a scheduler's Pick does. Conditions: times do not go back, there are no more recipients than fit into memory. -/
namespace Go.Proofs.Ytbiahndpfbmoeaa
open Go.RowKit Go.Maps SatAid Go.MapKept Go.ChangeMaps Go.WideShapes

theorem key_info : (Try.prog.info? 95).map (fun i => (i.zero, i.size, i.bytes)) = some (some (.agg #[.int .i64 0, .int .i64 0]), 2, 16) := by kernel_rfl
theorem two_ints {k : IntKind} {a b : Int} : ∀ u ∈ [Value.int k a, .int k b], u.oneCell' = true := by intro u hu; simp at hu; rcases hu with rfl | rfl <;> rfl
theorem heap_new2 {w : World} (o o' : Obj) : ((w.alloc o).alloc o').heap[w.heap.size + 1]? = some o' := by
  have h := heap_new (w := w.alloc o) o'
  rwa [World.size_alloc] at h
set_option maxRecDepth 100000 in
set_option maxHeartbeats 6400000 in
theorem spick_any (p N : Nat) (s : Sd) (n now : Int) (w : World) (h : SIn w p s N) (ht : Tik s now) (hC : C n = now) (hN : N ≤ 1000000) :
    Calls Try.prog 30 #[.pointer (some ⟨p, 0, none⟩), .int .i64 n] w (Spick p N s now w) := by
  have hn : 0 ≤ now := by rw [← hC]; exact C_lo _
  have hn2 : now ≤ 1099511627776 := by rw [← hC]; exact C_hi _
  have c16 : w.cell? ⟨p, 16, none⟩ = some (.bool s.last) := (cell_of h.head 16).trans rfl
  have lp := lt_of_block h.head
  obtain ⟨i0, hi, hz0, hz1, hz2⟩ := info_parts key_info
  have H := Lib.hid h; have HT := Lib.hid ht; have HC := Lib.hid hC; clear h ht hC
  go_enter Try.func30, Try.ntmps30
  go_wp2_with fail
  refine (clamp_any _ _).mono ?_; rintro e w1 ⟨rfl, rfl⟩
  rw [HC.out]
  go_wp2_with fail
  go_region_held3 (fun w' => w'.cell? ⟨p, 16, none⟩ = some (.bool s.last)) (first | exact c16 | exact (Kp.cell (S := fun _ => False) (w := w) (by repeat (first | exact Kp.refl _ _ | apply Kp.drew | apply Kp.drewN | refine Kp.setCell ?_ _ _ (Or.inr (by simp)) | apply Kp.alloc)) 16 lp (fun h => h)).trans c16) (fail)
  obtain ⟨w0, hw0⟩ : ∃ w0, w0 = ((w.alloc (.cells #[.int .i64 0, .int .i64 0, .string ByteArray.empty] 66)).alloc (.cells #[.bool !s.last, .bool s.last] 4)).drew := ⟨_, rfl⟩
  have hk0 : Kp (fun _ => False) w w0 := by rw [hw0]; exact (by repeat (first | exact Kp.refl _ _ | apply Kp.drew | apply Kp.drewN | refine Kp.setCell ?_ _ _ (Or.inl rfl) | apply Kp.alloc))
  have hr0 : w0.heap[w.heap.size]? = some (.cells #[.int .i64 0, .int .i64 0, .string ByteArray.empty] 66 (0, 0)) := by rw [hw0]; exact heap_old _ (heap_new _)
  have hb0 : w0.heap[w.heap.size + 1]? = some (.cells #[.bool !s.last, .bool s.last] 4 (0, 0)) := by rw [hw0]; exact heap_new2 (w := w) _ _
  rw [show ({ data := #[] } : ByteArray) = ByteArray.empty from rfl, ← hw0]
  clear hw0 c16
  obtain ⟨rs, hrs⟩ : ∃ rs, rs = w.heap.size := ⟨_, rfl⟩
  rw [← hrs] at hr0 hb0 ⊢
  have HRS := Lib.hid hrs; have HK0 := Lib.hid hk0; have HR0 := Lib.hid hr0; have HB0 := Lib.hid hb0
  clear hrs hk0 hr0 hb0
  go_wp2_with fail
  go_loopg [7, 8, 9, 10, 27] 2 (fun k _ _ _ _ i wr => ∃ (j : Nat) (s1 : Sd), k = 2 - j ∧ j ≤ 2 ∧ i = .int .i64 j ∧ SIn wr p s1 N ∧ St w0 wr s s1 ∧ ab s1 = ab s ∧ Vq now s s1 ∧ s1.Ws = s.Ws ∧ s1.D = s.D ∧ (1 ≤ j → ¬ pk s now (!s.last)) ∧ (2 ≤ j → ¬ pk s now s.last))
  case atStart => exact ⟨0, s, rfl, by omega, rfl, H.out.keep HK0.out (fun _ _ h => h), St.refl _ _, rfl, Vq.refl HT.out, rfl, rfl, fun h => absurd h (by omega), fun h => absurd h (by omega)⟩
  case round =>
    obtain ⟨j, s1, hk, hj, rfl, hsi, hst, hab, hvq, hws, hdd, hp1, hp2⟩ := hrel
    have HKk := Lib.hid hk; have HSI := Lib.hid hsi; have HST := Lib.hid hst; have HAB := Lib.hid hab; have HVQ := Lib.hid hvq; have HWS := Lib.hid hws; have HDD := Lib.hid hdd; have HP1 := Lib.hid hp1; have HP2 := Lib.hid hp2
    have hun : ∀ k, rs ≤ k → ¬ (s.col k).isSome := fun k e h => by have := H.out.lt k h; have := HRS.out; omega
    have hlr := lt_of_block HR0.out
    have hlb := lt_of_block HB0.out
    have HRr := Lib.hid (hst.kp.keep HR0.out (hun _ (Nat.le_refl _)))
    have HUN := Lib.hid hun
    by_cases hlt : j < 2
    · obtain ⟨lc, hlc⟩ : ∃ lc, lc = (if j = 0 then !s.last else s.last) := ⟨_, rfl⟩
      have cj : wr.cell? ⟨rs + 1, j, none⟩ = some (.bool lc) := by
        refine (hst.kp.cell j hlb (hun _ (by omega))).trans ?_
        rw [cell_of HB0.out, hlc]
        match j, hlt with
        | 0, _ => rfl
        | 1, _ => rfl
      have q2 : (0 : Int) ≤ (j : Int) := by omega
      have q3 : (j : Int) < 2 := by omega
      have HLC := Lib.hid hlc
      clear hk hsi hst hab hvq hws hdd hp1 hp2 hun hlc
      go_wp2_with fail
      refine (sturn_any p N s1 lc now _ HSI.out HVQ.out.le hn hn2 hN).mono ?_; intro e w2 hq
      by_cases hpk : pk s now lc
      · obtain ⟨m, s2, hbest, rfl, hsi2, hst2, hab2, hvq2, hws2, hdd2⟩ := hq.2 ((pk_same HVQ.out HWS.out HAB.out hn2).2 hpk)
        clear hq
        have hrs' := rsn_vq (loc := lc) HVQ.out HWS.out hn2
        have hrg' := rgA_ab (loc := lc) HAB.out
        rw [hrs', hrg'] at hbest
        have hbest' := best_same HVQ.out HWS.out hn2 hbest
        have hrd := hbest'.rd
        have hmW : m ∈ s2.Ws := by rw [hws2]; exact hbest.mem
        have HBE := Lib.hid hbest'
        have HAB2 := Lib.hid (show ab s2 = aTurn (ab s) lc (Fx (rsn s lc now) (rgA s lc)) from by
          rw [hab2]
          have a0 : s1.A0 = s.A0 := congrArg Ab.A0 HAB.out
          have a1 : s1.A1 = s.A1 := congrArg Ab.A1 HAB.out
          unfold aTurn
          cases lc with
          | true => simp only [if_true]; rw [hrs', HAB.out, a1]; rfl
          | false => simp only [Bool.false_eq_true, if_false]; rw [hrs', HAB.out, a0]; rfl)
        have HSI2 := Lib.hid hsi2; have HST2 := Lib.hid (HST.out.trans hst2); have HVQ2 := Lib.hid (HVQ.out.trans hvq2); have HDD2 := Lib.hid (hdd2.trans HDD.out); have HPK := Lib.hid hpk
        have hc2 : s2.c = s.c := congrArg Ab.c (by rw [HAB2.out]; unfold aTurn; split <;> rfl : ab s2 = { ab s2 with c := s.c })
        have hl2 : s2.last = s.last := by
          have : (ab s2).last = (ab s).last := by rw [HAB2.out]; unfold aTurn; split <;> rfl
          exact this
        have hG2 : s2.G = s.G := by
          have : (ab s2).G = (ab s).G := by rw [HAB2.out]; unfold aTurn; split <;> rfl
          exact this
        have hmb := hsi2.wts m hmW
        have x3 : w2.cell? ⟨m.blk, 3, none⟩ = some (.string m.dom) := (cell_of hmb 3).trans rfl
        have HMW := Lib.hid hmW
        clear hrs' hrg' hbest hsi2 hst2 hvq2 hws2 hdd2 hpk hab2 hmW hbest' hmb
        go_wp2_with fail
        refine (speer_any p N s2 m.dom now _ HSI2.out (HSI2.out.wfs m HMW.out).2.2 hN).mono ?_; rintro e w3 ⟨y, Ps3, col3, rfl, hyd, hpx, hcx, hsi3, hk3⟩
        have hv3 := HVQ2.out.trans (Vq.ext (s' := { s2 with Ps := Ps3, col := col3 }) HVQ2.out.le hn hn2 hpx rfl)
        have hst3 := HST2.out.trans (St.peer (Ps' := Ps3) HSI2.out hcx hk3)
        have hy3 := hpx.1
        obtain ⟨q4, q5, q6⟩ := pn_of hsi3.doms hy3
        obtain ⟨b1, b2, b3⟩ := hsi3.prs y hy3
        obtain ⟨ok1, ok2, ok3, ok4, ok5, _⟩ := hsi3.pok y hy3
        have hty := hv3.le y hy3
        have y0 : w3.cell? ⟨y.blk, 0, none⟩ = some (.pointer (some ⟨y.wb, 0, none⟩)) := (cell_of b1 0).trans rfl
        have y1 : w3.cell? ⟨y.blk, 1, none⟩ = some (.pointer (some ⟨y.tb, 0, none⟩)) := (cell_of b1 1).trans rfl
        have ly := lt_of_block b1
        have hwt : y.wb ≠ y.tb := col_neq (hsi3.cols.prs y hy3).2.1 (hsi3.cols.prs y hy3).2.2 rfl
        have hwy : y.wb ≠ y.blk := col_neq (hsi3.cols.prs y hy3).2.1 (hsi3.cols.prs y hy3).1 rfl
        have hbn : y.busy < y.now ∧ 0 < vT { s2 with Ps := Ps3, col := col3 } now y.dom := by
          unfold rdy at hrd
          simp only [Bool.and_eq_true, decide_eq_true_eq] at hrd
          obtain ⟨_, _, _, h4, h5⟩ := hrd
          rw [← hyd] at h4 h5
          rw [← hv3.n, ← hv3.b, q4, q5] at h4
          rw [← hv3.t now _ (Int.le_refl _) hn2] at h5
          exact ⟨h4, h5⟩
        have HYD := Lib.hid hyd; have HSI3 := Lib.hid hsi3; have HV3 := Lib.hid hv3; have HST3 := Lib.hid hst3; have HY3 := Lib.hid hy3; have HB2 := Lib.hid b2; have HB3 := Lib.hid b3; have HQ6 := Lib.hid q6; have HBN := Lib.hid hbn; have HOK := Lib.hid ok1
        clear hyd hpx hcx hsi3 hk3 hv3 hst3 hy3 q4 q5 q6 b1 b2 b3 hbn ok1 hrd x3
        go_wp2_with fail
        refine (wbegin_any y.wb _ _ _ _ HOK.out HB2.out).mono ?_; rintro e w4 ⟨rfl, hb4, hk4⟩
        have y1' := (hk4.cell 1 ly (fun h => hwy h.symm)).trans y1
        have HB4 := Lib.hid hb4; have HT4 := Lib.hid (hk4.keep HB3.out hwt.symm); have HK4 := Lib.hid hk4
        clear hb4 hk4 y0 y1
        go_wp2_with fail
        refine (btake_any y.tb _ _ _ _ now _ (by have := V_lo s2.c.burst; show 0 ≤ V s2.c.burst; omega) (V_hi _) HT4.out).mono ?_; rintro e w5 ⟨rfl, hb5, hk5⟩
        have hkk : Kp (fun k => k = y.wb ∨ k = y.tb) w3 w5 := (HK4.out.mono (fun _ _ h => Or.inl h)).trans (hk5.mono (fun _ _ h => Or.inr h))
        have hmx : max y.t (C now) = now := by rw [C_of hn hn2]; omega
        rw [hmx] at hb5
        have hB5 := hk5.keep HB4.out hwt
        obtain ⟨g1, g2⟩ := HSI3.out.setPeer HY3.out (y' := { y with busy := Bb y.now y.busy, l := Tl (V s2.c.rate) (V s2.c.burst) y.l y.t now, t := now }) rfl rfl rfl rfl hkk hB5 hb5 ⟨HOK.out.begin, by unfold Tl; simp only; omega, by have := Lf_hi (r := V s2.c.rate) (u := V s2.c.burst) (l := y.l) (t := y.t) (n := now); have := V_lo s2.c.burst; unfold Tl; simp only; omega, hn, hn2⟩
        have hvb := Vb.begun (now := now) (y' := { y with busy := Bb y.now y.busy, l := Tl (V s2.c.rate) (V s2.c.burst) y.l y.t now, t := now }) HSI3.out.doms HY3.out rfl rfl (by simp only [Bb, if_pos HBN.out.1]) (by
          have h1 := HBN.out.2
          rw [HQ6.out] at h1 ⊢
          simp only [Tl] at h1 ⊢
          omega) rfl HV3.out.le
        have HVB := Lib.hid (Vb.of_vq HV3.out hvb hc2 hn2)
        obtain ⟨s5, hs5⟩ : ∃ s5, s5 = { { s2 with Ps := Ps3, col := col3 } with Ps := Psub Ps3 { y with busy := Bb y.now y.busy, l := Tl (V s2.c.rate) (V s2.c.burst) y.l y.t now, t := now } } := ⟨_, rfl⟩
        have HS5 := Lib.hid (show ab s5 = ab s2 ∧ s5.Ws = s2.Ws ∧ s5.D = s2.D ∧ s5.G = s2.G ∧ s5.c = s2.c from by rw [hs5]; exact ⟨rfl, rfl, rfl, rfl, rfl⟩)
        have HVB5 := Lib.hid (show Vb now y.dom s s5 by rw [hs5]; exact HVB.out)
        have HSI5 := Lib.hid (show SIn w5 p s5 N by rw [hs5]; exact g1)
        have HST5 := Lib.hid (show St w0 w5 s s5 by rw [hs5]; exact HST3.out.trans g2)
        clear hs5 g1 g2 hvb HVB hb5 hk5 hB5 hkk hmx y1' HK4 HT4 HB4 HB3 HB2 HY3 HSI3 HST3
        have hm5 : m ∈ s5.Ws := by rw [HS5.out.2.1]; exact HMW.out
        have hmb := HSI5.out.wts m hm5
        have f5 := frozen_of hmb 5
        have x5 : w5.cell? ⟨m.blk, 5, none⟩ = some (.bool m.go) := (cell_of hmb 5).trans rfl
        have hhd := HSI5.out.head
        have f16 := frozen_of hhd 16
        have c16 : w5.cell? ⟨p, 16, none⟩ = some (.bool s5.last) := (cell_of hhd 16).trans rfl
        have hpm : p ≠ m.blk := col_neq HSI5.out.cols.head (HSI5.out.cols.wts m hm5) rfl
        obtain ⟨u1, u2⟩ := HSI5.out.setWait (g := true) (n := m.nx) hm5 (fun h => by cases h) (((Kp.refl (· = m.blk) w5).setCell ⟨m.blk, 5, none⟩ (.bool true) (Or.inl rfl))) ((heap_set hmb (i := 5) _).trans rfl)
        obtain ⟨u3, u4⟩ := u1.setLast (l := lc) ((Kp.refl (· = p) _).setCell ⟨p, 16, none⟩ (.bool lc) (Or.inl rfl)) ((heap_set u1.head (i := 16) _).trans rfl)
        have hkW : ∀ z ∈ s5.Ws, (z.id, z.rc) = (m.id, m.rc) → z = m := fun z hz e => HSI5.out.key_eq hz hm5 e
        have HA7 := Lib.hid (show ab { setW s5 (Go1 m true m.nx) with last := lc } = { aGo (aTurn (ab s) lc (Fx (rsn s lc now) (rgA s lc))) (m.id, m.rc) true (fun n => n) with last := lc } from by
          have e1 := ab_setW s5 m true m.nx hm5 hkW
          have e2 : ab { setW s5 (Go1 m true m.nx) with last := lc } = { ab (setW s5 (Go1 m true m.nx)) with last := lc } := rfl
          rw [e2, e1, HS5.out.1, HAB2.out, aGo_same (n0 := m.nx)]
          intro z hz e
          rw [← HAB2.out] at hz
          obtain ⟨z', hz', rfl⟩ := List.mem_map.1 hz
          have : z' = m := HSI2.out.key_eq hz' HMW.out e
          subst this
          rfl)
        have hx7 : Go1 m true m.nx ∈ (setW s5 (Go1 m true m.nx)).Ws := List.mem_map.2 ⟨m, hm5, by rw [if_pos]; rfl⟩
        have HVB7 := Lib.hid (HVB5.out.then (s2 := { setW s5 (Go1 m true m.nx) with last := lc }) rfl rfl)
        have HD7 := Lib.hid (show ({ setW s5 (Go1 m true m.nx) with last := lc } : Sd).D = s.D from HS5.out.2.2.1.trans HDD2.out)
        have HG7 := Lib.hid (show ({ setW s5 (Go1 m true m.nx) with last := lc } : Sd).G = s.G from HS5.out.2.2.2.1.trans hG2)
        have HX7 := Lib.hid (show Go1 m true m.nx ∈ ({ setW s5 (Go1 m true m.nx) with last := lc } : Sd).Ws from hx7)
        obtain ⟨s7, hs7⟩ : ∃ s7 : Sd, s7 = { setW s5 (Go1 m true m.nx) with last := lc } := ⟨_, rfl⟩
        have HST7 := Lib.hid (show St w0 ((w5.setCell ⟨m.blk, 5, none⟩ (.bool true)).setCell ⟨p, 16, none⟩ (.bool lc)) s s7 by rw [hs7]; exact (HST5.out.trans u2).trans u4)
        have HSI7 := Lib.hid (show SIn ((w5.setCell ⟨m.blk, 5, none⟩ (.bool true)).setCell ⟨p, 16, none⟩ (.bool lc)) p s7 N by rw [hs7]; exact u3)
        rw [← hs7] at HA7 HVB7 HD7 HG7 HX7
        clear u1 u2 u3 u4 hs7 hkW hhd hx7 HVB5 HSI5 HST5
        go_wp2_with fail
        obtain ⟨w7, hw7⟩ : ∃ w7, w7 = (w5.setCell ⟨m.blk, 5, none⟩ (.bool true)).setCell ⟨p, 16, none⟩ (.bool lc) := ⟨_, rfl⟩
        rw [← hw7] at HST7 HSI7 ⊢
        clear hw7 x5 f5 f16 c16 hmb
        have hgng := HSI7.out.gng
        obtain ⟨vo, vc, hvg⟩ := hgng.slice
        have hGl : s7.G.length ≤ N := Nat.le_trans HSI7.out.glen HSI7.out.lw
        have hm7 := HSI7.out.wts _ HX7.out
        have k0 : w7.cell? ⟨m.blk, 0, none⟩ = some (.int .i64 m.id) := (cell_of hm7 0).trans rfl
        have k1 : w7.cell? ⟨m.blk, 1, none⟩ = some (.int .i64 m.rc) := (cell_of hm7 1).trans rfl
        have c15 : w7.cell? ⟨p, 15, none⟩ = some s7.vg := (cell_of HSI7.out.head 15).trans rfl
        have f15 := frozen_of HSI7.out.head 15
        have hpg : ∀ k, s7.vg.ownBlock = some k → p ≠ k := fun k e => col_neq HSI7.out.cols.head (HSI7.out.cols.gng k e) rfl
        have lp7 := lt_of_block HSI7.out.head
        have lm7 := lt_of_block hm7
        have hm7a := lt_of_block hm7
        rw [hvg] at c15 hgng hpg
        have HGN := Lib.hid hgng; have HPG := Lib.hid hpg; have HVG := Lib.hid hvg
        clear hgng hpg hvg hm7 hm7a
        go_region_law (first | (refine step_append_lies _ rfl _ _ 91 rfl 0 95 i0 _ 2 16 Try.underlying91 hi hz0 hz1 hz2 rfl (by decide) (.slice vo s7.G.length vc) s7.G.length (Gc s7.G) rfl (by exact HGN.out.alloc _) ⟨w7.heap.size, 0, none⟩ 1 1 [.int .i64 m.id, .int .i64 m.rc] rfl rfl (lit_news _ rfl) two_ints (by omega) (by unfold maxLen; omega) (by omega) (by omega) _ rfl ?_; intro g cap1 w8 hown8 hgrow8 hat8 hlt8; have hk8 : Kp (In (.slice vo s7.G.length vc)) w7 w8 := ((Kp.refl _ w7).alloc (.cells #[.int .i64 m.id, .int .i64 m.rc] 95)).drew.trans (show Kp (In (.slice vo s7.G.length vc)) _ w8 from Kp.of_grown' hgrow8); have k15 := (hk8.cell 15 lp7 (fun h => HPG.out _ h rfl)).trans c15; have e15 := (hk8.frozen 15 lp7 (fun h => HPG.out _ h rfl)).trans f15; have HO8 := Lib.hid (own_weaken hown8); have HK8 := Lib.hid hk8; have HAT8 := Lib.hid hat8; clear hown8 hgrow8 hat8 hk8))
        all_goals
          have hnotin : (m.id, m.rc) ∉ s7.G := by
            rw [HG7.out, ← hG2]
            refine HSI2.out.notin HMW.out ?_
            have hrd := HBE.out.rd
            unfold rdy at hrd
            simp only [Bool.and_eq_true, Bool.not_eq_true'] at hrd
            exact hrd.2.1
          have hw9 : w8.heap[p]? = some (.cells (Hd s7) 93 (0, 0)) := HK8.out.keep HSI7.out.head (fun h => HPG.out _ h rfl)
          have hgp : g ≠ p := fun e => by
            rcases HAT8.out with h | h
            · exact HPG.out g h e.symm
            · simp at h; omega
          obtain ⟨v1, v2⟩ := HSI7.out.setGoing (vg := .slice (some ⟨g, 0, none⟩) (s7.G.length + 1) cap1) (G := s7.G ++ [(m.id, m.rc)]) (w' := w8.setCell ⟨p, 15, none⟩ (.slice (some ⟨g, 0, none⟩) (s7.G.length + 1) cap1)) ((heap_set hw9 (i := 15) _).trans rfl) (by
            rw [List.length_append, Gc_app]
            exact Own.keep HO8.out ((Kp.refl (· = p) w8).setCell ⟨p, 15, none⟩ _ (Or.inl rfl)) (fun k hk h => hgp (by
              have : g = k := by simpa [Value.ownBlock] using hk
              exact this.trans h))) (by
            rw [HVG.out]
            rcases HAT8.out with h | h
            · exact Or.inl h.symm
            · refine Or.inr fun k hk => ?_
              have : g = k := by simpa [Value.ownBlock] using hk
              simp at h; omega) ((HK8.out.mono (fun k _ h => by rw [HVG.out]; exact Or.inr h)).setCell ⟨p, 15, none⟩ _ (Or.inl (Or.inl rfl))) (fun k hk => by
            rcases List.mem_append.1 hk with hk | hk
            · exact HSI7.out.gin k hk
            · obtain rfl := List.mem_singleton.1 hk
              exact ⟨_, HX7.out, rfl, rfl⟩) (List.nodup_append.2 ⟨HSI7.out.gnd, by simp, fun a ha b hb e => by
            obtain rfl := List.mem_singleton.1 hb
            exact hnotin (e ▸ ha)⟩)
          have HSI9 := Lib.hid v1; have HST9 := Lib.hid (HST7.out.trans v2)
          have HVB9 := Lib.hid (HVB7.out.then (s2 := setG s7 (.slice (some ⟨g, 0, none⟩) (s7.G.length + 1) cap1) (s7.G ++ [(m.id, m.rc)])) rfl rfl)
          have HA9 := Lib.hid (show ab (setG s7 (.slice (some ⟨g, 0, none⟩) (s7.G.length + 1) cap1) (s7.G ++ [(m.id, m.rc)])) = aBegin (ab s) lc (Fx (rsn s lc now) (rgA s lc)) (m.id, m.rc) from by
            have e1 : ab (setG s7 (.slice (some ⟨g, 0, none⟩) (s7.G.length + 1) cap1) (s7.G ++ [(m.id, m.rc)])) = { ab s7 with G := s7.G ++ [(m.id, m.rc)] } := rfl
            rw [e1, HA7.out, HG7.out]; rfl)
          have hcs : s.col rs = none := by
            cases hc : s.col rs with
            | none => rfl
            | some c => exact absurd (by rw [hc]; rfl) (HUN.out rs (Nat.le_refl _))
          have HCN := Lib.hid (HST9.out.none hlr hcs)
          have hr9 := HST9.out.kp.keep HR0.out (HUN.out rs (Nat.le_refl _))
          have HR9 := Lib.hid hr9
          have HM9 := Lib.hid (v1.wts (Go1 m true m.nx) HX7.out)
          have hpl : pkl s now = lc := by
            unfold pkl
            by_cases e : j = 0
            · have hl := HLC.out
              rw [if_pos e] at hl
              have := HPK.out
              rw [hl] at this
              rw [if_pos this, hl]
            · have hl := HLC.out
              rw [if_neg e] at hl
              rw [if_neg (HP1.out (by omega)), hl]
          have hor : pk s now (!s.last) ∨ pk s now s.last := by
            have hl := HLC.out
            by_cases e : j = 0
            · rw [if_pos e] at hl; rw [← hl]; exact Or.inl HPK.out
            · rw [if_neg e] at hl; rw [← hl]; exact Or.inr HPK.out
          have HFIN := Lib.hid (show ∀ wz, Kp (· = rs) (w8.setCell ⟨p, 15, none⟩ (.slice (some ⟨g, 0, none⟩) (s7.G.length + 1) cap1)) wz → Spick p N s now w (.returned (.tuple #[.agg #[.int .i64 m.id, .int .i64 m.rc, .string m.dom], .bool true])) wz from fun wz hkz =>
            ⟨fun h => absurd hor (by rintro (h1 | h1); exact h.1 h1; exact h.2 h1), fun _ => ⟨m, _, by rw [hpl]; exact HBE.out, rfl, HSI9.out.keep hkz (fun k e e2 => by have e3 : k = rs := e2; subst e3; exact none_some HCN.out e), ((St.of HK0.out (fun _ _ h => h.elim) rfl).trans HST9.out).past hkz (fun k e => by have e3 : k = rs := e; have := HRS.out; omega), by rw [hpl]; exact HA9.out, HYD.out ▸ HVB9.out, HD7.out⟩⟩)
          clear v1 v2 hnotin hw9 hgp hcs hr9 hpl hor
          go_wp2_with fail
          refine (sstart_any (Go1 m true m.nx) _ HM9.out _).mono ?_; rintro e w10 ⟨rfl, hk10⟩
          have hr10 := hk10.keep HR9.out (fun h => h)
          have r1 := cell_of hr10 0
          have r2 := cell_of hr10 1
          have r3 := cell_of hr10 2
          simp only [List.getElem?_toArray, List.getElem?_cons_zero, List.getElem?_cons_succ] at r1 r2 r3
          have e1 := frozen_of hr10 0
          have e2 := frozen_of hr10 1
          have e3 := frozen_of hr10 2
          have HFIN2 := Lib.hid (fun wz (h : Kp (· = rs) w10 wz) => HFIN.out wz ((hk10.mono (fun _ _ h => h.elim)).trans h))
          clear hk10 hr10
          go_wp2_with fail
          refine bodyPost_ret (v := .tuple #[.agg #[.int .i64 m.id, .int .i64 m.rc, .string m.dom], .bool true]) ?_ rfl (HFIN2.out _ ?_)
          · rw [results_cell_tmp rfl]
            go_simp
            exact ⟨rfl, rfl, rfl⟩
          · exact (by repeat (first | exact Kp.refl _ _ | apply Kp.drew | apply Kp.drewN | refine Kp.setCell ?_ _ _ (Or.inl rfl) | apply Kp.alloc))
      · obtain ⟨rfl, s2, hsi2, hst2, hab2, hvq2, hws2, hdd2⟩ := hq.1 (fun h => hpk ((pk_same HVQ.out HWS.out HAB.out hn2).1 h))
        clear hq
        have HSI2 := Lib.hid hsi2; have HST2 := Lib.hid (HST.out.trans hst2); have HAB2 := Lib.hid (hab2.trans HAB.out); have HVQ2 := Lib.hid (HVQ.out.trans hvq2); have HWS2 := Lib.hid (hws2.trans HWS.out); have HDD2 := Lib.hid (hdd2.trans HDD.out); have HPK := Lib.hid hpk
        clear hsi2 hst2 hab2 hvq2 hws2 hdd2 hpk
        go_wp2_with fail
        go_roundg (2 - (j + 1))
        case measure => rw [HKk.out]; omega
        case rel => exact ⟨j + 1, s2, rfl, by omega, by go_num, HSI2.out, HST2.out, HAB2.out, HVQ2.out, HWS2.out, HDD2.out, fun _ => by
          by_cases e : j = 0
          · have := HPK.out; rw [HLC.out, if_pos e] at this; exact this
          · exact HP1.out (by omega), fun h2 => by
          have := HPK.out; rw [HLC.out, if_neg (by omega)] at this; exact this⟩
    · have hj2 : j = 2 := by omega
      subst hj2
      have HZ := Lib.hid (show ∀ wz, Kp (· = rs) wr wz → Spick p N s now w (.returned (.tuple #[z3, .bool false])) wz from fun wz hkz =>
        ⟨fun _ => ⟨rfl, s1, hsi.keep hkz (fun k e e2 => by
          have e3 : k = rs := e2
          subst e3
          rcases hst.new _ e with e4 | e4
          · exact hun _ (Nat.le_refl _) e4
          · omega), ((St.of HK0.out (fun _ _ h => h.elim) rfl).trans hst).past hkz (fun k e => by have e3 : k = rs := e; have := HRS.out; omega), hab, hvq, hdd⟩, fun h => absurd h (by
          rintro (h | h)
          · exact hp1 (by omega) h
          · exact hp2 (by omega) h)⟩)
      clear hk hsi hst hab hvq hws hdd hp1 hp2 hun
      have r1 := cell_of HRr.out 0
      have r2 := cell_of HRr.out 1
      have r3 := cell_of HRr.out 2
      simp only [List.getElem?_toArray, List.getElem?_cons_zero, List.getElem?_cons_succ] at r1 r2 r3
      have e1 := frozen_of HRr.out 0
      have e2 := frozen_of HRr.out 1
      have e3 := frozen_of HRr.out 2
      go_wp2_with fail
      refine bodyPost_ret (v := .tuple #[z3, .bool false]) ?_ rfl (HZ.out _ ?_)
      · rw [results_cell_tmp rfl]
        go_simp
        rfl
      · exact (by repeat (first | exact Kp.refl _ _ | apply Kp.drew | apply Kp.drewN | refine Kp.setCell ?_ _ _ (Or.inl rfl) | apply Kp.alloc))
end Go.Proofs.Ytbiahndpfbmoeaa

/- slices.Delete of one of what is on its way (lines of the library's own worked proof of slices.Delete, turned to this program). Condition: it is there. -/
namespace Go.Proofs.Ytbiahndpfbmoeaa
open Go.RowKit Go.Maps SatAid Go.MapKept Go.ChangeMaps Go.WideShapes

theorem setCells_heap {g : Nat} {T : TypeId} {fr : Nat × Nat} (vs : List Value) : ∀ (o : Nat) (w : World) (cur : Array Value), w.heap[g]? = some (.cells cur T fr) → o + vs.length ≤ cur.size →
    ∃ cur', (w.setCells g o vs).heap[g]? = some (.cells cur' T fr) ∧ cur'.size = cur.size ∧ ∀ t, cur'[t]? = if o ≤ t ∧ t < o + vs.length then vs[t - o]? else cur[t]? := by
  induction vs with
  | nil => exact fun o w cur h _ => ⟨cur, h, rfl, fun t => by rw [if_neg (by simp)]⟩
  | cons v r ih =>
    intro o w cur h hs
    obtain ⟨cur', h1, h2, h3⟩ := ih (o + 1) (w.setCell ⟨g, o, none⟩ v) _ (heap_set h v) (by simp at hs ⊢; omega)
    refine ⟨cur', h1, by rw [h2]; simp, fun t => ?_⟩
    rw [h3]
    have hl : (v :: r).length = r.length + 1 := rfl
    rw [hl] at hs ⊢
    by_cases e : t = o
    · subst e
      rw [if_neg (by omega), if_pos (by omega), Nat.sub_self, List.getElem?_cons_zero, Array.getElem?_setIfInBounds_self, if_pos (by omega)]
    · by_cases h4 : o + 1 ≤ t ∧ t < o + 1 + r.length
      · rw [if_pos h4, if_pos (by omega), show t - o = t - (o + 1) + 1 by omega, List.getElem?_cons_succ]
      · rw [if_neg h4, if_neg (by omega), Array.getElem?_setIfInBounds_ne (by omega)]
theorem key_zero (w : World) : (zeroValue 95).run Try.prog w = .ok (.agg #[.int .i64 0, .int .i64 0]) w := by kernel_rfl
theorem run_clear_key (w : World) (ty : TypeId) (b o c : Nat) (hc : ∀ j, j < 2 → (w.cell? ⟨b, o + j, none⟩).isSome = true) (hf : ∀ j, j < 2 → w.frozen? ⟨b, o + j, none⟩ = false) :
    (Builtin.clear_ #[91] ty #[.slice (some ⟨b, o, none⟩) 1 c]).run Try.prog w = .ok (.tuple #[]) (w.setCells b o [.int .i64 0, .int .i64 0]) := by
  have hzc : (Builtin.zeroCells (Value.agg #[.int .i64 0, .int .i64 0]).cells 1).toList = [.int .i64 0, .int .i64 0] := by
    simp [Builtin.zeroCells, Value.cells, Array.range]
  have hst := run_storeCells_cells (P := Try.prog) b o [.int .i64 0, .int .i64 0] 0 w (by simpa using hc) (by simpa using hf) (by intro v hv'; simp at hv'; subst hv'; rfl)
  simp only [Nat.add_zero] at hst
  simp [Builtin.clear_, run_underlying Try.underlying91, hzc, hst]
def CutG (i : Nat) (G : List (Int × Int)) : List (Int × Int) := G.take i ++ G.drop (i + 1)
theorem CutG_len {i : Nat} {G : List (Int × Int)} (hi : i < G.length) : (CutG i G).length = G.length - 1 := by unfold CutG; rw [List.length_append, List.length_take, List.length_drop]; omega
theorem Gc_take (S : List (Int × Int)) (k : Nat) : Gc (S.take k) = (Gc S).take (k * 2) := by
  induction S generalizing k with
  | nil => simp [Gc]
  | cons y r ih =>
    cases k with
    | zero => simp [Gc]
    | succ k =>
      have e : Gc (y :: r) = .int .i64 y.1 :: .int .i64 y.2 :: Gc r := rfl
      have e2 : Gc (y :: r.take k) = .int .i64 y.1 :: .int .i64 y.2 :: Gc (r.take k) := rfl
      have e1 : (k + 1) * 2 = k * 2 + 1 + 1 := by omega
      rw [e, e1, List.take_succ_cons, List.take_succ_cons, List.take_succ_cons, e2, ih]
theorem Gc_drop (S : List (Int × Int)) (k : Nat) : Gc (S.drop k) = (Gc S).drop (k * 2) := by
  induction S generalizing k with
  | nil => simp [Gc]
  | cons y r ih =>
    cases k with
    | zero => simp
    | succ k =>
      have e : Gc (y :: r) = .int .i64 y.1 :: .int .i64 y.2 :: Gc r := rfl
      have e1 : (k + 1) * 2 = k * 2 + 1 + 1 := by omega
      rw [e, e1, List.drop_succ_cons, List.drop_succ_cons, List.drop_succ_cons, ih]
def Kdel (g cap i : Nat) (G : List (Int × Int)) (w : World) (e : Ending) (w' : World) : Prop :=
  e = .returned (.slice (some ⟨g, 0, none⟩) (G.length - 1) cap) ∧ Own w' 95 2 (.slice (some ⟨g, 0, none⟩) (G.length - 1) cap) (G.length - 1) (Gc (CutG i G)) ∧ Kp (· = g) w w'
theorem kdel_close {g cap i : Nat} {G : List (Int × Int)} {w : World} (h : Own w 95 2 (.slice (some ⟨g, 0, none⟩) G.length cap) G.length (Gc G)) (hi : i < G.length) :
    Own ((w.setCells g (i * 2) (Gc (G.drop (i + 1)))).setCells g ((G.length - 1) * 2) [.int .i64 0, .int .i64 0]) 95 2 (.slice (some ⟨g, 0, none⟩) (G.length - 1) cap) (G.length - 1) (Gc (CutG i G)) := by
  obtain ⟨hlen, h2⟩ := h
  rcases h2 with ⟨h2, _⟩ | ⟨g', cap', cur, he, hg, hh, hn, hm, hsz, hcur⟩
  · cases h2
  · cases he
    have hd : (Gc (G.drop (i + 1))).length = (G.length - (i + 1)) * 2 := by rw [Gc_len, List.length_drop]
    obtain ⟨c1, k1, s1, e1⟩ := setCells_heap (Gc (G.drop (i + 1))) (i * 2) w cur hh (by rw [hd, hsz]; omega)
    obtain ⟨c2, k2, s2, e2⟩ := setCells_heap [.int .i64 0, .int .i64 0] ((G.length - 1) * 2) _ c1 k1 (by rw [s1, hsz]; simp; omega)
    refine ⟨by rw [Gc_len, CutG_len hi], Or.inr ⟨g, cap, c2, rfl, hg, k2, by omega, hm, by rw [s2, s1, hsz], ?_⟩⟩
    apply List.ext_getElem?
    intro t
    rw [List.getElem?_take]
    have hold : ∀ t, t < G.length * 2 → cur[t]? = (Gc G)[t]? := fun t ht => by
      rw [← hcur, List.getElem?_take, if_pos ht, Array.getElem?_toList]
    have hcut : Gc (CutG i G) = (Gc G).take (i * 2) ++ (Gc G).drop ((i + 1) * 2) := by unfold CutG; rw [Gc_app, Gc_take, Gc_drop]
    have hGl := Gc_len G
    split
    · rename_i ht
      rw [Array.getElem?_toList, e2, if_neg (by simp; omega), e1, hd]
      rw [hcut]
      by_cases h5 : i * 2 ≤ t
      · rw [if_pos (by omega), Gc_drop, List.getElem?_append_right (by rw [List.length_take]; omega), List.length_take, show min (i * 2) (Gc G).length = i * 2 by omega]
      · rw [if_neg (by omega), hold t (by omega), List.getElem?_append_left (by rw [List.length_take]; omega), List.getElem?_take, if_pos (by omega)]
    · rename_i ht
      rw [List.getElem?_eq_none]
      rw [Gc_len, CutG_len hi]; omega
set_option maxHeartbeats 4000000 in
set_option maxRecDepth 1000000 in
theorem kdel_any (g cap i : Nat) (G : List (Int × Int)) (w : World) (h : Own w 95 2 (.slice (some ⟨g, 0, none⟩) G.length cap) G.length (Gc G)) (hi : i < G.length) (hl : G.length ≤ 1000000) :
    Calls Try.prog 60 #[.slice (some ⟨g, 0, none⟩) G.length cap, .int .i64 i, .int .i64 ((i : Int) + 1)] w (Kdel g cap i G w) := by
  obtain ⟨i0, hi0, hz0, hz1, hz2⟩ := info_parts key_info
  have mixed : Try.prog.follows Departure.mixedOrders = true := by kernel_rfl
  have hcap : G.length ≤ cap := by
    rcases h.shape with ⟨h1, _⟩ | ⟨g', cap', he, hc, _⟩
    · cases h1
    · cases he; exact hc
  have hg : g < w.heap.size := h.lt (by simp [Value.ownBlock])
  obtain ⟨j, hj⟩ : ∃ j, j = i + 1 := ⟨_, rfl⟩
  obtain ⟨news, hnews⟩ : ∃ news, news = Gc (G.drop (i + 1)) := ⟨_, rfl⟩
  have hlen : news.length = (G.length - j) * 2 := by rw [hnews, Gc_len, List.length_drop, hj]
  have hget : ∀ t u, news[t]? = some u → w.cell? ⟨g, j * 2 + t, none⟩ = some u := fun t u hu => by
    rw [hnews, Gc_drop, List.getElem?_drop] at hu
    rw [hj]
    exact h.cell hu
  obtain ⟨A, hA, hsrc⟩ : ∃ A : Addr, (if cap = j then some (⟨g, 0, none⟩ : Addr) else some ⟨g, j * 2, none⟩) = some A ∧ Hid (∀ t u, news[t]? = some u → w.drew.cell? (A.add t) = some u) := by
    by_cases hc : cap = j
    · refine ⟨⟨g, 0, none⟩, by simp [hc], Lib.hid fun t u hu => ?_⟩
      have h0 : news.length = 0 := by rw [hlen]; omega
      rw [List.length_eq_zero_iff.1 h0] at hu
      simp at hu
    · refine ⟨⟨g, j * 2, none⟩, by simp [hc], Lib.hid fun t u hu => ?_⟩
      rw [Addr.add_lit]
      exact hget t u hu
  have s1 : Hid (news.length = (G.length - j) * 2) := Lib.hid hlen
  have s2 : Hid (∀ u ∈ news, u.oneCell' = true) := Lib.hid (by rw [hnews]; exact Gc_one _)
  have hpres : ∀ t, t < G.length * 2 → (w.cell? ⟨g, t, none⟩).isSome = true ∧ w.frozen? ⟨g, t, none⟩ = false := fun t ht => by
    obtain ⟨u, hu⟩ : ∃ u, (Gc G)[t]? = some u := ⟨_, List.getElem?_eq_getElem (by rw [Gc_len]; exact ht)⟩
    exact ⟨by rw [h.cell hu]; rfl, h.frozen t⟩
  have s3 : Hid (∀ t, t < news.length → (w.drew.cell? ⟨g, 0 + i * 2 + t, none⟩).isSome = true ∧ w.drew.frozen? ⟨g, 0 + i * 2 + t, none⟩ = false) := Lib.hid (by
    intro t ht
    rw [hlen] at ht
    rw [Nat.zero_add]
    exact hpres (i * 2 + t) (by omega))
  obtain ⟨W1, hW1⟩ : ∃ W1, W1 = w.drew.setCells g (0 + i * 2) news := ⟨_, rfl⟩
  have hW : Hid (W1 = w.drew.setCells g (0 + i * 2) news) := Lib.hid hW1
  have him : i + (G.length - j) = G.length - 1 := by omega
  have hpres1 : ∀ t, t < G.length * 2 → (W1.cell? ⟨g, t, none⟩).isSome = true ∧ W1.frozen? ⟨g, t, none⟩ = false := fun t ht => by
    obtain ⟨a, b⟩ := hpres t ht
    rw [hW1]
    exact ⟨World.isSome_setCells g _ _ _ _ a, by rw [World.frozen?_setCells]; exact b⟩
  have hone : G.length - (i + (G.length - j)) = 1 := by omega
  have hcl : ∀ ty, (Builtin.clear_ #[91] ty #[.slice (some ⟨g, (i + (G.length - j)) * 2, none⟩) (G.length - (i + (G.length - j))) (cap - (i + (G.length - j)))]).run Try.prog W1 = .ok (.tuple #[]) (W1.setCells g ((i + (G.length - j)) * 2) [.int .i64 0, .int .i64 0]) := fun ty => by
    rw [hone]
    exact run_clear_key W1 ty g ((i + (G.length - j)) * 2) (cap - (i + (G.length - j))) (fun t ht => (hpres1 _ (by omega)).1) (fun t ht => (hpres1 _ (by omega)).2)
  have HFIN := Lib.hid (show Kdel g cap i G w (.returned (.slice (some ⟨g, 0, none⟩) (i + (G.length - j)) cap)) (W1.setCells g ((i + (G.length - j)) * 2) [.int .i64 0, .int .i64 0]) from by
    rw [him, hW1, hnews, Nat.zero_add]
    have hd : (w.drew.setCells g (i * 2) (Gc (G.drop (i + 1)))).setCells g ((G.length - 1) * 2) [.int .i64 0, .int .i64 0] = (w.drew.setCells g (i * 2) (Gc (G.drop (i + 1)))).setCells g ((G.length - 1) * 2) [.int .i64 0, .int .i64 0] := rfl
    exact ⟨rfl, kdel_close (w := w.drew) h hi, (((Kp.refl _ w).drew).trans (kp_setCells _ _)).trans (kp_setCells _ _)⟩)
  rw [show ((i : Int) + 1) = (j : Int) by rw [hj]; rfl]
  have q1 : (0 : Int) ≤ (i : Int) := by omega
  have q2 : (i : Int) ≤ (j : Int) := by omega
  have q3 : (j : Int) ≤ (G.length : Int) := by omega
  have q4 : (G.length : Int) ≤ (cap : Int) := by omega
  have q5 : ¬ (i : Int) = (j : Int) := by omega
  have q6 : (i : Int) ≤ (cap : Int) := by omega
  have q7 : (j : Int) ≤ (cap : Int) := by omega
  have HIM := Lib.hid him; have HONE := Lib.hid hone
  have q8 : ¬ cap = i + (G.length - j) := by omega
  have q9 : i + (G.length - j) ≤ G.length := by omega
  have q10 : i + (G.length - j) ≤ cap := by omega
  have q11 : i ≤ cap := by omega
  have q12 : i + (G.length - j) ≤ 1000000 := by omega
  clear hj hnews hlen hget hpres hpres1 hW1 him h hone
  go_enter Try.func60, Try.ntmps60
  go_wp2_with fail
  go_region_law_o (refine step_append_room rfl (.tmp 22) (.tmp 25) 91 rfl 95 i0 2 Try.underlying91 hi0 hz1 g 0 i cap (by simp [Act.eval, Act.put]) A (G.length - j) (cap - j) news (by simp [Act.eval, Act.put]; first | exact hA | skip) s1.out hsrc.out s2.out (by omega) s3.out ?_; rw [← hW.out])
  go_wp2_with fail
  go_ret
  exact HFIN.out
end Go.Proofs.Ytbiahndpfbmoeaa

/- What a scheduler's End does. Conditions: there are no more recipients than fit into memory. -/
namespace Go.Proofs.Ytbiahndpfbmoeaa
open Go.RowKit Go.Maps SatAid Go.MapKept Go.ChangeMaps Go.WideShapes

/-- a domain more, that was counted before -/
theorem Vq.ext0 {s s' : Sd} {now n0 : Int} {y : Pe} (ht : Tik s now) (h0 : 0 ≤ n0) (h0n : n0 ≤ now) (hn2 : now ≤ 1099511627776) (hx : Pext s n0 y s'.Ps) (hc : s'.c = s.c) : Vq now s s' := by
  obtain ⟨hy, h | ⟨h, hne, h1, h2, h3, h4⟩⟩ := hx
  · exact Vq.of h hc ht
  · rw [C_of h0 (by omega)] at h4
    have hf : ∀ d, fp s'.Ps d = match fp s.Ps d with | some z => some z | none => if y.dom = d then some y else none := fun d => by
      rw [h]
      unfold fp
      rw [List.find?_append]
      cases hh : s.Ps.find? (fun y => decide (y.dom = d)) with
      | some z => rfl
      | none =>
        simp only [Option.none_or, List.find?_cons, List.find?_nil]
        by_cases e : y.dom = d
        · simp [e]
        · simp [e]
    refine ⟨fun d => ?_, fun d => ?_, fun m d h5 h6 => ?_, fun z hz => ?_⟩
    · unfold vN; rw [hf]
      cases fp s.Ps d with
      | some z => rfl
      | none => simp only; split <;> rename_i h7 <;> split at h7 <;> first | (cases h7; exact h1) | rfl | cases h7
    · unfold vB; rw [hf]
      cases fp s.Ps d with
      | some z => rfl
      | none => simp only; split <;> rename_i h7 <;> split at h7 <;> first | (cases h7; exact h2) | rfl | cases h7
    · unfold vT; rw [hf, hc]
      cases fp s.Ps d with
      | some z => rfl
      | none =>
        simp only
        split <;> rename_i h7 <;> split at h7
        · cases h7
          rw [h3, h4]
          exact Lf_full' (V_lo _) (V_hi _) (V_lo _) (V_hi _) h0 (by omega)
        · cases h7
        · cases h7
        · rfl
    · rw [h] at hz
      rcases List.mem_append.1 hz with hz | hz
      · exact ht z hz
      · obtain rfl := List.mem_singleton.1 hz
        omega
/-- one domain has ended one -/
structure Ve (now : Int) (d0 : ByteArray) (g : Bool) (s s' : Sd) : Prop where
  n : ∀ d, vN s' d = if d = d0 then En g (V8 s.c.win) (vN s d) (vB s d) else vN s d
  b : ∀ d, vB s' d = if d = d0 then Eb (vB s d) else vB s d
  t : ∀ m d, now ≤ m → m ≤ 1099511627776 → vT s' m d = vT s m d
  le : Tik s' now
theorem Ve.ended {s : Sd} {y y' : Pe} {now : Int} {g : Bool} (hp : s.Ps.Pairwise (fun a b => a.dom ≠ b.dom)) (hy : y ∈ s.Ps) (e4 : y'.dom = y.dom) (e1 : y'.now = En g (V8 s.c.win) y.now y.busy) (e2 : y'.busy = Eb y.busy) (e3 : y'.l = y.l) (e5 : y'.t = y.t) (ht : Tik s now) : Ve now y.dom g s { s with Ps := Psub s.Ps y' } := by
  have hf := fun d => fp_sub (d := d) hp (y' := y') ⟨y, hy, e4.symm⟩
  rw [e4] at hf
  obtain ⟨p1, p2, _⟩ := pn_of hp hy
  refine ⟨fun d => ?_, fun d => ?_, fun m d h1 h2 => ?_, fun z hz => ?_⟩
  · by_cases e : d = y.dom
    · subst e
      rw [if_pos rfl, p1, p2]
      unfold vN; simp only [hf, if_true]; exact e1
    · rw [if_neg e]; unfold vN; simp only [hf]; rw [if_neg e]
  · by_cases e : d = y.dom
    · subst e
      rw [if_pos rfl, p2]
      unfold vB; simp only [hf, if_true]; exact e2
    · rw [if_neg e]; unfold vB; simp only [hf]; rw [if_neg e]
  · unfold vT; simp only [hf]
    by_cases e : d = y.dom
    · subst e; rw [fp_eq hp hy, if_pos rfl]; simp only [e3, e5]
    · rw [if_neg e]
  · rcases Psub_mem hz with ⟨rfl, _⟩ | ⟨hz, _⟩
    · rw [e5]; exact ht y hy
    · exact ht z hz
theorem Ve.of_vq {now : Int} {d0 : ByteArray} {g : Bool} {s s1 s2 : Sd} (h : Vq now s s1) (k : Ve now d0 g s1 s2) (hc : s1.c = s.c) : Ve now d0 g s s2 :=
  ⟨fun d => by rw [k.n, h.n, h.b, hc], fun d => by rw [k.b, h.b], fun m d h1 h2 => by rw [k.t m d h1 h2, h.t m d h1 h2], k.le⟩
theorem Ve.then {now : Int} {d0 : ByteArray} {g : Bool} {s s1 s2 : Sd} (h : Ve now d0 g s s1) (hp : s2.Ps = s1.Ps) (hc : s2.c = s1.c) : Ve now d0 g s s2 :=
  ⟨fun d => by rw [← h.n]; unfold vN; rw [hp], fun d => by rw [← h.b]; unfold vB; rw [hp], fun m d h1 h2 => by rw [← h.t m d h1 h2]; unfold vT; rw [hp, hc], by unfold Tik; rw [hp]; exact h.le⟩
/-- one ends -/
def aEnd (A : Ab) (i : Nat) (x : Wx) (stays : Bool) (n : Int) : Ab :=
  let B := aGo { A with G := CutG i A.G } (x.id, x.rc) false (fun _ => n)
  if stays then B else aGone B { x with go := false, nx := n }
def Send (p N : Nat) (s : Sd) (i : Int) (good stays : Bool) (n now : Int) (w : World) (e : Ending) (w' : World) : Prop :=
  ((i < 0 ∨ (s.G.length : Int) ≤ i) → e = .returned (.tuple #[z3, .bool false]) ∧ Kp (fun _ => False) w w') ∧
  ((0 ≤ i ∧ i < (s.G.length : Int)) → ∃ x s', x ∈ s.Ws ∧ s.G[i.toNat]? = some (x.id, x.rc) ∧ e = .returned (.tuple #[.agg #[.int .i64 x.id, .int .i64 x.rc, .string x.dom], .bool true]) ∧ SIn w' p s' N ∧ St w w' s s' ∧
    ab s' = aEnd (ab s) i.toNat (wx x) stays (C n) ∧ Ve now x.dom good s s')
theorem send_none (i n : Int) (a b : Bool) (w : World) : Calls Try.prog 32 #[.pointer none, .int .i64 i, .bool a, .bool b, .int .i64 n] w fun e w' => e = .returned (.tuple #[z3, .bool false]) ∧ Kp (fun _ => False) w w' := by
  go_enter Try.func32, Try.ntmps32
  go_wp2_with fail
  refine bodyPost_ret (v := .tuple #[z3, .bool false]) ?_ rfl ⟨rfl, (by repeat (first | exact Kp.refl _ _ | apply Kp.drew | apply Kp.drewN | refine Kp.setCell ?_ _ _ (Or.inl rfl) | apply Kp.alloc))⟩
  rw [results_cell_tmp rfl]
  go_simp
  rfl
theorem CutG_sub {i : Nat} {G : List (Int × Int)} {k : Int × Int} (h : k ∈ CutG i G) : k ∈ G := by
  unfold CutG at h
  rcases List.mem_append.1 h with h | h
  · exact List.mem_of_mem_take h
  · exact List.mem_of_mem_drop h
theorem CutG_nodup {i : Nat} {G : List (Int × Int)} (h : G.Nodup) : (CutG i G).Nodup := by
  unfold CutG
  have h1 : (G.take i ++ G.drop (i + 1)).Sublist G := by
    conv => rhs; rw [← List.take_append_drop i G]
    exact List.Sublist.append (List.Sublist.refl _) (List.drop_sublist_drop_left G (Nat.le_succ i))
  exact h.sublist h1
theorem CutG_notin {i : Nat} {G : List (Int × Int)} {k : Int × Int} (h : G.Nodup) (hk : G[i]? = some k) : k ∉ CutG i G := by
  intro hm
  have hi := (List.getElem?_eq_some_iff.1 hk).1
  have e : G = G.take i ++ k :: G.drop (i + 1) := by
    have := (List.getElem?_eq_some_iff.1 hk).2
    rw [← this, ← List.drop_eq_getElem_cons hi, List.take_append_drop]
  rw [e, List.nodup_append] at h
  obtain ⟨_, h2, h3⟩ := h
  unfold CutG at hm
  rcases List.mem_append.1 hm with h4 | h4
  · exact h3 k h4 k (List.mem_cons_self ..) rfl
  · exact (List.nodup_cons.1 h2).1 h4
end Go.Proofs.Ytbiahndpfbmoeaa

/- What a scheduler's End does: the walk. Conditions: there are no more recipients than fit into memory. -/
namespace Go.Proofs.Ytbiahndpfbmoeaa
open Go.RowKit Go.Maps SatAid Go.MapKept Go.ChangeMaps Go.WideShapes

set_option maxRecDepth 100000 in
set_option maxHeartbeats 6400000 in
theorem send_no (p N : Nat) (s : Sd) (i : Int) (good stays : Bool) (n : Int) (w : World) (h : SIn w p s N) (hi : i < 0 ∨ (s.G.length : Int) ≤ i) :
    Calls Try.prog 32 #[.pointer (some ⟨p, 0, none⟩), .int .i64 i, .bool good, .bool stays, .int .i64 n] w fun e w' => e = .returned (.tuple #[z3, .bool false]) ∧ Kp (fun _ => False) w w' := by
  obtain ⟨vo, vc, hvg⟩ := h.gng.slice
  have c15 : w.cell? ⟨p, 15, none⟩ = some s.vg := (cell_of h.head 15).trans rfl
  rw [hvg] at c15
  have lp := lt_of_block h.head
  clear h hvg
  by_cases h1 : i < 0
  · clear hi
    go_enter Try.func32, Try.ntmps32
    go_wp2_with fail
    refine bodyPost_ret (v := .tuple #[z3, .bool false]) ?_ rfl ⟨rfl, (by repeat (first | exact Kp.refl _ _ | apply Kp.drew | apply Kp.drewN | refine Kp.setCell ?_ _ _ (Or.inl rfl) | apply Kp.alloc))⟩
    rw [results_cell_tmp rfl]
    go_simp
    rfl
  · have h2 : (s.G.length : Int) ≤ i := by omega
    clear hi
    go_enter Try.func32, Try.ntmps32
    go_wp2_with fail
    refine bodyPost_ret (v := .tuple #[z3, .bool false]) ?_ rfl ⟨rfl, (by repeat (first | exact Kp.refl _ _ | apply Kp.drew | apply Kp.drewN | refine Kp.setCell ?_ _ _ (Or.inl rfl) | apply Kp.alloc))⟩
    rw [results_cell_tmp rfl]
    go_simp
    rfl
set_option maxRecDepth 100000 in
set_option maxHeartbeats 6400000 in
theorem send_yes (p N : Nat) (s : Sd) (i : Nat) (good stays : Bool) (n now : Int) (w : World) (h : SIn w p s N) (hi : i < s.G.length) (ht : Tik s now) (hn : 0 ≤ now) (hn2 : now ≤ 1099511627776) (hN : N ≤ 1000000) :
    Calls Try.prog 32 #[.pointer (some ⟨p, 0, none⟩), .int .i64 i, .bool good, .bool stays, .int .i64 n] w fun e w' =>
      ∃ x s', x ∈ s.Ws ∧ s.G[i]? = some (x.id, x.rc) ∧ e = .returned (.tuple #[.agg #[.int .i64 x.id, .int .i64 x.rc, .string x.dom], .bool true]) ∧ SIn w' p s' N ∧ St w w' s s' ∧
        ab s' = aEnd (ab s) i (wx x) stays (C n) ∧ Ve now x.dom good s s' := by
  obtain ⟨k, hk⟩ : ∃ k, s.G[i]? = some k := ⟨_, List.getElem?_eq_getElem hi⟩
  obtain ⟨x, hx, hxk, hxg⟩ := h.gin k (List.mem_of_getElem? hk)
  subst hxk
  rcases h.gng.shape with ⟨_, h1, _⟩ | ⟨g, vc, hvg, hcap, hcm, hg⟩
  · omega
  have hgng := h.gng
  rw [hvg] at hgng
  have c13 : w.cell? ⟨p, 12, none⟩ = some (.map (some s.bm)) := (cell_of h.head 12).trans rfl
  have c15 : w.cell? ⟨p, 15, none⟩ = some s.vg := (cell_of h.head 15).trans rfl
  rw [hvg] at c15
  have g0 := hgng.cell (Gc_get hk).1
  have g1 := hgng.cell (Gc_get hk).2
  have lp := lt_of_block h.head
  have q0 : (0 : Int) ≤ (i : Int) := by omega
  have q1 : (i : Int) < (s.G.length : Int) := by omega
  have q2 : ¬ (i : Int) < 0 := by omega
  have q3 : ¬ (s.G.length : Int) ≤ (i : Int) := by omega
  have hGl : s.G.length ≤ N := Nat.le_trans h.glen h.lw
  have hka : Kp (fun _ => False) w (w.alloc (.cells #[.int .i64 0, .int .i64 0, .string ({ data := #[] } : ByteArray)] 66)) := (by repeat (first | exact Kp.refl _ _ | apply Kp.drew | apply Kp.drewN | refine Kp.setCell ?_ _ _ (Or.inl rfl) | apply Kp.alloc))
  have hlk := fun m => (MapAt.look (h.bym.keep (hka.drewN m) (fun h => h)) key_keyed Try.underlying88 (wzero _) (key_lit (h.wfs x hx).1 (h.wfs x hx).2.1) (wm_mem hx)).2
  unfold Kv at hlk
  have H := Lib.hid h; have HX := Lib.hid hx; have HK := Lib.hid hk; have HT := Lib.hid ht; have HVG := Lib.hid hvg; have HGN := Lib.hid hgng; have HXG := Lib.hid hxg
  clear h hx hk ht hvg hgng hxg
  go_enter Try.func32, Try.ntmps32
  go_wp2_with fail
  go_quiet (fail)
  go_wp2_with fail
  obtain ⟨w1, hw1⟩ : ∃ w1, w1 = (w.alloc (.cells #[.int .i64 0, .int .i64 0, .string ({ data := #[] } : ByteArray)] 66)).drewN nq := ⟨_, rfl⟩
  have hk1 : Kp (fun _ => False) w w1 := by rw [hw1]; exact (by repeat (first | exact Kp.refl _ _ | apply Kp.drew | apply Kp.drewN | refine Kp.setCell ?_ _ _ (Or.inl rfl) | apply Kp.alloc))
  have hr1 : w1.heap[w.heap.size]? = some (.cells #[.int .i64 0, .int .i64 0, .string ByteArray.empty] 66 (0, 0)) := by rw [hw1]; exact heap_new _
  rw [← hw1]
  clear hw1 hka hlk c13 g0 g1
  obtain ⟨rs, hrs⟩ : ∃ rs, rs = w.heap.size := ⟨_, rfl⟩
  rw [← hrs] at hr1 ⊢
  have HRS := Lib.hid hrs; have HK1 := Lib.hid hk1; have HR1 := Lib.hid hr1
  have HSI1 := Lib.hid (H.out.keep hk1 (fun _ _ h => h))
  have HGN1 := Lib.hid (HGN.out.keep hk1 (fun _ _ h => h))
  have d15 := (hk1.cell 15 lp (fun h => h)).trans c15
  have f15 := frozen_of HSI1.out.head 15
  have hpg : p ≠ g := col_neq H.out.cols.head (H.out.cols.gng g (by rw [HVG.out]; rfl)) rfl
  have lp1 := lt_of_block HSI1.out.head
  have hlr := lt_of_block HR1.out
  clear hrs hk1 hr1 c15 lp
  refine (kdel_any g vc i s.G _ HGN1.out hi (by omega)).mono ?_; rintro e w2 ⟨rfl, ho2, hk2⟩
  have e15 := (hk2.cell 15 lp1 hpg).trans d15
  have e15f := (hk2.frozen 15 lp1 hpg).trans f15
  have hhead2 := hk2.keep HSI1.out.head hpg
  have hk3 : Kp (fun k => k = p ∨ In s.vg k) w1 (w2.setCell ⟨p, 15, none⟩ (.slice (some ⟨g, 0, none⟩) (s.G.length - 1) vc)) := (hk2.mono (fun k _ h => by have h' : k = g := h; subst h'; rw [HVG.out]; exact Or.inr rfl)).setCell ⟨p, 15, none⟩ _ (Or.inl (Or.inl rfl))
  obtain ⟨v1, v2⟩ := HSI1.out.setGoing (vg := .slice (some ⟨g, 0, none⟩) (s.G.length - 1) vc) (G := CutG i s.G) (w' := w2.setCell ⟨p, 15, none⟩ (.slice (some ⟨g, 0, none⟩) (s.G.length - 1) vc)) ((heap_set hhead2 (i := 15) _).trans rfl) (by
    rw [CutG_len hi]
    exact ho2.keep ((Kp.refl (· = p) w2).setCell ⟨p, 15, none⟩ _ (Or.inl rfl)) (fun k hk h => hpg (by
      have h1 : g = k := by simpa [Value.ownBlock] using hk
      have h2 : k = p := h
      rw [h1, h2]))) (Or.inl (by rw [HVG.out]; rfl)) hk3 (fun k hk => H.out.gin k (CutG_sub hk)) (CutG_nodup H.out.gnd)
  have HSI3 := Lib.hid v1; have HST3 := Lib.hid ((St.of (s' := s) HK1.out (fun _ _ h => h.elim) rfl).trans v2)
  obtain ⟨s3, hs3⟩ : ∃ s3, s3 = setG s (.slice (some ⟨g, 0, none⟩) (s.G.length - 1) vc) (CutG i s.G) := ⟨_, rfl⟩
  have HE3 := Lib.hid (show ab s3 = { ab s with G := CutG i (ab s).G } ∧ s3.Ws = s.Ws ∧ s3.D = s.D ∧ s3.G = CutG i s.G ∧ s3.c = s.c ∧ s3.Ps = s.Ps from by rw [hs3]; exact ⟨rfl, rfl, rfl, rfl, rfl, rfl⟩)
  rw [← hs3] at HSI3 HST3
  have HSW := Lib.hid v2
  rw [← hs3] at HSW
  clear hs3 v1 v2 hk3 ho2 hhead2
  have hx3 : x ∈ s3.Ws := by rw [HE3.out.2.1]; exact HX.out
  have hmb3 := HSI3.out.wts x hx3
  have x3 : (w2.setCell ⟨p, 15, none⟩ (.slice (some ⟨g, 0, none⟩) (s.G.length - 1) vc)).cell? ⟨x.blk, 3, none⟩ = some (.string x.dom) := (cell_of hmb3 3).trans rfl
  have HX3 := Lib.hid hx3
  clear hk2 hmb3 d15 f15 hx3
  go_wp2_with fail
  obtain ⟨w3, hw3⟩ : ∃ w3, w3 = w2.setCell ⟨p, 15, none⟩ (.slice (some ⟨g, 0, none⟩) (s.G.length - 1) vc) := ⟨_, rfl⟩
  rw [← hw3] at HSI3 HST3 HSW ⊢
  clear hw3 e15 e15f x3
  refine (speer_any p N s3 x.dom 0 _ HSI3.out (HSI3.out.wfs x HX3.out).2.2 hN).mono ?_; rintro e w4 ⟨y, Ps4, col4, rfl, hyd, hpx, hcx, hsi4, hk4⟩
  have ht3 : Tik s3 now := by unfold Tik; rw [HE3.out.2.2.2.2.2]; exact HT.out
  have hv4 := (Vq.of HE3.out.2.2.2.2.2 HE3.out.2.2.2.2.1 HT.out).trans (Vq.ext0 (s := s3) (s' := { s3 with Ps := Ps4, col := col4 }) ht3 (Int.le_refl 0) hn hn2 hpx rfl)
  have hst4 := HST3.out.trans (St.peer (Ps' := Ps4) HSI3.out hcx hk4)
  have hsw4 := HSW.out.trans (St.peer (Ps' := Ps4) HSI3.out hcx hk4)
  have hy4 := hpx.1
  obtain ⟨b1, b2, b3⟩ := hsi4.prs y hy4
  obtain ⟨ok1, ok2, ok3, ok4, ok5, _⟩ := hsi4.pok y hy4
  have y0 : w4.cell? ⟨y.blk, 0, none⟩ = some (.pointer (some ⟨y.wb, 0, none⟩)) := (cell_of b1 0).trans rfl
  have hwt : y.wb ≠ y.tb := col_neq (hsi4.cols.prs y hy4).2.1 (hsi4.cols.prs y hy4).2.2 rfl
  have HYD := Lib.hid hyd; have HSI4 := Lib.hid hsi4; have HV4 := Lib.hid hv4; have HST4 := Lib.hid hst4; have HSW4 := Lib.hid hsw4; have HY4 := Lib.hid hy4; have HB2 := Lib.hid b2; have HB3 := Lib.hid b3; have HOK := Lib.hid ok1
  clear hyd hpx hcx hsi4 hk4 hv4 hst4 hsw4 hy4 b1 b2 b3 ok1 ht3 HSI3 HST3 HSW
  go_wp2_with fail
  refine (wend_any y.wb good _ _ _ _ HOK.out HB2.out).mono ?_; rintro e w5 ⟨rfl, hb5, hk5⟩
  have hT5 := hk5.keep HB3.out hwt.symm
  obtain ⟨g1, g2⟩ := HSI4.out.setPeer HY4.out (y' := { y with now := En good (V8 s3.c.win) y.now y.busy, busy := Eb y.busy }) rfl rfl rfl rfl (hk5.mono (fun _ _ h => Or.inl h)) hb5 hT5 ⟨HOK.out.ends good, ok2, ok3, ok4, ok5⟩
  have hve := Ve.of_vq HV4.out (Ve.ended (g := good) (y' := { y with now := En good (V8 s3.c.win) y.now y.busy, busy := Eb y.busy }) HSI4.out.doms HY4.out rfl rfl rfl rfl rfl HV4.out.le) HE3.out.2.2.2.2.1
  obtain ⟨s5, hs5⟩ : ∃ s5, s5 = { { s3 with Ps := Ps4, col := col4 } with Ps := Psub Ps4 { y with now := En good (V8 s3.c.win) y.now y.busy, busy := Eb y.busy } } := ⟨_, rfl⟩
  have HS5 := Lib.hid (show ab s5 = ab s3 ∧ s5.Ws = s3.Ws ∧ s5.D = s3.D ∧ s5.G = s3.G from by rw [hs5]; exact ⟨rfl, rfl, rfl, rfl⟩)
  have HVE5 := Lib.hid (show Ve now y.dom good s s5 by rw [hs5]; exact hve)
  have HSI5 := Lib.hid (show SIn w5 p s5 N by rw [hs5]; exact g1)
  have HST5 := Lib.hid (show St w w5 s s5 by rw [hs5]; exact HST4.out.trans g2)
  have HSW5 := Lib.hid (show St w1 w5 s s5 by rw [hs5]; exact HSW4.out.trans g2)
  clear hs5 g1 g2 hve hb5 hk5 hT5 y0 HST4 HSW4 HSI4 HB2 HB3 HY4 HV4
  have hx5 : x ∈ s5.Ws := by rw [HS5.out.2.1]; exact HX3.out
  have hmb := HSI5.out.wts x hx5
  have f5 := frozen_of hmb 5
  have f6 := frozen_of hmb 6
  have x5 : w5.cell? ⟨x.blk, 5, none⟩ = some (.bool x.go) := (cell_of hmb 5).trans rfl
  have x6 : w5.cell? ⟨x.blk, 6, none⟩ = some (.int .i64 x.nx) := (cell_of hmb 6).trans rfl
  have hni : (x.id, x.rc) ∉ s5.G := by rw [HS5.out.2.2.2, HE3.out.2.2.2.1]; exact CutG_notin H.out.gnd HK.out
  obtain ⟨u1, u2⟩ := HSI5.out.setWait (w' := (w5.setCell ⟨x.blk, 5, none⟩ (.bool false)).setCell ⟨x.blk, 6, none⟩ (.int .i64 (C n))) (g := false) (n := C n) hx5 (fun _ => hni) (((Kp.refl (· = x.blk) w5).setCell ⟨x.blk, 5, none⟩ (.bool false) (Or.inl rfl)).setCell ⟨x.blk, 6, none⟩ _ (Or.inl rfl)) ((heap_set (heap_set hmb (i := 5) _) (i := 6) _).trans rfl)
  have HA7 := Lib.hid (show ab (setW s5 (Go1 x false (C n))) = aGo { ab s with G := CutG i (ab s).G } (x.id, x.rc) false (fun _ => C n) from by
    rw [ab_setW s5 x false (C n) hx5 (fun z hz e => HSI5.out.key_eq hz hx5 e), HS5.out.1, HE3.out.1])
  have hx7 : Go1 x false (C n) ∈ (setW s5 (Go1 x false (C n))).Ws := List.mem_map.2 ⟨x, hx5, by rw [if_pos]; rfl⟩
  have HVE7 := Lib.hid (HVE5.out.then (s2 := setW s5 (Go1 x false (C n))) rfl rfl)
  obtain ⟨s7, hs7⟩ : ∃ s7, s7 = setW s5 (Go1 x false (C n)) := ⟨_, rfl⟩
  have HNI := Lib.hid (show (x.id, x.rc) ∉ s7.G by rw [hs7]; exact hni)
  have HST7 := Lib.hid (HST5.out.trans u2); have HSW7 := Lib.hid (HSW5.out.trans u2); have HSI7 := Lib.hid u1; have HX7 := Lib.hid hx7
  rw [← hs7] at HST7 HSW7 HSI7 HX7 HA7 HVE7
  clear hs7 u1 u2 hx7 hmb hni HSI5 HST5 HSW5 HVE5
  have hun : ∀ k, rs ≤ k → ¬ (s.col k).isSome := fun k e h => by have := H.out.lt k h; have := HRS.out; omega
  have hcs : s.col rs = none := by
    cases hc : s.col rs with
    | none => rfl
    | some c => exact absurd (by rw [hc]; rfl) (hun rs (Nat.le_refl _))
  have HUN := Lib.hid hun; have HCS := Lib.hid hcs
  clear hun hcs
  go_wp2_with fail
  refine (clamp_any _ _).mono ?_; rintro e w6 ⟨rfl, rfl⟩
  cases stays with
  | true =>
    have HFIN := Lib.hid (show ∀ wz, Kp (· = rs) ((w5.setCell ⟨x.blk, 5, none⟩ (.bool false)).setCell ⟨x.blk, 6, none⟩ (.int .i64 (C n))) wz → ∃ x' s', x' ∈ s.Ws ∧ s.G[i]? = some (x'.id, x'.rc) ∧ (Ending.returned (.tuple #[.agg #[.int .i64 x.id, .int .i64 x.rc, .string x.dom], .bool true])) = .returned (.tuple #[.agg #[.int .i64 x'.id, .int .i64 x'.rc, .string x'.dom], .bool true]) ∧ SIn wz p s' N ∧ St w wz s s' ∧ ab s' = aEnd (ab s) i (wx x') true (C n) ∧ Ve now x'.dom good s s' from fun wz hkz =>
      ⟨x, s7, HX.out, HK.out, rfl, HSI7.out.keep hkz (fun k e e2 => by have e3 : k = rs := e2; subst e3; exact none_some (HSW7.out.none hlr HCS.out) e), HST7.out.past hkz (fun k e => by have e3 : k = rs := e; have := HRS.out; omega), HA7.out, HYD.out ▸ HVE7.out⟩)
    have HM7 := Lib.hid (HSI7.out.wts _ HX7.out)
    have HR7 := Lib.hid (HSW7.out.kp.keep HR1.out (HUN.out rs (Nat.le_refl _)))
    go_wp2_with fail
    refine (sstart_any (Go1 x false (C n)) _ HM7.out _).mono ?_; rintro e w10 ⟨rfl, hk10⟩
    have hr10 := hk10.keep HR7.out (fun h => h)
    have r1 := cell_of hr10 0
    have r2 := cell_of hr10 1
    have r3 := cell_of hr10 2
    simp only [List.getElem?_toArray, List.getElem?_cons_zero, List.getElem?_cons_succ] at r1 r2 r3
    have e1 := frozen_of hr10 0
    have e2 := frozen_of hr10 1
    have e3 := frozen_of hr10 2
    have HFIN2 := Lib.hid (fun wz (h : Kp (· = rs) w10 wz) => HFIN.out wz ((hk10.mono (fun _ _ h => h.elim)).trans h))
    clear hk10 hr10
    go_wp2_with fail
    refine bodyPost_ret (v := .tuple #[.agg #[.int .i64 x.id, .int .i64 x.rc, .string x.dom], .bool true]) ?_ rfl (HFIN2.out _ ?_)
    · rw [results_cell_tmp rfl]
      go_simp
      exact ⟨rfl, rfl, rfl⟩
    · exact (by repeat (first | exact Kp.refl _ _ | apply Kp.drew | apply Kp.drewN | refine Kp.setCell ?_ _ _ (Or.inl rfl) | apply Kp.alloc))
  | false =>
    go_wp2_with fail
    refine (sgone_any p N s7 (Go1 x false (C n)) _ HSI7.out HX7.out HNI.out hN).mono ?_; rintro e w8 ⟨rfl, hxb, s8, g1, g2, g3, g4⟩
    have HFIN := Lib.hid (show ∀ wz, Kp (· = rs) w8 wz → ∃ x' s', x' ∈ s.Ws ∧ s.G[i]? = some (x'.id, x'.rc) ∧ (Ending.returned (.tuple #[.agg #[.int .i64 x.id, .int .i64 x.rc, .string x.dom], .bool true])) = .returned (.tuple #[.agg #[.int .i64 x'.id, .int .i64 x'.rc, .string x'.dom], .bool true]) ∧ SIn wz p s' N ∧ St w wz s s' ∧ ab s' = aEnd (ab s) i (wx x') false (C n) ∧ Ve now x'.dom good s s' from fun wz hkz =>
      ⟨x, s8, HX.out, HK.out, rfl, g1.keep hkz (fun k e e2 => by have e3 : k = rs := e2; subst e3; exact none_some ((HSW7.out.trans g2).none hlr HCS.out) e), (HST7.out.trans g2).past hkz (fun k e => by have e3 : k = rs := e; have := HRS.out; omega), by rw [g3, HA7.out]; rfl, HYD.out ▸ HVE7.out.then g4 (congrArg Ab.c (show ab s8 = { ab s8 with c := s7.c } by rw [g3]; unfold aGone; simp only; split <;> rfl))⟩)
    have HM7 := Lib.hid hxb
    have HR7 := Lib.hid ((HSW7.out.trans g2).kp.keep HR1.out (HUN.out rs (Nat.le_refl _)))
    clear g1 g2 g3 g4 hxb
    go_wp2_with fail
    refine (sstart_any (Go1 x false (C n)) _ HM7.out _).mono ?_; rintro e w10 ⟨rfl, hk10⟩
    have hr10 := hk10.keep HR7.out (fun h => h)
    have r1 := cell_of hr10 0
    have r2 := cell_of hr10 1
    have r3 := cell_of hr10 2
    simp only [List.getElem?_toArray, List.getElem?_cons_zero, List.getElem?_cons_succ] at r1 r2 r3
    have e1 := frozen_of hr10 0
    have e2 := frozen_of hr10 1
    have e3 := frozen_of hr10 2
    have HFIN2 := Lib.hid (fun wz (h : Kp (· = rs) w10 wz) => HFIN.out wz ((hk10.mono (fun _ _ h => h.elim)).trans h))
    clear hk10 hr10
    go_wp2_with fail
    refine bodyPost_ret (v := .tuple #[.agg #[.int .i64 x.id, .int .i64 x.rc, .string x.dom], .bool true]) ?_ rfl (HFIN2.out _ ?_)
    · rw [results_cell_tmp rfl]
      go_simp
      exact ⟨rfl, rfl, rfl⟩
    · exact (by repeat (first | exact Kp.refl _ _ | apply Kp.drew | apply Kp.drewN | refine Kp.setCell ?_ _ _ (Or.inl rfl) | apply Kp.alloc))
theorem send_any (p N : Nat) (s : Sd) (i : Int) (good stays : Bool) (n now : Int) (w : World) (h : SIn w p s N) (ht : Tik s now) (hn : 0 ≤ now) (hn2 : now ≤ 1099511627776) (hN : N ≤ 1000000) :
    Calls Try.prog 32 #[.pointer (some ⟨p, 0, none⟩), .int .i64 i, .bool good, .bool stays, .int .i64 n] w (Send p N s i good stays n now w) := by
  by_cases hi : i < 0 ∨ (s.G.length : Int) ≤ i
  · refine (send_no p N s i good stays n w h hi).mono ?_
    intro e w' hq
    exact ⟨fun _ => hq, fun h => by omega⟩
  · obtain ⟨k, rfl⟩ : ∃ k : Nat, i = (k : Int) := ⟨i.toNat, by omega⟩
    refine (send_yes p N s k good stays n now w h (by omega) ht hn hn2 hN).mono ?_
    intro e w' hq
    exact ⟨fun h => absurd h hi, fun _ => hq⟩
end Go.Proofs.Ytbiahndpfbmoeaa
