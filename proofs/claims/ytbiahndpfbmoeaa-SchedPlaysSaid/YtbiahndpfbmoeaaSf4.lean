/- What the reference's gone and Drop do. Condition: there are no more recipients than fit into memory. -/
import Derived.Test.YtbiahndpfbmoeaaSf3
namespace Go.Proofs.Ytbiahndpfbmoeaa
open Go.RowKit SatAid

theorem dm_at {W : List Wx} (hn : (W.map fun z => (z.id, z.rc)).Nodup) {x : Wx} (hx : x ∈ W) : dmA W (x.id, x.rc) = x.dom := by
  unfold dmA
  cases hf : W.find? (fun z => decide ((z.id, z.rc) = (x.id, x.rc))) with
  | none =>
    rw [List.find?_eq_none] at hf
    exact absurd (by simp) (hf x hx)
  | some z =>
    have e := List.find?_some hf
    simp only [decide_eq_true_eq] at e
    rw [List.nodup_iff_pairwise_ne, List.pairwise_map] at hn
    rw [pw_eq hn (List.mem_of_find?_eq_some hf) hx e]
def Cutx {α : Type} (i : Nat) (l : List α) : List α := l.take i ++ l.drop (i + 1)
theorem Cutx_len {α : Type} {i : Nat} {l : List α} (hi : i < l.length) : (Cutx i l).length = l.length - 1 := by unfold Cutx; rw [List.length_append, List.length_take, List.length_drop]; omega
theorem Cutx_sub {α : Type} {i : Nat} {l : List α} {x : α} (h : x ∈ Cutx i l) : x ∈ l := by
  unfold Cutx at h
  rcases List.mem_append.1 h with h | h
  · exact List.mem_of_mem_take h
  · exact List.mem_of_mem_drop h
theorem cutx_filter {W : List Wt} (h : W.Pairwise (fun a b => (a.id, a.rc) ≠ (b.id, b.rc))) {i : Nat} {x : Wt} (hx : W[i]? = some x) : Cutx i W = W.filter fun z => !decide ((z.id, z.rc) = (x.id, x.rc)) := by
  induction W generalizing i with
  | nil => simp at hx
  | cons a r ih =>
    obtain ⟨h1, h2⟩ := List.pairwise_cons.1 h
    cases i with
    | zero =>
      simp at hx; subst hx
      rw [List.filter_cons_of_neg (by simp)]
      show [] ++ r = _
      rw [List.nil_append]
      exact (List.filter_eq_self.2 fun z hz => by simp only [Bool.not_eq_true', decide_eq_false_iff_not]; exact (h1 z hz).symm).symm
    | succ i =>
      have hx' : r[i]? = some x := by simpa using hx
      rw [List.filter_cons_of_pos (by simp only [Bool.not_eq_true', decide_eq_false_iff_not]; exact h1 x (List.mem_of_getElem? hx')), ← ih h2 hx']
      rfl
theorem take_src {w : World} {g n : Nat} {xs : List Value} (h : ∀ j u, xs[j]? = some u → w.cell? ⟨g, j, none⟩ = some u) : ∀ j u, (xs.take n)[j]? = some u → w.cell? ((⟨g, 0, none⟩ : Addr).add j) = some u := by
  intro j u hu
  rw [Addr.add_lit, Nat.zero_add]
  refine h j u ?_
  rw [List.getElem?_take] at hu
  split at hu
  · exact hu
  · cases hu
theorem drop_src {w : World} {g n : Nat} {xs : List Value} (h : ∀ j u, xs[j]? = some u → w.cell? ⟨g, j, none⟩ = some u) : ∀ j u, (xs.drop n)[j]? = some u → w.cell? ((⟨g, n, none⟩ : Addr).add j) = some u := by
  intro j u hu
  rw [Addr.add_lit]
  refine h _ u ?_
  rw [List.getElem?_drop] at hu
  exact hu
/-- one less, in a row of its own -/
theorem MIn.cutL {w w6 z : World} {q N i n9 : Nat} {s : Sd} {vl vp v9 : Value} {x : Wt} (h : MIn w q s vl vp N) (hS : Kp (fun _ => False) w z) (hx : s.Ws[i]? = some x) (hg : (x.id, x.rc) ∉ s.G) (hn : n9 = s.Ws.length - 1)
    (ho : z.ownsRow w.heap.size 62 7 v9 n9 (Wl (s.Ws.take i) ++ Wl (s.Ws.drop (i + 1)))) (hw : w6 = z.setCell ⟨q, 12, none⟩ v9) :
    MIn w6 q (fL s v9 (Cutx i s.Ws) s.D) v9 vp N ∧ St w w6 s (fL s v9 (Cutx i s.Ws) s.D) ∧ ab (fL s v9 (Cutx i s.Ws) s.D) = aDel (ab s) (x.id, x.rc) := by
  subst hw
  have hi := (List.getElem?_eq_some_iff.1 hx).1
  have hnew : ∀ k, v9.ownBlock = some k → w.heap.size ≤ k := fun k e => (World.ownsRow.lt ho k e).1
  have hq := lt_of_block h.head
  have hf := cutx_filter h.keys hx
  have hW : (Cutx i s.Ws).map wx = (aDel (ab s) (x.id, x.rc)).W := by
    rw [hf]
    unfold aDel ab
    simp only [List.filter_map]
    rfl
  have hin : ∀ k ∈ s.G, ∃ y ∈ Cutx i s.Ws, (y.id, y.rc) = k ∧ y.go = true := fun k hk => by
    obtain ⟨y, hy, e1, e2⟩ := h.gin k hk
    refine ⟨y, ?_, e1, e2⟩
    rw [hf]
    refine List.mem_filter.2 ⟨hy, ?_⟩
    simp only [Bool.not_eq_true', decide_eq_false_iff_not]
    intro e
    exact hg (e ▸ e1 ▸ hk)
  obtain ⟨r1, r2⟩ := h.setL (Ws' := Cutx i s.Ws) (D' := s.D) (Nat.le_refl N) ((hS.mono (fun _ _ h => h.elim)).setCell ⟨q, 12, none⟩ v9 (Or.inl (Or.inl rfl))) (heap_set (hS.keep h.head (fun h => h)) _) (by
      rw [Cutx_len hi, ← hn, show Wl (Cutx i s.Ws) = Wl (s.Ws.take i) ++ Wl (s.Ws.drop (i + 1)) from Wl_app _ _]
      exact Own.keep (own_weaken ho) ((Kp.refl (· = q) z).setCell ⟨q, 12, none⟩ _ (Or.inl rfl)) (fun k hk e => by have := hnew k hk; have e2 : k = q := e; omega)) (Or.inr hnew) (fun _ h => h) (fun y hy => h.wfs y (Cutx_sub hy)) (by rw [hf]; exact h.keys.filter _) hin (starts_same rfl (fun k hk => by
      obtain ⟨y, hy, e1, _⟩ := hin k hk
      have hd1 := dm_at (W := (Cutx i s.Ws).map wx) (x := wx y) (by
        rw [List.nodup_iff_pairwise_ne, List.pairwise_map, List.pairwise_map, hf]; exact h.keys.filter _) (List.mem_map.2 ⟨y, hy, rfl⟩)
      have hd2 := dm_at (W := s.Ws.map wx) (x := wx y) (by
        rw [List.nodup_iff_pairwise_ne, List.pairwise_map, List.pairwise_map]; exact h.keys) (List.mem_map.2 ⟨y, Cutx_sub hy, rfl⟩)
      subst e1
      exact hd1.trans hd2.symm)) (by rw [Cutx_len hi]; have := h.lw; omega) h.ld
  refine ⟨r1, r2, ?_⟩
  show ({ ab s with W := (Cutx i s.Ws).map wx } : Ab) = _
  rw [hW]
  rfl
def aRing (A : Ab) (x : Wx) : Ab := if aLast A x then { A with A0 := if x.loc then A.A0 else Pdrop x.snd A.A0, A1 := if x.loc then Pdrop x.snd A.A1 else A.A1 } else A
theorem aGone_ring (A : Ab) (x : Wx) : aGone A x = aRing (aDel A (x.id, x.rc)) x := rfl
def FGone (q N : Nat) (s : Sd) (vl vp : Value) (x : Wx) (w : World) (e : Ending) (w' : World) : Prop :=
  e = .returned (.tuple #[]) ∧ ∃ s', MIn w' q s' vl vp N ∧ St w w' s s' ∧ ab s' = aRing (ab s) x ∧ s'.Ps = s.Ps ∧ s'.Ws = s.Ws ∧ s'.D = s.D ∧ s'.c = s.c
set_option maxRecDepth 100000 in
set_option maxHeartbeats 3200000 in
theorem fgone_any (q N : Nat) (s : Sd) (vl vp : Value) (id rc nx : Int) (snd dom : ByteArray) (lb gb : Bool) (w : World) (h : MIn w q s vl vp N) (hN : N ≤ 1000000) :
    Calls Try.prog 51 #[.pointer (some ⟨q, 0, none⟩), .agg #[.int .i64 id, .int .i64 rc, .int .i64 nx, .string snd, .string dom, .bool lb, .bool gb]] w (FGone q N s vl vp ⟨id, rc, snd, dom, lb, gb, nx⟩ w) := by
  obtain ⟨ao, cap, rfl, _, _, _⟩ := lrow_own h.lst
  have hl : s.Ws.length ≤ 1000000 := Nat.le_trans h.lw hN
  have H := Lib.hid h
  have hqb0 := lt_of_block h.head
  clear h
  go_enter Try.func51, Try.ntmps51
  go_wp2_with fail
  have hb1 := heap_new (w := w) (.cells #[.int .i64 id, .int .i64 rc, .int .i64 nx, .string snd, .string dom, .bool lb, .bool gb] 62)
  have hk1 : Kp (fun _ => False) w (w.alloc (.cells #[.int .i64 id, .int .i64 rc, .int .i64 nx, .string snd, .string dom, .bool lb, .bool gb] 62)) := (by repeat (first | exact Kp.refl _ _ | apply Kp.drew | apply Kp.drewN | refine Kp.setCell ?_ _ _ (Or.inl rfl) | apply Kp.alloc))
  obtain ⟨w1, hw1⟩ : ∃ w1, w1 = w.alloc (.cells #[.int .i64 id, .int .i64 rc, .int .i64 nx, .string snd, .string dom, .bool lb, .bool gb] 62) := ⟨_, rfl⟩
  obtain ⟨b3, hb3⟩ : ∃ b3, b3 = w.heap.size := ⟨_, rfl⟩
  rw [← hw1] at hb1 hk1 ⊢
  rw [← hb3] at hb1 ⊢
  have hqb' : ¬ b3 = q := by omega
  have H1 := Lib.hid (H.out.calm hk1); have HB1 := Lib.hid hb1; have HK1 := Lib.hid hk1
  clear hw1 hb1 hk1 hb3
  go_loopg [4] s.Ws.length (fun k i wr => ∃ j : Nat, k = s.Ws.length - j ∧ j ≤ s.Ws.length ∧ i = .int .i64 j ∧ Kp (fun _ => False) w1 wr ∧ ∀ (t : Nat) (z : Wt), t < j → s.Ws[t]? = some z → ¬ (z.snd = snd ∧ z.loc = lb))
  case atStart => exact ⟨0, rfl, Nat.zero_le _, rfl, Kp.refl _ _, fun t z ht => absurd ht (Nat.not_lt_zero _)⟩
  case round =>
    obtain ⟨j, hk, hj, rfl, hkr, hno⟩ := hrel
    have HKk := Lib.hid hk; have HNO := Lib.hid hno; have HKR := Lib.hid hkr
    have H6 := Lib.hid (H1.out.calm hkr)
    have HST := Lib.hid (show St w wr s s from St.of (HK1.out.trans hkr) (fun _ _ h => h.elim) rfl)
    have hb6 := hkr.keep HB1.out (fun h => h)
    have b5 : wr.cell? ⟨b3, 5, none⟩ = some (.bool lb) := (cell_of hb6 5).trans rfl
    have b3s : wr.cell? ⟨b3, 3, none⟩ = some (.string snd) := (cell_of hb6 3).trans rfl
    have lb6 := lt_of_block hb6
    have c12 : wr.cell? ⟨q, 12, none⟩ = some (.slice ao s.Ws.length cap) := (cell_of H6.out.head 12).trans rfl
    clear hk hno hkr hb6
    by_cases hlt : j < s.Ws.length
    · obtain ⟨z, hz⟩ : ∃ z, s.Ws[j]? = some z := ⟨_, List.getElem?_eq_getElem hlt⟩
      obtain ⟨ao2, cap2, e2, hrow, _, _⟩ := lrow_own H6.out.lst
      simp only [Value.slice.injEq] at e2
      obtain ⟨rfl, _, rfl⟩ := e2
      obtain ⟨g, rfl, hg, _, _, _, z3, _, z5, _⟩ := hrow j z hz
      have HZ := Lib.hid hz
      obtain ⟨zs, hzs⟩ : ∃ t, t = z.snd := ⟨_, rfl⟩
      obtain ⟨zl, hzl⟩ : ∃ t, t = z.loc := ⟨_, rfl⟩
      rw [← hzs] at z3
      rw [← hzl] at z5
      have HZS := Lib.hid hzs; have HZL := Lib.hid hzl
      clear hz hrow hzs hzl
      have q1 : (0 : Int) ≤ (j : Int) := by omega
      have q2 : (j : Int) < (s.Ws.length : Int) := by omega
      have hwj : IntKind.i64.wrap ((j : Int) + 1) = ((j + 1 : Nat) : Int) := by rw [IntWalk.i64_in _ (by omega)]; omega
      by_cases e1 : zs = snd
      · subst e1
        by_cases e3 : zl = lb
        · subst e3
          have HR := Lib.hid (show FGone q N s (.slice (some ⟨g, 0, none⟩) s.Ws.length cap) vp ⟨id, rc, zs, dom, zl, gb, nx⟩ w (.returned (.tuple #[])) wr from ⟨rfl, s, H6.out, HST.out, by
            have h2 : aLast (ab s) ⟨id, rc, zs, dom, zl, gb, nx⟩ = false := last_any (s := s) (x := ⟨0, id, rc, zs, dom, zl, gb, nx⟩) ⟨z, List.mem_of_getElem? HZ.out, HZS.out.symm, HZL.out.symm⟩
            unfold aRing
            rw [if_neg (by rw [h2]; exact Bool.false_ne_true)], rfl, rfl, rfl, rfl⟩)
          have HRK := Lib.hid (fun n => show FGone q N s (.slice (some ⟨g, 0, none⟩) s.Ws.length cap) vp ⟨id, rc, zs, dom, zl, gb, nx⟩ w (.returned (.tuple #[])) (wr.drewN n) from by
            obtain ⟨r1, s', r2, r3, r4⟩ := HR.out
            exact ⟨r1, s', r2.calm ((Kp.refl _ _).drewN n), r3.calm ((Kp.refl _ _).drewN n), r4⟩)
          have bb : (zl == zl) = true := by cases zl <;> rfl
          go_wp2_with fail
          go_quiet (fail)
          go_wp2_with fail
          (first | go_end0 | refine bodyPost_ret (results_none rfl _ _ _) rfl ?_)
          exact HRK.out _
        · have HNEW := Lib.hid (show ∀ (t : Nat) (y : Wt), t < j + 1 → s.Ws[t]? = some y → ¬ (y.snd = zs ∧ y.loc = lb) from fun t y ht hy => by
            by_cases e : t = j
            · subst e
              rw [HZ.out] at hy; cases hy
              rintro ⟨_, e4⟩
              exact e3 (HZL.out.trans e4)
            · exact HNO.out t y (by omega) hy)
          have bb : (zl == lb) = false := by cases zl <;> cases lb <;> simp_all
          go_wp2_with fail
          go_quiet (fail)
          have HKQ := Lib.hid (HKR.out.drewN nq)
          go_wp2_with fail
          go_roundg (s.Ws.length - (j + 1))
          case measure => rw [HKk.out]; omega
          case rel => exact ⟨j + 1, rfl, by omega, rfl, HKQ.out, HNEW.out⟩
      · have HNEW := Lib.hid (show ∀ (t : Nat) (y : Wt), t < j + 1 → s.Ws[t]? = some y → ¬ (y.snd = snd ∧ y.loc = lb) from fun t y ht hy => by
            by_cases e : t = j
            · subst e
              rw [HZ.out] at hy; cases hy
              rintro ⟨e4, _⟩
              exact e1 (HZS.out.trans e4)
            · exact HNO.out t y (by omega) hy)
        have z1 := toList_ne e1
        have z2 : (zs.toList == snd.toList) = false := beq_eq_false_iff_ne.2 z1
        go_wp2_with fail
        go_quiet (fail)
        have HKQ := Lib.hid (HKR.out.drewN nq)
        go_wp2_with fail
        go_roundg (s.Ws.length - (j + 1))
        case measure => rw [HKk.out]; omega
        case rel => exact ⟨j + 1, rfl, by omega, rfl, HKQ.out, HNEW.out⟩
    · have HLAST := Lib.hid (show aLast (ab s) ⟨id, rc, snd, dom, lb, gb, nx⟩ = true from last_all (s := s) (x := ⟨0, id, rc, snd, dom, lb, gb, nx⟩) (fun z hz => by
        obtain ⟨t, ht⟩ := List.mem_iff_getElem?.1 hz
        exact HNO.out t z (by have := (List.getElem?_eq_some_iff.1 ht).1; omega) ht))
      obtain ⟨w6, hw6⟩ : ∃ w6, w6 = wr := ⟨_, rfl⟩
      subst hw6
      clear HNO HKR H H1
      cases lb with
      | false =>
        have HM7 := Lib.hid (H6.out.calm (Kp.refl (fun _ => False) w6).drew)
        have R0 : RfG w6.drew q 15 (Hm s (.slice ao s.Ws.length cap) vp) 56 s.v0 s.A0 := HM7.out.rfG false
        have HR0 := Lib.hid R0
        have HA := Lib.hid (show s.A0.Nodup ∧ s.A0.length ≤ N from ⟨H6.out.n0, H6.out.l0⟩)
        have hl0 : s.A0.length ≤ 1000000 := Nat.le_trans HA.out.2 hN
        clear R0
        by_cases hx : Has snd s.A0 = true
        · have HXX := Lib.hid hx
          clear hx
          go_wp2_with fail
          go_region_held3 (fun w' => w'.cell? ⟨b3, 5, none⟩ = some (.bool false) ∧ w'.cell? ⟨b3, 3, none⟩ = some (.string snd)) (first | exact ⟨b5, b3s⟩ | exact ⟨(HK8.out.cell 5 lb6 hqb').trans b5, (HK8.out.cell 3 lb6 hqb').trans b3s⟩)
            (first | (go_at_call 49; refine (fside_false _).mono ?_; rintro e w7 ⟨rfl, rfl⟩) | (go_at_call 17; refine (gdrop_any q 15 _ _ _ _ snd _ HR0.out HXX.out (by omega)).mono ?_; rintro e w8 ⟨rfl, ⟨v8, hr8, hn8⟩, hk8⟩; have HR8 := Lib.hid hr8; have HN8 := Lib.hid hn8; have HK8 := Lib.hid hk8; clear hr8 hn8 hk8))
          go_wp2_with fail
          (first | go_end0 | refine bodyPost_ret (results_none rfl _ _ _) rfl ?_)
          obtain ⟨h9, st9⟩ := HM7.out.ring false HR8.out HK8.out HN8.out (cut_nodup HA.out.1) (by have h1 := Cut_len (Has_ix HXX.out); have := HA.out.2; omega)
          refine ⟨rfl, _, h9, (HST.out.calm (Kp.refl (fun _ => False) w6).drew).trans st9, ?_, ?_⟩
          · have h1 := HXX.out; have h2 := HLAST.out
            unfold aRing
            rw [if_pos h2]
            unfold Pdrop ab fR
            simp [h1]
          · unfold fR; exact ⟨rfl, rfl, rfl, rfl⟩
        · have hx' : Has snd s.A0 = false := by simpa using hx
          have HXX := Lib.hid hx'
          clear hx hx'
          go_wp2_with fail
          go_region_held3 (fun w' => w'.cell? ⟨b3, 5, none⟩ = some (.bool false) ∧ w'.cell? ⟨b3, 3, none⟩ = some (.string snd)) (first | exact ⟨b5, b3s⟩)
            (first | (go_at_call 49; refine (fside_false _).mono ?_; rintro e w7 ⟨rfl, rfl⟩) | (go_at_call 17; refine (gdrop_no q 15 _ _ _ _ snd _ HR0.out HXX.out (by omega)).mono ?_; rintro e w8 ⟨rfl, rfl⟩))
          go_wp2_with fail
          (first | go_end0 | refine bodyPost_ret (results_none rfl _ _ _) rfl ?_)
          refine ⟨rfl, _, HM7.out, (HST.out.calm (Kp.refl (fun _ => False) w6).drew), ?_, rfl, rfl, rfl, rfl⟩
          have h1 := HXX.out; have h2 := HLAST.out
          unfold aRing
          rw [if_pos h2]
          unfold Pdrop ab
          simp [h1]
      | true =>
        have HM7 := Lib.hid (H6.out.calm (Kp.refl (fun _ => False) w6).drew)
        have R0 : RfG w6.drew q 16 (Hm s (.slice ao s.Ws.length cap) vp) 56 s.v1 s.A1 := HM7.out.rfG true
        have HR0 := Lib.hid R0
        have HA := Lib.hid (show s.A1.Nodup ∧ s.A1.length ≤ N from ⟨H6.out.n1, H6.out.l1⟩)
        have hl0 : s.A1.length ≤ 1000000 := Nat.le_trans HA.out.2 hN
        clear R0
        by_cases hx : Has snd s.A1 = true
        · have HXX := Lib.hid hx
          clear hx
          go_wp2_with fail
          go_region_held3 (fun w' => w'.cell? ⟨b3, 5, none⟩ = some (.bool true) ∧ w'.cell? ⟨b3, 3, none⟩ = some (.string snd)) (first | exact ⟨b5, b3s⟩ | exact ⟨(HK8.out.cell 5 lb6 hqb').trans b5, (HK8.out.cell 3 lb6 hqb').trans b3s⟩)
            (first | (go_at_call 49; refine (fside_true _).mono ?_; rintro e w7 ⟨rfl, rfl⟩) | (go_at_call 17; refine (gdrop_any q 16 _ _ _ _ snd _ HR0.out HXX.out (by omega)).mono ?_; rintro e w8 ⟨rfl, ⟨v8, hr8, hn8⟩, hk8⟩; have HR8 := Lib.hid hr8; have HN8 := Lib.hid hn8; have HK8 := Lib.hid hk8; clear hr8 hn8 hk8))
          go_wp2_with fail
          (first | go_end0 | refine bodyPost_ret (results_none rfl _ _ _) rfl ?_)
          obtain ⟨h9, st9⟩ := HM7.out.ring true HR8.out HK8.out HN8.out (cut_nodup HA.out.1) (by have h1 := Cut_len (Has_ix HXX.out); have := HA.out.2; omega)
          refine ⟨rfl, _, h9, (HST.out.calm (Kp.refl (fun _ => False) w6).drew).trans st9, ?_, ?_⟩
          · have h1 := HXX.out; have h2 := HLAST.out
            unfold aRing
            rw [if_pos h2]
            unfold Pdrop ab fR
            simp [h1]
          · unfold fR; exact ⟨rfl, rfl, rfl, rfl⟩
        · have hx' : Has snd s.A1 = false := by simpa using hx
          have HXX := Lib.hid hx'
          clear hx hx'
          go_wp2_with fail
          go_region_held3 (fun w' => w'.cell? ⟨b3, 5, none⟩ = some (.bool true) ∧ w'.cell? ⟨b3, 3, none⟩ = some (.string snd)) (first | exact ⟨b5, b3s⟩)
            (first | (go_at_call 49; refine (fside_true _).mono ?_; rintro e w7 ⟨rfl, rfl⟩) | (go_at_call 17; refine (gdrop_no q 16 _ _ _ _ snd _ HR0.out HXX.out (by omega)).mono ?_; rintro e w8 ⟨rfl, rfl⟩))
          go_wp2_with fail
          (first | go_end0 | refine bodyPost_ret (results_none rfl _ _ _) rfl ?_)
          refine ⟨rfl, _, HM7.out, (HST.out.calm (Kp.refl (fun _ => False) w6).drew), ?_, rfl, rfl, rfl, rfl⟩
          have h1 := HXX.out; have h2 := HLAST.out
          unfold aRing
          rw [if_pos h2]
          unfold Pdrop ab
          simp [h1]
end Go.Proofs.Ytbiahndpfbmoeaa
