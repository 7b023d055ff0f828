/- DuePlays: whatever alarms are set, moved, dropped and told: the law returns true for every input. No condition. -/
import Derived.Test.YtjipppejcpokkaaDueAll
import Derived.Deep.RegionHeld3
namespace Go.Proofs.Ytjipppejcpokkaa
open Go.RowKit Go.Maps Go.ChangeShapes Go.WideShapes Go.Deep

theorem cells_dop : Try.prog.cellsOf 34 = 3 := by kernel_rfl
theorem cells_dint : Try.prog.cellsOf 3 = 1 := by kernel_rfl
def Dc (r : Int × Int × Int) : List Value := [.int .i64 r.1, .int .i64 r.2.1, .int .i64 r.2.2]
theorem open_dops {H : Type} {enc : TypeId × Value → H} {W : World} {base : Nat} {v : Value} {d : DataW H} {ps : List MemPlace} (k : Value.okWide Try.prog W .any base 22 v) (h : DataW.Trod enc Try.prog W 0 (fun _ => true) true 22 v d ps) :
    ∃ (ao : Option Addr) (n : Nat) (f : Nat → Int × Int × Int) (cap : Nat), v = .slice ao n cap ∧ cap ≤ 9223372036854775807 ∧ SRow W ao n 3 (fun i => Dc (f i)) ∧ ∀ i, i < n → (Lit.int .i64 (f i).2.1).wf = true := by
  obtain ⟨ao, len, cap, V, rfl, h1, h2, h3, h4⟩ := open_srow Try.underlying22 cells_dop (by omega) k h
  obtain ⟨f, hf⟩ := choose_lt (α := Int × Int × Int) (p := fun i r => V i = Dc r ∧ (Lit.int .i64 r.2.1).wf = true) (fun i hi => by
    obtain ⟨n, y, hy⟩ := h4 i hi
    obtain ⟨xs, n', rfl, _, hl, hxl, hx⟩ := DataW.trod_struct Try.underlying34 hy
    obtain ⟨hV, _⟩ := h3 i hi
    have e0 : DataW.trod enc Try.prog W 0 (fun _ => true) true n' 3 (((V i).drop 0).take (Try.prog.cellsOf 3)) = xs[0]? := hx 0 _ rfl
    have e1 : DataW.trod enc Try.prog W 0 (fun _ => true) true n' 3 (((V i).drop 1).take (Try.prog.cellsOf 3)) = xs[1]? := hx 1 _ rfl
    have e2 : DataW.trod enc Try.prog W 0 (fun _ => true) true n' 3 (((V i).drop 2).take (Try.prog.cellsOf 3)) = xs[2]? := hx 2 _ rfl
    rw [cells_dint] at e0 e1 e2
    match hVi : V i, hV with
    | [a, b, c], _ =>
      rw [hVi] at e0 e1 e2
      have l3 : xs.length = 3 := hxl
      rw [List.getElem?_eq_getElem (by omega)] at e0 e1 e2
      obtain ⟨x, hx0, _⟩ := DataW.trod_int Try.underlying3 e0
      obtain ⟨s, hx1, _, hwf⟩ := DataW.trod_int Try.underlying3 e1
      obtain ⟨z, hx2, _⟩ := DataW.trod_int Try.underlying3 e2
      simp at hx0 hx1 hx2
      exact ⟨(x, s, z), by rw [hx0, hx1, hx2]; rfl, hwf⟩)
  exact ⟨ao, len, f, cap, rfl, h1, h3.congr fun i hi => ((hf i hi).1).symm, fun i hi => (hf i hi).2⟩

/-- both, and a block that stays -/
structure DK (W w : World) (p q b : Nat) (o : Obj) (S T : List (Int × Int)) (N : Nat) (F : Nat → Prop) (u : Value) : Prop where
  f : DF W w p q S T N F u
  kb : w.heap[b]? = some o
  nb : ¬ F b
  nq : b ≠ q
theorem DK.left {W w w1 : World} {p q b : Nat} {o : Obj} {S S' T : List (Int × Int)} {N N' : Nat} {F F' : Nat → Prop} {u : Value} (h : DK W w p q b o S T N F u) (hd : DuAt w1 p S' N' F') (hn : New w F F') (hk : Kp F w w1) : DK W w1 p q b o S' T N' F' u :=
  ⟨h.f.left hd hn hk, hk.keep h.kb h.nb, fun e => by
    rcases hn b e with e | e
    · exact h.nb e
    · have := lt_of_block h.kb; omega, h.nq⟩
theorem DK.right {W w w1 : World} {p q b : Nat} {o : Obj} {S T T' : List (Int × Int)} {N : Nat} {F : Nat → Prop} {u u' : Value} (h : DK W w p q b o S T N F u) (hd : FdAt w1 q u' T') (hn : Rnew w u u') (hk : Kp (· = q) w w1) : DK W w1 p q b o S T' N F u' :=
  ⟨h.f.right hd hn hk, hk.keep h.kb h.nq, h.nb, h.nq⟩
theorem DK.calm {W w w1 : World} {p q b : Nat} {o : Obj} {S T : List (Int × Int)} {N : Nat} {F : Nat → Prop} {u : Value} (h : DK W w p q b o S T N F u) (hk : Kp (fun _ => False) w w1) : DK W w1 p q b o S T N F u :=
  ⟨h.f.calm hk, hk.keep h.kb (fun h => h), h.nb, h.nq⟩
theorem DF.block {W w : World} {p q : Nat} {S T : List (Int × Int)} {N : Nat} {F : Nat → Prop} {u : Value} (h : DF W w p q S T N F u) (cs : Array Value) (ty : TypeId) : DK W (w.alloc (.cells cs ty)) p q w.heap.size (.cells cs ty (0, 0)) S T N F u :=
  ⟨h.calm ((Kp.refl _ _).alloc _), heap_new _, fun e => by have := h.x.du.lt e; omega, fun e => by have := lt_of_block h.y.head; omega⟩
theorem pdrop_d {W w : World} {p q b : Nat} {o : Obj} {S T : List (Int × Int)} {N : Nat} {F : Nat → Prop} {u : Value} (id : Int) {bb : Bool} (hx : HasI id S = bb) (hwf : (Lit.int .i64 id).wf = true) (h : DK W w p q b o S T N F u) (hN : N ≤ 1000000) :
    Calls Try.prog 9 #[.pointer (some ⟨p, 0, none⟩), .int .i64 id] w fun e w' => e = .returned (.bool bb) ∧ ∃ F', DK W w' p q b o (Del id S) T N F' u := by
  cases bb with
  | true =>
    refine (ddrop_yes p N S F id w h.f.x.du hx hN).mono ?_
    rintro e w' ⟨rfl, ⟨F', h1, h2⟩, h3⟩
    exact ⟨rfl, F', h.left h1 h2 h3⟩
  | false =>
    refine (ddrop_no p N S F id w h.f.x.du hx hwf).mono ?_
    rintro e w' ⟨rfl, rfl⟩
    rw [Del_none (HasI_false.1 hx)]
    exact ⟨rfl, F, h⟩
theorem pdrop_f {W w : World} {p q b : Nat} {o : Obj} {S T : List (Int × Int)} {N : Nat} {F : Nat → Prop} {u : Value} (id : Int) {bb : Bool} (hx : HasI id T = bb) (h : DK W w p q b o S T N F u) (hp : T.Pairwise (fun a b => a.1 ≠ b.1)) (hL : T.length ≤ 1000000) :
    Calls Try.prog 10 #[.pointer (some ⟨q, 0, none⟩), .int .i64 id] w fun e w' => e = .returned (.bool bb) ∧ ∃ u', DK W w' p q b o S (Del id T) N F u' := by
  refine (rdrop_any q u T id w h.f.y hp hL).mono ?_
  rintro e w' ⟨rfl, ⟨u', h1, h2⟩, h3⟩
  rw [hx]
  exact ⟨rfl, u', h.right h1 h2 h3⟩
theorem dlen_as {w w1 : World} (p : Nat) (S : List (Int × Int)) (N : Nat) (F : Nat → Prop) (h : DuAt w p S N F) (hk : Kp (fun _ => False) w w1) : Calls Try.prog 14 #[.pointer (some ⟨p, 0, none⟩)] w1 fun e w' => e = .returned (.int .i64 S.length) ∧ w1 = w' :=
  dlen_any p S N F w1 (h.keep hk (fun _ _ h => h))

set_option maxRecDepth 100000 in
set_option maxHeartbeats 3200000 in
theorem duePlays_law {H : Type} {enc : TypeId × Value → H} (W : World) {base : Nat} (v0 : Value) (d0 : DataW H) (p0 : List MemPlace)
    (k0 : Value.okWide Try.prog W .any base 22 v0) (h0 : DataW.Trod enc Try.prog W 0 (fun _ => true) true 22 v0 d0 p0) :
    Calls Try.prog 3 #[v0] W fun e W' => e = .returned (.bool true) ∧ Below W.heap.size W W' := by
  obtain ⟨ao, n, f, cap, rfl, hcap, hrow, hwf⟩ := open_dops k0 h0
  clear h0 k0
  obtain ⟨F0, h00⟩ := DF.made W
  have HR := Lib.hid hrow; have HWF := Lib.hid hwf; have H00 := Lib.hid h00
  clear hrow hwf h00
  go_enter Try.func3, Try.ntmps3
  go_wp2_with fail
  go_loopg [5] n (fun k i wr => ∃ (j : Nat) (S : List (Int × Int)) (N : Nat) (F : Nat → Prop) (u : Value), k = n - j ∧ j ≤ n ∧ j ≤ 300 ∧ i = .int .i64 j ∧ N ≤ j ∧ DF W wr W.heap.size (W.heap.size + 1) S S N F u)
  case atStart => exact ⟨0, [], 0, F0, _, rfl, Nat.zero_le _, by omega, rfl, Nat.le_refl _, H00.out⟩
  case round =>
    obtain ⟨j, S, N, F, u, hk, hj, hj3, rfl, hN, hd⟩ := hrel
    have HKk := Lib.hid hk; have HD := Lib.hid hd; clear hk hd
    by_cases hlt : j < n ∧ j < 300
    · obtain ⟨hl1, hl2⟩ := hlt
      obtain ⟨bi, oi, rfl, hbi, hc⟩ := HR.out.get hl1
      obtain ⟨⟨k, id, t⟩, hr⟩ : ∃ r, r = f j := ⟨_, rfl⟩
      have hwj := HWF.out j hl1
      have hcj := fun z v (e : (Dc (f j))[z]? = some v) => (HD.out.x.kp.cell _ hbi (fun h => h)).trans (hc j hl1 z v e)
      rw [← hr] at hcj hwj
      have g0 := hcj 0 _ rfl
      rw [Nat.add_zero] at g0
      have g1 := hcj 1 _ rfl
      have g2 := hcj 2 _ rfl
      simp only at hwj g0 g1 g2
      have HWJ := Lib.hid hwj
      clear hc hcj hr hwj
      have q1 : (0 : Int) ≤ (j : Int) := by omega
      have q2 : (j : Int) < (n : Int) := by omega
      have hK0 := Lib.hid (HD.out.block #[.int .i64 k, .int .i64 id, .int .i64 t] 34)
      go_upto_block 2 with fail
      go_cut [7, 8, 9, 10] from 17 to 162 (fun s7 s8 s9 s10 wx => ∃ (S' : List (Int × Int)) (N' : Nat) (F' : Nat → Prop) (u' : Value), N' ≤ j + 1 ∧ DF W wx W.heap.size (W.heap.size + 1) S' S' N' F' u')
      case first =>
        have cb1 := cell_of (hK0.out).kb 1
        have cb2 := cell_of (hK0.out).kb 2
        simp only [List.getElem?_toArray, List.getElem?_cons_zero, List.getElem?_cons_succ] at cb1 cb2
        have hsl := HD.out.x.du.length
        by_cases hk1 : k = 1
        · subst hk1
          go_wp2_with fail
          refine (dset_any W.heap.size N S F id t _ hK0.out.f.x.du HWJ.out (by omega)).mono ?_; rintro e w1 ⟨rfl, ⟨F1, hd, hn⟩, hk⟩
          have HD1 := Lib.hid (hK0.out.left hd hn hk); clear hd hn hk
          clear cb1 cb2
          have cb1 := cell_of (HD1.out).kb 1
          have cb2 := cell_of (HD1.out).kb 2
          simp only [List.getElem?_toArray, List.getElem?_cons_zero, List.getElem?_cons_succ] at cb1 cb2
          go_wp2_with fail
          refine (rset_any (W.heap.size + 1) u S id t _ HD1.out.f.y HD.out.x.du.ids (by omega)).mono ?_; rintro e w2 ⟨rfl, ⟨u2, hd, hn⟩, hk⟩
          have HD2 := Lib.hid (HD1.out.right hd hn hk); clear hd hn hk
          go_wp2_with fail
          go_meet
          exact ⟨_, _, _, _, by omega, HD2.out.f⟩
        by_cases hk2 : k = 2
        · subst hk2
          have hids := Lib.hid HD.out.x.du.ids
          cases hx : HasI id S
          all_goals
            have HX := Lib.hid hx; clear hx
            have HJ0 := Lib.hid (hK0.out.calm ((Kp.refl _ _).drew))
            go_wp2_with fail
            go_region_held3 (fun w' => w'.cell? ⟨wr.heap.size, 1, none⟩ = some (.int .i64 id)) (first | exact cb1 | exact (cell_of HJd.kb 1).trans rfl | exact (cell_of HJf.kb 1).trans rfl) (first | (go_at_call 9; refine (pdrop_d id HX.out HWJ.out (by first | exact HJ0.out | exact HJf) (by omega)).mono ?_; rintro e wa ⟨rfl, Fa, HJd⟩) | (go_at_call 10; refine (pdrop_f id HX.out (by first | exact HJ0.out | exact HJd) hids.out (by omega)).mono ?_; rintro e wb ⟨rfl, ub, HJf⟩))
            all_goals
              go_wp2_with fail
              go_meet
              first | exact ⟨_, _, _, _, by omega, HJf.f⟩ | exact ⟨_, _, _, _, by omega, HJd.f⟩
        by_cases hk3 : k = 3
        · subst hk3
          obtain ⟨au, cu, rfl⟩ := hK0.out.f.y.row.slice
          rcases hS : S with _ | ⟨⟨s1, s2⟩, r⟩
          · have hK1 := hK0.out
            rw [hS] at hK1
            have HK1 := Lib.hid hK1; clear hK1 hS
            have c0 := cell_of HK1.out.f.y.head 0
            simp only [List.getElem?_toArray, List.getElem?_cons_zero] at c0
            go_wp2_with fail
            refine (dfirst_nil W.heap.size N F t _ HK1.out.f.x.du).mono ?_; rintro e w1 ⟨rfl, rfl⟩
            go_wp2_with fail
            go_quiet (fail)
            go_wp2_with fail
            go_meet
            exact ⟨[], _, _, _, by omega, (HK1.out.calm ((by repeat (first | exact Kp.refl _ _ | apply Kp.drew | apply Kp.drewN | refine Kp.setCell ?_ _ _ (Or.inl rfl) | apply Kp.alloc)))).f⟩
          · have hids := HD.out.x.du.ids
            have hdel := del_head (hS ▸ hids)
            have hget : S[0]? = some (s1, s2) := by rw [hS]; rfl
            have hlen : 0 < S.length := by rw [hS]; simp
            have HIDS := Lib.hid hids; have HDEL := Lib.hid hdel; have HGET := Lib.hid hget; have HS := Lib.hid hS
            have hdu := HS.out ▸ hK0.out.f.x.du
            have HDU := Lib.hid hdu
            clear hids hdel hget hS hdu
            have q3 : (0 : Int) < (S.length : Int) := by omega
            by_cases hle : s2 ≤ SatAid.C t
            · go_wp2_with fail
              refine (dfirst_due W.heap.size N (s1, s2) r F t _ HDU.out hle (by omega)).mono ?_; rintro e w1 ⟨rfl, ⟨F1, hd, hn⟩, hk⟩
              rw [HDEL.out] at hd
              have HK1 := Lib.hid (hK0.out.left hd hn hk); clear hd hn hk
              have c0 := cell_of HK1.out.f.y.head 0
              simp only [List.getElem?_toArray, List.getElem?_cons_zero] at c0
              rcases HK1.out.f.y.row.shape with ⟨_, h1, _⟩ | ⟨g', cap', he, hcap', hcm, hg'⟩
              · omega
              cases he
              have cj : w1.cell? ⟨g', 0, none⟩ = some (.int .i64 s1) := HK1.out.f.y.row.cell (j := 0) (Ap_get HGET.out).1
              have cj2 : w1.cell? ⟨g', 1, none⟩ = some (.int .i64 s2) := HK1.out.f.y.row.cell (j := 1) (Ap_get HGET.out).2
              clear cb1 cb2
              have cb1 := cell_of (HK1.out).kb 1
              have cb2 := cell_of (HK1.out).kb 2
              simp only [List.getElem?_toArray, List.getElem?_cons_zero, List.getElem?_cons_succ] at cb1 cb2
              go_wp2_with fail
              go_quiet (first | (go_at_call 12; exact Calls.quiet_of_same ((rclamp_any _ _).flip)))
              go_wp2_with fail
              refine (rdrop_any (W.heap.size + 1) _ S s1 _ (HK1.out.calm ((by repeat (first | exact Kp.refl _ _ | apply Kp.drew | apply Kp.drewN | refine Kp.setCell ?_ _ _ (Or.inl rfl) | apply Kp.alloc)))).f.y HIDS.out (by omega)).mono ?_; rintro e w2 ⟨rfl, ⟨u2, hd, hn⟩, hk⟩
              rw [HS.out, HDEL.out] at hd
              have HK2 := Lib.hid ((HK1.out.calm ((by repeat (first | exact Kp.refl _ _ | apply Kp.drew | apply Kp.drewN | refine Kp.setCell ?_ _ _ (Or.inl rfl) | apply Kp.alloc)))).right hd hn hk); clear hd hn hk
              go_wp2_with fail
              go_meet
              exact ⟨_, _, _, _, by omega, HK2.out.f⟩
            · go_wp2_with fail
              refine (dfirst_late W.heap.size N (s1, s2) r F t _ HDU.out (by simp only; omega)).mono ?_; rintro e w1 ⟨rfl, ⟨m1, rfl⟩⟩
              have HK1 := Lib.hid (hK0.out.calm ((Kp.refl _ _).drewN m1))
              obtain ⟨w1, hw1⟩ : ∃ w1, w1 = (wr.alloc (.cells #[.int .i64 3, .int .i64 id, .int .i64 t] 34)).drewN m1 := ⟨_, rfl⟩
              rw [← hw1] at HK1 ⊢
              clear hw1
              have c0 := cell_of HK1.out.f.y.head 0
              simp only [List.getElem?_toArray, List.getElem?_cons_zero] at c0
              rcases HK1.out.f.y.row.shape with ⟨_, h1, _⟩ | ⟨g', cap', he, hcap', hcm, hg'⟩
              · omega
              cases he
              have cj : w1.cell? ⟨g', 0, none⟩ = some (.int .i64 s1) := HK1.out.f.y.row.cell (j := 0) (Ap_get HGET.out).1
              have cj2 : w1.cell? ⟨g', 1, none⟩ = some (.int .i64 s2) := HK1.out.f.y.row.cell (j := 1) (Ap_get HGET.out).2
              clear cb1 cb2
              have cb1 := cell_of (HK1.out).kb 1
              have cb2 := cell_of (HK1.out).kb 2
              simp only [List.getElem?_toArray, List.getElem?_cons_zero, List.getElem?_cons_succ] at cb1 cb2
              go_wp2_with fail
              go_quiet (first | (go_at_call 12; exact Calls.quiet_of_same ((rclamp_any _ _).flip)))
              go_wp2_with fail
              go_meet
              exact ⟨S, _, _, _, by omega, (HK1.out.calm ((by repeat (first | exact Kp.refl _ _ | apply Kp.drew | apply Kp.drewN | refine Kp.setCell ?_ _ _ (Or.inl rfl) | apply Kp.alloc)))).f⟩
        · go_wp2_with fail
          go_meet
          exact ⟨S, N, F, u, by omega, hK0.out.f⟩
      case rest =>
        obtain ⟨S', N', F', u', hN', hd⟩ := hcut
        have HC := Lib.hid hd; clear hd
        obtain ⟨au, cu, rfl⟩ := HC.out.y.row.slice
        rcases hS : S' with _ | ⟨⟨s1, s2⟩, r⟩
        · have hC1 := HC.out
          rw [hS] at hC1
          have HC1 := Lib.hid hC1; clear hC1 hS
          have c0 := cell_of HC1.out.y.head 0
          simp only [List.getElem?_toArray, List.getElem?_cons_zero] at c0
          go_wp2_with fail
          refine (dnext_nil W.heap.size N' F' _ HC1.out.x.du).mono ?_; rintro e w1 ⟨rfl, rfl⟩
          go_wp2_with fail
          go_quiet (first | (go_at_call 14; exact Calls.quiet_of_same ((dlen_as W.heap.size [] N' F' HC1.out.x.du (by first | exact Kp.refl _ _ | exact (Kp.refl _ _).drew | exact (Kp.refl _ _).drewN _)).flip)))
          go_wp2_with fail
          go_roundg (n - (j + 1))
          case measure => rw [HKk.out]; omega
          case rel => exact ⟨j + 1, [], N', F', _, rfl, by omega, by omega, by go_num, hN', HC1.out.calm ((by repeat (first | exact Kp.refl _ _ | apply Kp.drew | apply Kp.drewN | refine Kp.setCell ?_ _ _ (Or.inl rfl) | apply Kp.alloc)))⟩
        · have hget : S'[0]? = some (s1, s2) := by rw [hS]; rfl
          have hlen : 0 < S'.length := by rw [hS]; simp
          have hdu := hS ▸ HC.out.x.du
          have HGET := Lib.hid hget; have HS := Lib.hid hS; have HDU := Lib.hid hdu
          clear hget hS hdu
          have q3 : (0 : Int) < (S'.length : Int) := by omega
          go_wp2_with fail
          refine (dnext_cons W.heap.size (s1, s2) r N' F' _ HDU.out).mono ?_; rintro e w1 ⟨rfl, ⟨m1, rfl⟩⟩
          have HC1 := Lib.hid (HC.out.calm ((Kp.refl _ _).drewN m1))
          obtain ⟨w1, hw1⟩ : ∃ w1, w1 = wc.drewN m1 := ⟨_, rfl⟩
          rw [← hw1] at HC1 ⊢
          clear hw1
          have c0 := cell_of HC1.out.y.head 0
          simp only [List.getElem?_toArray, List.getElem?_cons_zero] at c0
          rcases HC1.out.y.row.shape with ⟨_, h1, _⟩ | ⟨g', cap', he, hcap', hcm, hg'⟩
          · omega
          cases he
          have cj : w1.cell? ⟨g', 0, none⟩ = some (.int .i64 s1) := HC1.out.y.row.cell (j := 0) (Ap_get HGET.out).1
          have cj2 : w1.cell? ⟨g', 1, none⟩ = some (.int .i64 s2) := HC1.out.y.row.cell (j := 1) (Ap_get HGET.out).2
          go_wp2_with fail
          go_quiet (first | (go_at_call 14; exact Calls.quiet_of_same ((dlen_as W.heap.size S' N' F' HC1.out.x.du (by first | exact Kp.refl _ _ | exact (Kp.refl _ _).drew | exact (Kp.refl _ _).drewN _)).flip)))
          go_wp2_with fail
          go_roundg (n - (j + 1))
          case measure => rw [HKk.out]; omega
          case rel => exact ⟨j + 1, S', N', F', _, rfl, by omega, by omega, by go_num, hN', HC1.out.calm ((by repeat (first | exact Kp.refl _ _ | apply Kp.drew | apply Kp.drewN | refine Kp.setCell ?_ _ _ (Or.inl rfl) | apply Kp.alloc)))⟩
    · go_wp2_with fail
      all_goals
        refine (d20ans_any _).mono ?_; rintro e w5 ⟨rfl, hk5⟩
        have HE := Lib.hid (HD.out.calm hk5); clear hk5
        go_wp2_with fail
        go_ret
        exact ⟨rfl, HE.out.x.kp.below (fun _ _ h => h)⟩
end Go.Proofs.Ytjipppejcpokkaa
