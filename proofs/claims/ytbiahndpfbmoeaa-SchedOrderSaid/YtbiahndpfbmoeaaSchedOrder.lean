/- SchedOrder: the law returns true for every input. No condition. -/
import Derived.Test.YtbiahndpfbmoeaaSd24
import Derived.ProofKit
namespace Go.Proofs.Ytbiahndpfbmoeaa
open Go.RowKit Go.ChangeShapes Go.WideShapes SatAid

def oS : ByteArray := ⟨#[115]⟩
def oD : ByteArray := ⟨#[100]⟩
def oC (lv : Value) (L : List ByteArray) : Cf := ⟨⟨#[]⟩, lv, L, 0, 1, 100, 100, 0, 0, 0, 0, 0, 0⟩
theorem cells_ou8 : Try.prog.cellsOf 5 = 1 := by kernel_rfl
/-- what the domain has left -/
structure OV (s : Sd) (T : Int) : Prop where
  tik : Tik s 0
  b : vB s oD = 0
  n : vN s oD = 1
  t : vT s 0 oD = T
theorem OV.new {s : Sd} (hp : s.Ps = []) (hb : s.c.burst = 100) : OV s 100 := by
  have h1 : fp s.Ps oD = none := by rw [hp]; rfl
  refine ⟨tik_new hp 0, ?_, ?_, ?_⟩
  · unfold vB; rw [h1]
  · unfold vN; rw [h1]
  · unfold vT; rw [h1, hb]; rfl
theorem OV.fr {s : Sd} {T : Int} (h : OV s T) (hT : 0 < T) : fr s 0 oD = true := by
  unfold Go.Proofs.Ytbiahndpfbmoeaa.fr
  rw [h.b, h.n, h.t]
  simp [hT]
theorem OV.step {s s1 s2 : Sd} {T : Int} (h : OV s T) (hT : 1 ≤ T) (hT2 : T ≤ 100) (hb : Vb 0 oD s s1) (he : Ve 0 oD true s1 s2) (hw : s1.c.win = 1) (hr : s.c.rate = 100) (hu : s.c.burst = 100) : OV s2 (T - 1) := by
  have e1 : vN s1 oD = 1 := (hb.n _).trans h.n
  have e2 : vB s1 oD = 1 := by rw [hb.b, if_pos rfl, h.b]; rfl
  refine ⟨he.le, ?_, ?_, ?_⟩
  · rw [he.b, if_pos rfl, e2]; rfl
  · rw [he.n, if_pos rfl, e1, e2, hw]; rfl
  · rw [he.t 0 _ (Int.le_refl _) (by decide), hb.t 0 _ (Int.le_refl _) (by decide), if_pos rfl, h.t, hr, hu]
    have e3 := Lf_eq (r := V 100) (u := V 100) (l := T - 1) (t := 0) (n := 0) (V_lo _) (V_hi _) (V_lo _) (V_hi _) (by omega) (by have : V 100 = 100 := rfl; omega) (by decide) (by decide)
    rw [e3]
    have : V 100 = 100 := rfl
    have c0 : C 0 = 0 := rfl
    rw [this, c0]
    omega
theorem srd_one (w : World) (o : Obj) : SRd ((w.alloc o).alloc (.cells #[.string oD] 9)) (some ⟨w.heap.size + 1, 0, none⟩) [oD] := by
  intro i hi
  refine ⟨w.heap.size + 1, 0, rfl, by simp, ?_⟩
  rw [cell_of (heap_new2 _ _)]
  match i, hi with
  | 0, _ => rfl
def CC (s : Sd) (loc : Bool) : Prop := (ab s).c.win = 1 ∧ (ab s).c.rate = 100 ∧ (ab s).c.burst = 100 ∧ Has oD (ab s).c.L = loc
set_option maxRecDepth 100000 in
set_option maxHeartbeats 3200000 in
theorem schedOrder_law {H : Type} {enc : TypeId × Value → H} (W : World) {base : Nat} (v0 v1 : Value) (d0 d1 : DataW H) (p0 p1 : List MemPlace)
    (k0 : Value.okWide Try.prog W .any base 79 v0) (k1 : Value.okWide Try.prog W .any base 4 v1)
    (h0 : DataW.Trod enc Try.prog W 0 (fun _ => true) true 79 v0 d0 p0) (h1 : DataW.Trod enc Try.prog W 0 (fun _ => true) true 4 v1 d1 p1) :
    Calls Try.prog 11 #[v0, v1] W fun e W' => e = .returned (.bool true) ∧ Below W.heap.size W W' := by
  obtain ⟨ao, m, cap, f, rfl, hcap, hmc, hrow, hwf⟩ := open_introw Try.underlying79 cells_ou8 Try.underlying5 k0 h0
  obtain ⟨local', rfl⟩ := okWide_bool Try.underlying4 k1
  have HROW := Lib.hid hrow; have HWF := Lib.hid hwf
  clear h0 k0 h1 k1 hrow hwf
  cases local' with
  | false =>
    go_enter Try.func11, Try.ntmps11
    go_wp2_with fail
    refine (newA (oC (.slice none 0 0) []) none 0 W _ (by repeat (first | exact Kp.refl _ _ | apply Kp.drew | apply Kp.drewN | refine Kp.setCell ?_ _ _ (Or.inl rfl) | apply Kp.alloc)) rfl (fun i hi => absurd hi (Nat.not_lt_zero _)) (by decide) (fun _ => rfl)).mono ?_; rintro e w0 ⟨p, s0, rfl, hsi0, hA0, hP0⟩
    have HSI0 := Lib.hid hsi0; have HP0 := Lib.hid hP0
    have HOA0 := Lib.hid (show OA (ab s0) false oS oD from by rw [hA0]; exact ⟨fun x hx => (by cases hx), List.nodup_nil, rfl, rfl⟩)
    have HW0 := Lib.hid (show (ab s0).W = [] from by rw [hA0])
    have HC0 := Lib.hid (show CC s0 false from by unfold CC; rw [hA0]; exact ⟨rfl, rfl, rfl, has_nil _⟩)
    clear hsi0 hA0 hP0
    go_wp2_with fail
    go_loopg [7, 8] m (fun k n i wr => ∃ (j N : Nat) (s : Sd), k = m - j ∧ j ≤ m ∧ j ≤ 60 ∧ i = .int .i64 j ∧ n = .int .i64 (ab s).W.length ∧ (ab s).W.length ≤ j ∧ N ≤ 1 + j ∧ SI W wr p s N ∧ OA (ab s) false oS oD ∧ s.Ps = [] ∧ CC s false)
    case atStart => exact ⟨0, _, s0, rfl, by omega, by omega, rfl, by rw [HW0.out]; rfl, by rw [HW0.out]; exact Nat.le_refl _, (by first | decide | exact Nat.le_refl 1), HSI0.out, HOA0.out, HP0.out, HC0.out⟩
    case round =>
      obtain ⟨j, N, s, hk, hj, hj60, rfl, rfl, hWj, hN, hsi, hoa, hps, hcc⟩ := hrel
      have HKk := Lib.hid hk; have HSI := Lib.hid hsi; have HOA := Lib.hid hoa; have HPS := Lib.hid hps; have HCC := Lib.hid hcc
      have HWJ := Lib.hid hWj
      clear hk hsi hoa hps hcc hWj
      obtain ⟨nn, hnn⟩ : ∃ nn, nn = (ab s).W.length := ⟨_, rfl⟩
      rw [← hnn] at HWJ ⊢
      have HNN := Lib.hid hnn; clear hnn
      by_cases hlt : (j : Int) < (m : Int)
      · by_cases h60 : (j : Int) < 60
        · obtain ⟨b, off, rfl, hb, hrow0⟩ := HROW.out.get (i := j) (by omega)
          obtain ⟨n, hn⟩ : ∃ n, n = f j := ⟨_, rfl⟩
          have c0 : wr.cell? ⟨b, off + j, none⟩ = some (.int .u8 n) := (HSI.out.kp.cell (off + j) hb (fun h => h)).trans (by rw [hn]; exact hrow0 j (by omega))
          have lb := Nat.lt_of_lt_of_le hb HSI.out.kp.size
          obtain ⟨n0, n1⟩ := bounds_u8 (HWF.out j (by omega))
          rw [← hn] at n0 n1
          clear hn hrow0
          obtain ⟨q, hq⟩ : ∃ q, q = Int.tdiv n 4 := ⟨_, rfl⟩
          obtain ⟨r, hr⟩ : ∃ r, r = Int.tmod n 4 := ⟨_, rfl⟩
          have q1 : q = n / 4 := by rw [hq, Int.tdiv_eq_ediv_of_nonneg (by omega)]
          have r1 : r = n % 4 := by rw [hr, Int.tmod_eq_emod_of_nonneg (by omega)]
          have w1 : IntKind.u8.wrap q = q := IntWalk.u8_in _ (by omega)
          have w2 : IntKind.i64.wrap q = q := IntWalk.i64_in _ (by omega)
          have w3 : IntKind.u8.wrap r = r := IntWalk.u8_in _ (by omega)
          have w4 : IntKind.i64.wrap r = r := IntWalk.i64_in _ (by omega)
          have QB := Lib.hid (show 0 ≤ q ∧ q ≤ 63 ∧ 0 ≤ r ∧ r ≤ 3 from by omega)
          have wj : IntKind.i64.wrap ((j : Int) + 1) = ((j + 1 : Nat) : Int) := by rw [IntWalk.i64_in _ (by omega)]; omega
          have wn : IntKind.i64.wrap ((nn : Int) + 1) = ((nn + 1 : Nat) : Int) := by rw [IntWalk.i64_in _ (by have := HWJ.out; omega)]; omega
          have q2 : (0 : Int) ≤ (j : Int) := by omega
          clear q1 r1
          have hq' := hq.symm; have hr' := hr.symm
          clear hq hr
          go_wp2_with fail
          have cW : W.cell? ⟨b, off + j, none⟩ = some (.int .u8 n) := (HSI.out.kp.cell (off + j) hb (fun h => h)).symm.trans c0
          by_cases hin : ∃ z ∈ (ab s).W, (z.id, z.rc) = (q, r)
          · go_region_held3 (fun w' => w'.cell? ⟨b, off + j, none⟩ = some (.int .u8 n)) (first | exact c0 | exact (hsi2.kp.cell (off + j) hb (fun h => h)).trans cW)
              (first | (go_at_call 25; refine ((putA q r 0 oS oD (HSI.out.calm (Kp.refl (fun _ => False) wr).drew) (WalkArith.wf_i64 (by have := QB.out; omega)) (WalkArith.wf_i64 (by have := QB.out; omega)) (by decide) (by omega)).mono (fun e w h => h.1 hin)).mono ?_; rintro e w2 ⟨rfl, hsi2, _⟩))
            have HSI2 := Lib.hid hsi2
            clear hsi2 c0
            go_wp2_with fail
            go_roundg (m - (j + 1))
            case measure => have := HKk.out; omega
            case rel => exact ⟨j + 1, N, s, rfl, by omega, by omega, rfl, by rw [HNN.out], by have := HWJ.out; have := HNN.out; omega, by omega, HSI2.out, HOA.out, HPS.out, HCC.out⟩
          · go_region_held3 (fun w' => w'.cell? ⟨b, off + j, none⟩ = some (.int .u8 n)) (first | exact c0 | exact (hsi2.kp.cell (off + j) hb (fun h => h)).trans cW)
              (first | (go_at_call 25; refine ((putA q r 0 oS oD (HSI.out.calm (Kp.refl (fun _ => False) wr).drew) (WalkArith.wf_i64 (by have := QB.out; omega)) (WalkArith.wf_i64 (by have := QB.out; omega)) (by decide) (by omega)).mono (fun e w h => h.2 hin)).mono ?_; rintro e w2 ⟨rfl, s2, hsi2, _, hA2, hP2⟩))
            have hA2' : ab s2 = aPut (ab s) ⟨q, r, oS, oD, false, false, 0⟩ := by rw [hA2, show Has oD s.c.L = false from HCC.out.2.2.2]; rfl
            have HSI2 := Lib.hid hsi2
            have HOA2 := Lib.hid (show OA (ab s2) false oS oD from by rw [hA2']; exact HOA.out.put hin QB.out)
            have HP2 := Lib.hid (hP2.trans HPS.out)
            have HL2 := Lib.hid (show (ab s2).W.length = nn + 1 from by rw [hA2']; show ((ab s).W ++ [_]).length = _; rw [List.length_append, HNN.out]; rfl)
            have HCC2 := Lib.hid (show CC s2 false from by unfold CC; rw [hA2']; exact HCC.out)
            clear hsi2 hA2 hA2' hP2 c0
            go_wp2_with fail
            go_roundg (m - (j + 1))
            case measure => have := HKk.out; omega
            case rel => exact ⟨j + 1, N + 1, s2, rfl, by omega, by omega, rfl, by rw [HL2.out]; rfl, by have := HWJ.out; have := HL2.out; omega, by omega, HSI2.out, HOA2.out, HP2.out, HCC2.out⟩
        · skip
          have hn60 : nn ≤ 60 := by have := HWJ.out; omega
          go_wp2_with fail
          go_loopg [9, 10, 11, 12] nn (fun k l i _ _ wr => ∃ (t : Nat) (last : Int) (s2 : Sd), k = nn - t ∧ t ≤ nn ∧ i = .int .i64 t ∧ l = .int .i64 last ∧ SI W wr p s2 N ∧ OA (ab s2) false oS oD ∧ CC s2 false ∧ OV s2 (100 - t) ∧ (ab s2).W.length + t = nn ∧ (∀ z ∈ (ab s2).W, last < z.id * 4 + z.rc))
          case atStart => exact ⟨0, -1, s, rfl, by omega, rfl, rfl, HSI.out, HOA.out, HCC.out, OV.new HPS.out HCC.out.2.2.1, HNN.out.symm, fun z hz => by have := HOA.out.w z hz; omega⟩
          case round =>
            obtain ⟨t, last, s2, hk, ht, rfl, rfl, hsi2, hoa2, hcc2, hov2, hlen2, hgt2⟩ := hrel
            have HK2 := Lib.hid hk; have HSI2 := Lib.hid hsi2; have HOA2 := Lib.hid hoa2; have HCC2 := Lib.hid hcc2; have HOV2 := Lib.hid hov2; have HLEN2 := Lib.hid hlen2; have HGT2 := Lib.hid hgt2
            clear hk hsi2 hoa2 hcc2 hov2 hlen2 hgt2
            by_cases hlt2 : (t : Int) < (nn : Int)
            · go_wp2_with fail
              refine (pickA (n := 0) (now := 0) HSI2.out HOA2.out.inv HOV2.out.tik rfl (by omega)).mono ?_; rintro e w3 ⟨_, hq⟩
              obtain ⟨x, s3, hb, hi, rfl, hsi3, _, hA3, hvb, _⟩ := hq (HOA2.out.any (HOV2.out.fr (by omega)) (fun e => by have h1 := HLEN2.out; rw [e] at h1; have : (0 : Nat) + t = nn := h1; omega))
              have hxw := HOA2.out.w x hb.mem
              have hxl := HGT2.out x hb.mem
              have hxd := hxw.2.1
              have HB := Lib.hid hb; have HI := Lib.hid hi; have HSI3 := Lib.hid hsi3; have HA3 := Lib.hid hA3; have HVB := Lib.hid (hxd ▸ hvb); have HXW := Lib.hid hxw
              have HXD := Lib.hid hxd
              obtain ⟨X, hX⟩ : ∃ X, X = x.id * 4 + x.rc := ⟨_, rfl⟩
              have e1 : IntKind.i64.wrap (x.id * 4) = x.id * 4 := IntWalk.i64_in _ (by omega)
              have e2 : IntKind.i64.wrap (x.id * 4 + x.rc) = X := by rw [hX]; exact IntWalk.i64_in _ (by omega)
              have e3 : ¬ X ≤ last := by omega
              have HX := Lib.hid hX
              clear hq hb hi hsi3 hA3 hvb hxw hxl hxd hX
              have hk4 : Kp (fun _ => False) w3 (w3.alloc (.cells #[.int .i64 x.id, .int .i64 x.rc, .string x.dom] 66)) := (by repeat (first | exact Kp.refl _ _ | apply Kp.drew | apply Kp.drewN | refine Kp.setCell ?_ _ _ (Or.inl rfl) | apply Kp.alloc))
              go_wp2_with fail
              refine (endA (i := 0) (n := 0) (now := 0) (good := true) (stays := false) (HSI3.out.calm hk4) HVB.out.le (by decide) (by decide) (by omega)).mono ?_; rintro e w5 ⟨_, hq⟩
              have hG : (ab s3).G = [(x.id, x.rc)] := by rw [HA3.out, aBegin_G, HOA2.out.g]; rfl
              obtain ⟨y, s5, hy, hgy, rfl, hsi5, _, hA5, hve⟩ := hq (by rw [hG]; exact ⟨Int.le_refl _, (by decide : (0 : Int) < 1)⟩)
              have hyk : (y.id, y.rc) = (x.id, x.rc) := by rw [hG] at hgy; exact (Option.some.inj hgy).symm
              rw [HA3.out] at hA5 hy
              obtain ⟨o1, o2, o3, o4⟩ := HOA2.out.step HB.out HI.out hy hyk (show (Int.toNat 0) = 0 from rfl)
              have hA5' : ab s5 = aEnd (aBegin (ab s2) (LcA (ab s2) (fr s2 0) 0) (FiA (ab s2) (fr s2 0) 0) (x.id, x.rc)) (Int.toNat 0) y false 0 := hA5
              rw [← hA5'] at o1 o2 o4
              have HSI5 := Lib.hid hsi5; have HOA5 := Lib.hid o1; have HL5 := Lib.hid o2; have HG5 := Lib.hid o4
              have hc3 : (ab s3).c = (ab s2).c := by rw [HA3.out, aBegin_c]
              have hc5 : (ab s5).c = (ab s2).c := by rw [hA5', aEnd_c, aBegin_c]
              have HCC5 := Lib.hid (show CC s5 false from by unfold CC; rw [hc5]; exact HCC2.out)
              have HOV5 := Lib.hid (HOV2.out.step (by omega) (by omega) HVB.out (o3 ▸ hve) (show (ab s3).c.win = 1 from by rw [hc3]; exact HCC2.out.1) HCC2.out.2.1 HCC2.out.2.2.1)
              have wt : IntKind.i64.wrap ((t : Int) + 1) = ((t + 1 : Nat) : Int) := by rw [IntWalk.i64_in _ (by omega)]; omega
              clear hq hG hy hgy hsi5 hA5 hve hyk o1 o2 o3 o4 hA5' hc3 hc5 e1 e2 e3 hk4
              go_wp2_with fail
              go_roundg (nn - (t + 1))
              case measure => have := HK2.out; omega
              case rel => exact ⟨t + 1, X, s5, rfl, by omega, rfl, rfl, HSI5.out, HOA5.out, HCC5.out, by have := HOV5.out; rw [show ((100 : Int) - ((t + 1 : Nat) : Int)) = 100 - t - 1 from by omega]; exact this, by have := HL5.out; have := HLEN2.out; omega, by rw [HX.out]; exact HG5.out⟩
            · have hW0 : (ab s2).W = [] := List.length_eq_zero_iff.1 (by have := HLEN2.out; omega)
              have HW2 := Lib.hid hW0
              go_wp2_with fail
              refine (pickA (n := 0) (now := 0) HSI2.out HOA2.out.inv HOV2.out.tik rfl (by omega)).mono ?_; rintro e w3 ⟨hq, _⟩
              obtain ⟨rfl, s3, hsi3, _, hA3, _, _⟩ := hq (by rintro ⟨z, hz, _⟩; rw [hW0] at hz; cases hz)
              have HSI3 := Lib.hid (hsi3.calm (w' := w3.alloc (.cells #[.int .i64 0, .int .i64 0, .string ByteArray.empty] 66)) (by repeat (first | exact Kp.refl _ _ | apply Kp.drew | apply Kp.drewN | refine Kp.setCell ?_ _ _ (Or.inl rfl) | apply Kp.alloc)))
              have hR : rgB (ab s3) false = [] := by rw [hA3, HOA2.out.r, if_pos hW0]
              have hL3 : (ab s3).W.length = 0 := by rw [hA3, hW0]; rfl
              have HR := Lib.hid hR; have HL3 := Lib.hid hL3
              clear hq hsi3 hA3 hW0 hR hL3
              unfold z3
              go_wp2_with fail
              refine (r22ans_any _).mono ?_; rintro e w6 ⟨rfl, hk6⟩
              have HSI6 := Lib.hid (HSI3.out.calm hk6)
              clear hk6
              go_wp2_with fail
              refine (slen_any p N s3 _ HSI6.out.si).mono ?_; rintro e w7 ⟨rfl, rfl⟩
              rw [HL3.out]
              go_wp2_with fail
              refine (ssenders_any p N s3 false _ HSI6.out.si (by omega)).mono ?_; rintro e w8 ⟨v8, rfl, ho8, hk8⟩
              have hl8 : (if false then s3.A1 else s3.A0).length = 0 := congrArg List.length HR.out
              rw [hl8] at ho8
              obtain ⟨a8, c8, rfl⟩ := (own_weaken ho8).slice
              have HKE := Lib.hid (HSI6.out.kp.trans hk8)
              clear ho8 hk8 hl8
              go_wp2_with fail
              go_ret
              exact ⟨rfl, HKE.out.below (fun _ _ h => h)⟩
      · skip
        have hn60 : nn ≤ 60 := by have := HWJ.out; omega
        go_wp2_with fail
        go_loopg [9, 10, 11, 12] nn (fun k l i _ _ wr => ∃ (t : Nat) (last : Int) (s2 : Sd), k = nn - t ∧ t ≤ nn ∧ i = .int .i64 t ∧ l = .int .i64 last ∧ SI W wr p s2 N ∧ OA (ab s2) false oS oD ∧ CC s2 false ∧ OV s2 (100 - t) ∧ (ab s2).W.length + t = nn ∧ (∀ z ∈ (ab s2).W, last < z.id * 4 + z.rc))
        case atStart => exact ⟨0, -1, s, rfl, by omega, rfl, rfl, HSI.out, HOA.out, HCC.out, OV.new HPS.out HCC.out.2.2.1, HNN.out.symm, fun z hz => by have := HOA.out.w z hz; omega⟩
        case round =>
          obtain ⟨t, last, s2, hk, ht, rfl, rfl, hsi2, hoa2, hcc2, hov2, hlen2, hgt2⟩ := hrel
          have HK2 := Lib.hid hk; have HSI2 := Lib.hid hsi2; have HOA2 := Lib.hid hoa2; have HCC2 := Lib.hid hcc2; have HOV2 := Lib.hid hov2; have HLEN2 := Lib.hid hlen2; have HGT2 := Lib.hid hgt2
          clear hk hsi2 hoa2 hcc2 hov2 hlen2 hgt2
          by_cases hlt2 : (t : Int) < (nn : Int)
          · go_wp2_with fail
            refine (pickA (n := 0) (now := 0) HSI2.out HOA2.out.inv HOV2.out.tik rfl (by omega)).mono ?_; rintro e w3 ⟨_, hq⟩
            obtain ⟨x, s3, hb, hi, rfl, hsi3, _, hA3, hvb, _⟩ := hq (HOA2.out.any (HOV2.out.fr (by omega)) (fun e => by have h1 := HLEN2.out; rw [e] at h1; have : (0 : Nat) + t = nn := h1; omega))
            have hxw := HOA2.out.w x hb.mem
            have hxl := HGT2.out x hb.mem
            have hxd := hxw.2.1
            have HB := Lib.hid hb; have HI := Lib.hid hi; have HSI3 := Lib.hid hsi3; have HA3 := Lib.hid hA3; have HVB := Lib.hid (hxd ▸ hvb); have HXW := Lib.hid hxw
            have HXD := Lib.hid hxd
            obtain ⟨X, hX⟩ : ∃ X, X = x.id * 4 + x.rc := ⟨_, rfl⟩
            have e1 : IntKind.i64.wrap (x.id * 4) = x.id * 4 := IntWalk.i64_in _ (by omega)
            have e2 : IntKind.i64.wrap (x.id * 4 + x.rc) = X := by rw [hX]; exact IntWalk.i64_in _ (by omega)
            have e3 : ¬ X ≤ last := by omega
            have HX := Lib.hid hX
            clear hq hb hi hsi3 hA3 hvb hxw hxl hxd hX
            have hk4 : Kp (fun _ => False) w3 (w3.alloc (.cells #[.int .i64 x.id, .int .i64 x.rc, .string x.dom] 66)) := (by repeat (first | exact Kp.refl _ _ | apply Kp.drew | apply Kp.drewN | refine Kp.setCell ?_ _ _ (Or.inl rfl) | apply Kp.alloc))
            go_wp2_with fail
            refine (endA (i := 0) (n := 0) (now := 0) (good := true) (stays := false) (HSI3.out.calm hk4) HVB.out.le (by decide) (by decide) (by omega)).mono ?_; rintro e w5 ⟨_, hq⟩
            have hG : (ab s3).G = [(x.id, x.rc)] := by rw [HA3.out, aBegin_G, HOA2.out.g]; rfl
            obtain ⟨y, s5, hy, hgy, rfl, hsi5, _, hA5, hve⟩ := hq (by rw [hG]; exact ⟨Int.le_refl _, (by decide : (0 : Int) < 1)⟩)
            have hyk : (y.id, y.rc) = (x.id, x.rc) := by rw [hG] at hgy; exact (Option.some.inj hgy).symm
            rw [HA3.out] at hA5 hy
            obtain ⟨o1, o2, o3, o4⟩ := HOA2.out.step HB.out HI.out hy hyk (show (Int.toNat 0) = 0 from rfl)
            have hA5' : ab s5 = aEnd (aBegin (ab s2) (LcA (ab s2) (fr s2 0) 0) (FiA (ab s2) (fr s2 0) 0) (x.id, x.rc)) (Int.toNat 0) y false 0 := hA5
            rw [← hA5'] at o1 o2 o4
            have HSI5 := Lib.hid hsi5; have HOA5 := Lib.hid o1; have HL5 := Lib.hid o2; have HG5 := Lib.hid o4
            have hc3 : (ab s3).c = (ab s2).c := by rw [HA3.out, aBegin_c]
            have hc5 : (ab s5).c = (ab s2).c := by rw [hA5', aEnd_c, aBegin_c]
            have HCC5 := Lib.hid (show CC s5 false from by unfold CC; rw [hc5]; exact HCC2.out)
            have HOV5 := Lib.hid (HOV2.out.step (by omega) (by omega) HVB.out (o3 ▸ hve) (show (ab s3).c.win = 1 from by rw [hc3]; exact HCC2.out.1) HCC2.out.2.1 HCC2.out.2.2.1)
            have wt : IntKind.i64.wrap ((t : Int) + 1) = ((t + 1 : Nat) : Int) := by rw [IntWalk.i64_in _ (by omega)]; omega
            clear hq hG hy hgy hsi5 hA5 hve hyk o1 o2 o3 o4 hA5' hc3 hc5 e1 e2 e3 hk4
            go_wp2_with fail
            go_roundg (nn - (t + 1))
            case measure => have := HK2.out; omega
            case rel => exact ⟨t + 1, X, s5, rfl, by omega, rfl, rfl, HSI5.out, HOA5.out, HCC5.out, by have := HOV5.out; rw [show ((100 : Int) - ((t + 1 : Nat) : Int)) = 100 - t - 1 from by omega]; exact this, by have := HL5.out; have := HLEN2.out; omega, by rw [HX.out]; exact HG5.out⟩
          · have hW0 : (ab s2).W = [] := List.length_eq_zero_iff.1 (by have := HLEN2.out; omega)
            have HW2 := Lib.hid hW0
            go_wp2_with fail
            refine (pickA (n := 0) (now := 0) HSI2.out HOA2.out.inv HOV2.out.tik rfl (by omega)).mono ?_; rintro e w3 ⟨hq, _⟩
            obtain ⟨rfl, s3, hsi3, _, hA3, _, _⟩ := hq (by rintro ⟨z, hz, _⟩; rw [hW0] at hz; cases hz)
            have HSI3 := Lib.hid (hsi3.calm (w' := w3.alloc (.cells #[.int .i64 0, .int .i64 0, .string ByteArray.empty] 66)) (by repeat (first | exact Kp.refl _ _ | apply Kp.drew | apply Kp.drewN | refine Kp.setCell ?_ _ _ (Or.inl rfl) | apply Kp.alloc)))
            have hR : rgB (ab s3) false = [] := by rw [hA3, HOA2.out.r, if_pos hW0]
            have hL3 : (ab s3).W.length = 0 := by rw [hA3, hW0]; rfl
            have HR := Lib.hid hR; have HL3 := Lib.hid hL3
            clear hq hsi3 hA3 hW0 hR hL3
            unfold z3
            go_wp2_with fail
            refine (r22ans_any _).mono ?_; rintro e w6 ⟨rfl, hk6⟩
            have HSI6 := Lib.hid (HSI3.out.calm hk6)
            clear hk6
            go_wp2_with fail
            refine (slen_any p N s3 _ HSI6.out.si).mono ?_; rintro e w7 ⟨rfl, rfl⟩
            rw [HL3.out]
            go_wp2_with fail
            refine (ssenders_any p N s3 false _ HSI6.out.si (by omega)).mono ?_; rintro e w8 ⟨v8, rfl, ho8, hk8⟩
            have hl8 : (if false then s3.A1 else s3.A0).length = 0 := congrArg List.length HR.out
            rw [hl8] at ho8
            obtain ⟨a8, c8, rfl⟩ := (own_weaken ho8).slice
            have HKE := Lib.hid (HSI6.out.kp.trans hk8)
            clear ho8 hk8 hl8
            go_wp2_with fail
            go_ret
            exact ⟨rfl, HKE.out.below (fun _ _ h => h)⟩
  | true =>
    go_enter Try.func11, Try.ntmps11
    go_wp2_with fail
    refine (newA (oC (.slice (some ⟨W.heap.size + 1, 0, none⟩) 1 1) [oD]) (some ⟨W.heap.size + 1, 0, none⟩) 1 W _ (by repeat (first | exact Kp.refl _ _ | apply Kp.drew | apply Kp.drewN | refine Kp.setCell ?_ _ _ (Or.inl rfl) | apply Kp.alloc)) rfl (srd_one _ _) (show 1 ≤ 1000000 by decide) (fun e => by cases e)).mono ?_; rintro e w0 ⟨p, s0, rfl, hsi0, hA0, hP0⟩
    have HSI0 := Lib.hid hsi0; have HP0 := Lib.hid hP0
    have HOA0 := Lib.hid (show OA (ab s0) true oS oD from by rw [hA0]; exact ⟨fun x hx => (by cases hx), List.nodup_nil, rfl, rfl⟩)
    have HW0 := Lib.hid (show (ab s0).W = [] from by rw [hA0])
    have HC0 := Lib.hid (show CC s0 true from by unfold CC; rw [hA0]; exact ⟨rfl, rfl, rfl, has_one _⟩)
    clear hsi0 hA0 hP0
    go_wp2_with fail
    go_loopg [7, 8] m (fun k n i wr => ∃ (j N : Nat) (s : Sd), k = m - j ∧ j ≤ m ∧ j ≤ 60 ∧ i = .int .i64 j ∧ n = .int .i64 (ab s).W.length ∧ (ab s).W.length ≤ j ∧ N ≤ 1 + j ∧ SI W wr p s N ∧ OA (ab s) true oS oD ∧ s.Ps = [] ∧ CC s true)
    case atStart => exact ⟨0, _, s0, rfl, by omega, by omega, rfl, by rw [HW0.out]; rfl, by rw [HW0.out]; exact Nat.le_refl _, (by first | decide | exact Nat.le_refl 1), HSI0.out, HOA0.out, HP0.out, HC0.out⟩
    case round =>
      obtain ⟨j, N, s, hk, hj, hj60, rfl, rfl, hWj, hN, hsi, hoa, hps, hcc⟩ := hrel
      have HKk := Lib.hid hk; have HSI := Lib.hid hsi; have HOA := Lib.hid hoa; have HPS := Lib.hid hps; have HCC := Lib.hid hcc
      have HWJ := Lib.hid hWj
      clear hk hsi hoa hps hcc hWj
      obtain ⟨nn, hnn⟩ : ∃ nn, nn = (ab s).W.length := ⟨_, rfl⟩
      rw [← hnn] at HWJ ⊢
      have HNN := Lib.hid hnn; clear hnn
      by_cases hlt : (j : Int) < (m : Int)
      · by_cases h60 : (j : Int) < 60
        · obtain ⟨b, off, rfl, hb, hrow0⟩ := HROW.out.get (i := j) (by omega)
          obtain ⟨n, hn⟩ : ∃ n, n = f j := ⟨_, rfl⟩
          have c0 : wr.cell? ⟨b, off + j, none⟩ = some (.int .u8 n) := (HSI.out.kp.cell (off + j) hb (fun h => h)).trans (by rw [hn]; exact hrow0 j (by omega))
          have lb := Nat.lt_of_lt_of_le hb HSI.out.kp.size
          obtain ⟨n0, n1⟩ := bounds_u8 (HWF.out j (by omega))
          rw [← hn] at n0 n1
          clear hn hrow0
          obtain ⟨q, hq⟩ : ∃ q, q = Int.tdiv n 4 := ⟨_, rfl⟩
          obtain ⟨r, hr⟩ : ∃ r, r = Int.tmod n 4 := ⟨_, rfl⟩
          have q1 : q = n / 4 := by rw [hq, Int.tdiv_eq_ediv_of_nonneg (by omega)]
          have r1 : r = n % 4 := by rw [hr, Int.tmod_eq_emod_of_nonneg (by omega)]
          have w1 : IntKind.u8.wrap q = q := IntWalk.u8_in _ (by omega)
          have w2 : IntKind.i64.wrap q = q := IntWalk.i64_in _ (by omega)
          have w3 : IntKind.u8.wrap r = r := IntWalk.u8_in _ (by omega)
          have w4 : IntKind.i64.wrap r = r := IntWalk.i64_in _ (by omega)
          have QB := Lib.hid (show 0 ≤ q ∧ q ≤ 63 ∧ 0 ≤ r ∧ r ≤ 3 from by omega)
          have wj : IntKind.i64.wrap ((j : Int) + 1) = ((j + 1 : Nat) : Int) := by rw [IntWalk.i64_in _ (by omega)]; omega
          have wn : IntKind.i64.wrap ((nn : Int) + 1) = ((nn + 1 : Nat) : Int) := by rw [IntWalk.i64_in _ (by have := HWJ.out; omega)]; omega
          have q2 : (0 : Int) ≤ (j : Int) := by omega
          clear q1 r1
          have hq' := hq.symm; have hr' := hr.symm
          clear hq hr
          go_wp2_with fail
          have cW : W.cell? ⟨b, off + j, none⟩ = some (.int .u8 n) := (HSI.out.kp.cell (off + j) hb (fun h => h)).symm.trans c0
          by_cases hin : ∃ z ∈ (ab s).W, (z.id, z.rc) = (q, r)
          · go_region_held3 (fun w' => w'.cell? ⟨b, off + j, none⟩ = some (.int .u8 n)) (first | exact c0 | exact (hsi2.kp.cell (off + j) hb (fun h => h)).trans cW)
              (first | (go_at_call 25; refine ((putA q r 0 oS oD (HSI.out.calm (Kp.refl (fun _ => False) wr).drew) (WalkArith.wf_i64 (by have := QB.out; omega)) (WalkArith.wf_i64 (by have := QB.out; omega)) (by decide) (by omega)).mono (fun e w h => h.1 hin)).mono ?_; rintro e w2 ⟨rfl, hsi2, _⟩))
            have HSI2 := Lib.hid hsi2
            clear hsi2 c0
            go_wp2_with fail
            go_roundg (m - (j + 1))
            case measure => have := HKk.out; omega
            case rel => exact ⟨j + 1, N, s, rfl, by omega, by omega, rfl, by rw [HNN.out], by have := HWJ.out; have := HNN.out; omega, by omega, HSI2.out, HOA.out, HPS.out, HCC.out⟩
          · go_region_held3 (fun w' => w'.cell? ⟨b, off + j, none⟩ = some (.int .u8 n)) (first | exact c0 | exact (hsi2.kp.cell (off + j) hb (fun h => h)).trans cW)
              (first | (go_at_call 25; refine ((putA q r 0 oS oD (HSI.out.calm (Kp.refl (fun _ => False) wr).drew) (WalkArith.wf_i64 (by have := QB.out; omega)) (WalkArith.wf_i64 (by have := QB.out; omega)) (by decide) (by omega)).mono (fun e w h => h.2 hin)).mono ?_; rintro e w2 ⟨rfl, s2, hsi2, _, hA2, hP2⟩))
            have hA2' : ab s2 = aPut (ab s) ⟨q, r, oS, oD, true, false, 0⟩ := by rw [hA2, show Has oD s.c.L = true from HCC.out.2.2.2]; rfl
            have HSI2 := Lib.hid hsi2
            have HOA2 := Lib.hid (show OA (ab s2) true oS oD from by rw [hA2']; exact HOA.out.put hin QB.out)
            have HP2 := Lib.hid (hP2.trans HPS.out)
            have HL2 := Lib.hid (show (ab s2).W.length = nn + 1 from by rw [hA2']; show ((ab s).W ++ [_]).length = _; rw [List.length_append, HNN.out]; rfl)
            have HCC2 := Lib.hid (show CC s2 true from by unfold CC; rw [hA2']; exact HCC.out)
            clear hsi2 hA2 hA2' hP2 c0
            go_wp2_with fail
            go_roundg (m - (j + 1))
            case measure => have := HKk.out; omega
            case rel => exact ⟨j + 1, N + 1, s2, rfl, by omega, by omega, rfl, by rw [HL2.out]; rfl, by have := HWJ.out; have := HL2.out; omega, by omega, HSI2.out, HOA2.out, HP2.out, HCC2.out⟩
        · skip
          have hn60 : nn ≤ 60 := by have := HWJ.out; omega
          go_wp2_with fail
          go_loopg [9, 10, 11, 12] nn (fun k l i _ _ wr => ∃ (t : Nat) (last : Int) (s2 : Sd), k = nn - t ∧ t ≤ nn ∧ i = .int .i64 t ∧ l = .int .i64 last ∧ SI W wr p s2 N ∧ OA (ab s2) true oS oD ∧ CC s2 true ∧ OV s2 (100 - t) ∧ (ab s2).W.length + t = nn ∧ (∀ z ∈ (ab s2).W, last < z.id * 4 + z.rc))
          case atStart => exact ⟨0, -1, s, rfl, by omega, rfl, rfl, HSI.out, HOA.out, HCC.out, OV.new HPS.out HCC.out.2.2.1, HNN.out.symm, fun z hz => by have := HOA.out.w z hz; omega⟩
          case round =>
            obtain ⟨t, last, s2, hk, ht, rfl, rfl, hsi2, hoa2, hcc2, hov2, hlen2, hgt2⟩ := hrel
            have HK2 := Lib.hid hk; have HSI2 := Lib.hid hsi2; have HOA2 := Lib.hid hoa2; have HCC2 := Lib.hid hcc2; have HOV2 := Lib.hid hov2; have HLEN2 := Lib.hid hlen2; have HGT2 := Lib.hid hgt2
            clear hk hsi2 hoa2 hcc2 hov2 hlen2 hgt2
            by_cases hlt2 : (t : Int) < (nn : Int)
            · go_wp2_with fail
              refine (pickA (n := 0) (now := 0) HSI2.out HOA2.out.inv HOV2.out.tik rfl (by omega)).mono ?_; rintro e w3 ⟨_, hq⟩
              obtain ⟨x, s3, hb, hi, rfl, hsi3, _, hA3, hvb, _⟩ := hq (HOA2.out.any (HOV2.out.fr (by omega)) (fun e => by have h1 := HLEN2.out; rw [e] at h1; have : (0 : Nat) + t = nn := h1; omega))
              have hxw := HOA2.out.w x hb.mem
              have hxl := HGT2.out x hb.mem
              have hxd := hxw.2.1
              have HB := Lib.hid hb; have HI := Lib.hid hi; have HSI3 := Lib.hid hsi3; have HA3 := Lib.hid hA3; have HVB := Lib.hid (hxd ▸ hvb); have HXW := Lib.hid hxw
              have HXD := Lib.hid hxd
              obtain ⟨X, hX⟩ : ∃ X, X = x.id * 4 + x.rc := ⟨_, rfl⟩
              have e1 : IntKind.i64.wrap (x.id * 4) = x.id * 4 := IntWalk.i64_in _ (by omega)
              have e2 : IntKind.i64.wrap (x.id * 4 + x.rc) = X := by rw [hX]; exact IntWalk.i64_in _ (by omega)
              have e3 : ¬ X ≤ last := by omega
              have HX := Lib.hid hX
              clear hq hb hi hsi3 hA3 hvb hxw hxl hxd hX
              have hk4 : Kp (fun _ => False) w3 (w3.alloc (.cells #[.int .i64 x.id, .int .i64 x.rc, .string x.dom] 66)) := (by repeat (first | exact Kp.refl _ _ | apply Kp.drew | apply Kp.drewN | refine Kp.setCell ?_ _ _ (Or.inl rfl) | apply Kp.alloc))
              go_wp2_with fail
              refine (endA (i := 0) (n := 0) (now := 0) (good := true) (stays := false) (HSI3.out.calm hk4) HVB.out.le (by decide) (by decide) (by omega)).mono ?_; rintro e w5 ⟨_, hq⟩
              have hG : (ab s3).G = [(x.id, x.rc)] := by rw [HA3.out, aBegin_G, HOA2.out.g]; rfl
              obtain ⟨y, s5, hy, hgy, rfl, hsi5, _, hA5, hve⟩ := hq (by rw [hG]; exact ⟨Int.le_refl _, (by decide : (0 : Int) < 1)⟩)
              have hyk : (y.id, y.rc) = (x.id, x.rc) := by rw [hG] at hgy; exact (Option.some.inj hgy).symm
              rw [HA3.out] at hA5 hy
              obtain ⟨o1, o2, o3, o4⟩ := HOA2.out.step HB.out HI.out hy hyk (show (Int.toNat 0) = 0 from rfl)
              have hA5' : ab s5 = aEnd (aBegin (ab s2) (LcA (ab s2) (fr s2 0) 0) (FiA (ab s2) (fr s2 0) 0) (x.id, x.rc)) (Int.toNat 0) y false 0 := hA5
              rw [← hA5'] at o1 o2 o4
              have HSI5 := Lib.hid hsi5; have HOA5 := Lib.hid o1; have HL5 := Lib.hid o2; have HG5 := Lib.hid o4
              have hc3 : (ab s3).c = (ab s2).c := by rw [HA3.out, aBegin_c]
              have hc5 : (ab s5).c = (ab s2).c := by rw [hA5', aEnd_c, aBegin_c]
              have HCC5 := Lib.hid (show CC s5 true from by unfold CC; rw [hc5]; exact HCC2.out)
              have HOV5 := Lib.hid (HOV2.out.step (by omega) (by omega) HVB.out (o3 ▸ hve) (show (ab s3).c.win = 1 from by rw [hc3]; exact HCC2.out.1) HCC2.out.2.1 HCC2.out.2.2.1)
              have wt : IntKind.i64.wrap ((t : Int) + 1) = ((t + 1 : Nat) : Int) := by rw [IntWalk.i64_in _ (by omega)]; omega
              clear hq hG hy hgy hsi5 hA5 hve hyk o1 o2 o3 o4 hA5' hc3 hc5 e1 e2 e3 hk4
              go_wp2_with fail
              go_roundg (nn - (t + 1))
              case measure => have := HK2.out; omega
              case rel => exact ⟨t + 1, X, s5, rfl, by omega, rfl, rfl, HSI5.out, HOA5.out, HCC5.out, by have := HOV5.out; rw [show ((100 : Int) - ((t + 1 : Nat) : Int)) = 100 - t - 1 from by omega]; exact this, by have := HL5.out; have := HLEN2.out; omega, by rw [HX.out]; exact HG5.out⟩
            · have hW0 : (ab s2).W = [] := List.length_eq_zero_iff.1 (by have := HLEN2.out; omega)
              have HW2 := Lib.hid hW0
              go_wp2_with fail
              refine (pickA (n := 0) (now := 0) HSI2.out HOA2.out.inv HOV2.out.tik rfl (by omega)).mono ?_; rintro e w3 ⟨hq, _⟩
              obtain ⟨rfl, s3, hsi3, _, hA3, _, _⟩ := hq (by rintro ⟨z, hz, _⟩; rw [hW0] at hz; cases hz)
              have HSI3 := Lib.hid (hsi3.calm (w' := w3.alloc (.cells #[.int .i64 0, .int .i64 0, .string ByteArray.empty] 66)) (by repeat (first | exact Kp.refl _ _ | apply Kp.drew | apply Kp.drewN | refine Kp.setCell ?_ _ _ (Or.inl rfl) | apply Kp.alloc)))
              have hR : rgB (ab s3) true = [] := by rw [hA3, HOA2.out.r, if_pos hW0]
              have hL3 : (ab s3).W.length = 0 := by rw [hA3, hW0]; rfl
              have HR := Lib.hid hR; have HL3 := Lib.hid hL3
              clear hq hsi3 hA3 hW0 hR hL3
              unfold z3
              go_wp2_with fail
              refine (r22ans_any _).mono ?_; rintro e w6 ⟨rfl, hk6⟩
              have HSI6 := Lib.hid (HSI3.out.calm hk6)
              clear hk6
              go_wp2_with fail
              refine (slen_any p N s3 _ HSI6.out.si).mono ?_; rintro e w7 ⟨rfl, rfl⟩
              rw [HL3.out]
              go_wp2_with fail
              refine (ssenders_any p N s3 true _ HSI6.out.si (by omega)).mono ?_; rintro e w8 ⟨v8, rfl, ho8, hk8⟩
              have hl8 : (if true then s3.A1 else s3.A0).length = 0 := congrArg List.length HR.out
              rw [hl8] at ho8
              obtain ⟨a8, c8, rfl⟩ := (own_weaken ho8).slice
              have HKE := Lib.hid (HSI6.out.kp.trans hk8)
              clear ho8 hk8 hl8
              go_wp2_with fail
              go_ret
              exact ⟨rfl, HKE.out.below (fun _ _ h => h)⟩
      · skip
        have hn60 : nn ≤ 60 := by have := HWJ.out; omega
        go_wp2_with fail
        go_loopg [9, 10, 11, 12] nn (fun k l i _ _ wr => ∃ (t : Nat) (last : Int) (s2 : Sd), k = nn - t ∧ t ≤ nn ∧ i = .int .i64 t ∧ l = .int .i64 last ∧ SI W wr p s2 N ∧ OA (ab s2) true oS oD ∧ CC s2 true ∧ OV s2 (100 - t) ∧ (ab s2).W.length + t = nn ∧ (∀ z ∈ (ab s2).W, last < z.id * 4 + z.rc))
        case atStart => exact ⟨0, -1, s, rfl, by omega, rfl, rfl, HSI.out, HOA.out, HCC.out, OV.new HPS.out HCC.out.2.2.1, HNN.out.symm, fun z hz => by have := HOA.out.w z hz; omega⟩
        case round =>
          obtain ⟨t, last, s2, hk, ht, rfl, rfl, hsi2, hoa2, hcc2, hov2, hlen2, hgt2⟩ := hrel
          have HK2 := Lib.hid hk; have HSI2 := Lib.hid hsi2; have HOA2 := Lib.hid hoa2; have HCC2 := Lib.hid hcc2; have HOV2 := Lib.hid hov2; have HLEN2 := Lib.hid hlen2; have HGT2 := Lib.hid hgt2
          clear hk hsi2 hoa2 hcc2 hov2 hlen2 hgt2
          by_cases hlt2 : (t : Int) < (nn : Int)
          · go_wp2_with fail
            refine (pickA (n := 0) (now := 0) HSI2.out HOA2.out.inv HOV2.out.tik rfl (by omega)).mono ?_; rintro e w3 ⟨_, hq⟩
            obtain ⟨x, s3, hb, hi, rfl, hsi3, _, hA3, hvb, _⟩ := hq (HOA2.out.any (HOV2.out.fr (by omega)) (fun e => by have h1 := HLEN2.out; rw [e] at h1; have : (0 : Nat) + t = nn := h1; omega))
            have hxw := HOA2.out.w x hb.mem
            have hxl := HGT2.out x hb.mem
            have hxd := hxw.2.1
            have HB := Lib.hid hb; have HI := Lib.hid hi; have HSI3 := Lib.hid hsi3; have HA3 := Lib.hid hA3; have HVB := Lib.hid (hxd ▸ hvb); have HXW := Lib.hid hxw
            have HXD := Lib.hid hxd
            obtain ⟨X, hX⟩ : ∃ X, X = x.id * 4 + x.rc := ⟨_, rfl⟩
            have e1 : IntKind.i64.wrap (x.id * 4) = x.id * 4 := IntWalk.i64_in _ (by omega)
            have e2 : IntKind.i64.wrap (x.id * 4 + x.rc) = X := by rw [hX]; exact IntWalk.i64_in _ (by omega)
            have e3 : ¬ X ≤ last := by omega
            have HX := Lib.hid hX
            clear hq hb hi hsi3 hA3 hvb hxw hxl hxd hX
            have hk4 : Kp (fun _ => False) w3 (w3.alloc (.cells #[.int .i64 x.id, .int .i64 x.rc, .string x.dom] 66)) := (by repeat (first | exact Kp.refl _ _ | apply Kp.drew | apply Kp.drewN | refine Kp.setCell ?_ _ _ (Or.inl rfl) | apply Kp.alloc))
            go_wp2_with fail
            refine (endA (i := 0) (n := 0) (now := 0) (good := true) (stays := false) (HSI3.out.calm hk4) HVB.out.le (by decide) (by decide) (by omega)).mono ?_; rintro e w5 ⟨_, hq⟩
            have hG : (ab s3).G = [(x.id, x.rc)] := by rw [HA3.out, aBegin_G, HOA2.out.g]; rfl
            obtain ⟨y, s5, hy, hgy, rfl, hsi5, _, hA5, hve⟩ := hq (by rw [hG]; exact ⟨Int.le_refl _, (by decide : (0 : Int) < 1)⟩)
            have hyk : (y.id, y.rc) = (x.id, x.rc) := by rw [hG] at hgy; exact (Option.some.inj hgy).symm
            rw [HA3.out] at hA5 hy
            obtain ⟨o1, o2, o3, o4⟩ := HOA2.out.step HB.out HI.out hy hyk (show (Int.toNat 0) = 0 from rfl)
            have hA5' : ab s5 = aEnd (aBegin (ab s2) (LcA (ab s2) (fr s2 0) 0) (FiA (ab s2) (fr s2 0) 0) (x.id, x.rc)) (Int.toNat 0) y false 0 := hA5
            rw [← hA5'] at o1 o2 o4
            have HSI5 := Lib.hid hsi5; have HOA5 := Lib.hid o1; have HL5 := Lib.hid o2; have HG5 := Lib.hid o4
            have hc3 : (ab s3).c = (ab s2).c := by rw [HA3.out, aBegin_c]
            have hc5 : (ab s5).c = (ab s2).c := by rw [hA5', aEnd_c, aBegin_c]
            have HCC5 := Lib.hid (show CC s5 true from by unfold CC; rw [hc5]; exact HCC2.out)
            have HOV5 := Lib.hid (HOV2.out.step (by omega) (by omega) HVB.out (o3 ▸ hve) (show (ab s3).c.win = 1 from by rw [hc3]; exact HCC2.out.1) HCC2.out.2.1 HCC2.out.2.2.1)
            have wt : IntKind.i64.wrap ((t : Int) + 1) = ((t + 1 : Nat) : Int) := by rw [IntWalk.i64_in _ (by omega)]; omega
            clear hq hG hy hgy hsi5 hA5 hve hyk o1 o2 o3 o4 hA5' hc3 hc5 e1 e2 e3 hk4
            go_wp2_with fail
            go_roundg (nn - (t + 1))
            case measure => have := HK2.out; omega
            case rel => exact ⟨t + 1, X, s5, rfl, by omega, rfl, rfl, HSI5.out, HOA5.out, HCC5.out, by have := HOV5.out; rw [show ((100 : Int) - ((t + 1 : Nat) : Int)) = 100 - t - 1 from by omega]; exact this, by have := HL5.out; have := HLEN2.out; omega, by rw [HX.out]; exact HG5.out⟩
          · have hW0 : (ab s2).W = [] := List.length_eq_zero_iff.1 (by have := HLEN2.out; omega)
            have HW2 := Lib.hid hW0
            go_wp2_with fail
            refine (pickA (n := 0) (now := 0) HSI2.out HOA2.out.inv HOV2.out.tik rfl (by omega)).mono ?_; rintro e w3 ⟨hq, _⟩
            obtain ⟨rfl, s3, hsi3, _, hA3, _, _⟩ := hq (by rintro ⟨z, hz, _⟩; rw [hW0] at hz; cases hz)
            have HSI3 := Lib.hid (hsi3.calm (w' := w3.alloc (.cells #[.int .i64 0, .int .i64 0, .string ByteArray.empty] 66)) (by repeat (first | exact Kp.refl _ _ | apply Kp.drew | apply Kp.drewN | refine Kp.setCell ?_ _ _ (Or.inl rfl) | apply Kp.alloc)))
            have hR : rgB (ab s3) true = [] := by rw [hA3, HOA2.out.r, if_pos hW0]
            have hL3 : (ab s3).W.length = 0 := by rw [hA3, hW0]; rfl
            have HR := Lib.hid hR; have HL3 := Lib.hid hL3
            clear hq hsi3 hA3 hW0 hR hL3
            unfold z3
            go_wp2_with fail
            refine (r22ans_any _).mono ?_; rintro e w6 ⟨rfl, hk6⟩
            have HSI6 := Lib.hid (HSI3.out.calm hk6)
            clear hk6
            go_wp2_with fail
            refine (slen_any p N s3 _ HSI6.out.si).mono ?_; rintro e w7 ⟨rfl, rfl⟩
            rw [HL3.out]
            go_wp2_with fail
            refine (ssenders_any p N s3 true _ HSI6.out.si (by omega)).mono ?_; rintro e w8 ⟨v8, rfl, ho8, hk8⟩
            have hl8 : (if true then s3.A1 else s3.A0).length = 0 := congrArg List.length HR.out
            rw [hl8] at ho8
            obtain ⟨a8, c8, rfl⟩ := (own_weaken ho8).slice
            have HKE := Lib.hid (HSI6.out.kp.trans hk8)
            clear ho8 hk8 hl8
            go_wp2_with fail
            go_ret
            exact ⟨rfl, HKE.out.below (fun _ _ h => h)⟩
end Go.Proofs.Ytbiahndpfbmoeaa
