/- SchedFair's walk, where the domains are not here. No condition. -/
import Derived.Test.YtbiahndpfbmoeaaSchedFair0
import Derived.ProofKit
namespace Go.Proofs.Ytbiahndpfbmoeaa
open Go.RowKit Go.ChangeShapes Go.WideShapes SatAid Go.Deep

set_option maxRecDepth 100000 in
set_option maxHeartbeats 3200000 in
theorem schedFair_far (W : World) (mm oo : Int) (ma : 0 ≤ mm) (mb : mm ≤ 255) (oa : 0 ≤ oo) (_ob : oo ≤ 255) (ao : Option Addr) (len cap : Nat) (f : Nat → SOp) (_hnc : len ≤ cap) (_hcap : cap ≤ 9223372036854775807) (hrow : SRow W ao len 8 (fun i => So (f i))) :
    Calls Try.prog 10 #[.bool false, .int .u8 mm, .int .u8 oo, .slice ao len cap] W fun e W' => e = .returned (.bool true) ∧ Below W.heap.size W W' := by
  have HROW := Lib.hid hrow; clear hrow
  go_enter Try.func10, Try.ntmps10
  go_wp2_with fail
  refine (newA (fC (.slice none 0 0) []) none 0 W _ (by repeat (first | exact Kp.refl _ _ | apply Kp.drew | apply Kp.drewN | refine Kp.setCell ?_ _ _ (Or.inl rfl) | apply Kp.alloc)) rfl (fun i hi => absurd hi (Nat.not_lt_zero _)) (by decide) (fun _ => rfl)).mono ?_; rintro e w0 ⟨p, s0, rfl, hsi0, hA0, hP0⟩
  have HSI0 := Lib.hid hsi0; have HP0 := Lib.hid hP0
  have HN0 := Lib.hid (show (fC (.slice none 0 0) []).L.length ≤ 3 + 0 from by decide)
  have HFP0 := Lib.hid (show FP (ab s0) false fF fS fA fB 0 0 from by rw [hA0]; exact ⟨fun x hx => (by cases hx), List.nodup_nil, rfl, rfl, rfl, fun x hx => (by cases hx)⟩)
  have HR0 := Lib.hid (show rgB (ab s0) false = (if (0 : Nat) = 0 then [] else [fF]) from by rw [hA0]; rfl)
  have HW0 := Lib.hid (show (ab s0).W = [] from by rw [hA0])
  have HC0 := Lib.hid (show CF s0 false from by have e := congrArg Ab.c hA0; unfold CF; rw [show s0.c = _ from e]; exact ⟨rfl, rfl, has_nil _, has_nil _, has_nil _⟩)
  clear hsi0 hA0 hP0
  go_wp2_with fail
  go_loopg [11] 40 (fun k i wr => ∃ (j N : Nat) (s : Sd), k = 40 - j ∧ j ≤ 40 ∧ i = .int .i64 j ∧ N ≤ 3 + j ∧ SI W wr p s N ∧ FP (ab s) false fF fS fA fB j 0 ∧ rgB (ab s) false = (if j = 0 then [] else [fF]) ∧ s.Ps = [] ∧ CF s false ∧ ∀ z ∈ (ab s).W, z.rc = 0 ∧ z.id < 1000 + j)
  case atStart => exact ⟨0, _, s0, rfl, by omega, rfl, HN0.out, HSI0.out, HFP0.out, HR0.out, HP0.out, HC0.out, by rw [HW0.out]; intro z hz; cases hz⟩
  case round =>
    obtain ⟨j, N, s, hk, hj, rfl, hN, hsi, hfp, hr, hps, hcf, hid⟩ := hrel
    have HKk := Lib.hid hk; have HSI := Lib.hid hsi; have HFP := Lib.hid hfp; have HR := Lib.hid hr; have HPS := Lib.hid hps; have HCF := Lib.hid hcf; have HID := Lib.hid hid
    clear hk hsi hfp hr hps hcf hid
    by_cases hlt : (j : Int) < 40
    · have e1 : IntKind.i64.wrap (1000 + (j : Int)) = 1000 + j := IntWalk.i64_in _ (by omega)
      have e2 : IntKind.i64.wrap ((j : Int) + 1) = ((j + 1 : Nat) : Int) := by rw [IntWalk.i64_in _ (by omega)]; omega
      have hnew : ¬ ∃ z ∈ (ab s).W, (z.id, z.rc) = (1000 + (j : Int), 0) := by
        rintro ⟨z, hz, e⟩
        have h1 := HID.out z hz
        have h2 : z.id = 1000 + (j : Int) := congrArg Prod.fst e
        omega
      go_wp2_with fail
      refine ((putA (1000 + (j : Int)) 0 0 fF fA HSI.out (WalkArith.wf_i64 (by omega)) (by decide) (by decide) (by omega)).mono (fun e w h => h.2 hnew)).mono ?_; rintro e w2 ⟨rfl, s2, hsi2, _, hA2, hP2⟩
      have hA2' : ab s2 = aPut (ab s) ⟨1000 + (j : Int), 0, fF, fA, false, false, 0⟩ := by rw [hA2, show Has fA s.c.L = false from HCF.out.2.2.1]; rfl
      have HSI2 := Lib.hid hsi2
      have HFP2 := Lib.hid (show FP (ab s2) false fF fS fA fB (j + 1) 0 from by rw [hA2']; exact HFP.out.put hnew rfl rfl (show fF = fF ↔ fA = fA from by decide) (show fF = fS ↔ fA = fB from by decide) (fun _ => rfl))
      have HP2 := Lib.hid (hP2.trans HPS.out)
      have HR2 := Lib.hid (show rgB (ab s2) false = (if j + 1 = 0 then [] else [fF]) from by
        rw [hA2', if_neg (by omega)]
        show Padd fF (rgB (ab s) false) = _
        rw [HR.out]
        unfold Padd
        split
        · rw [has_nil]; rfl
        · rw [has_one]; rfl)
      have HCF2 := Lib.hid (show CF s2 false from by unfold CF; rw [show s2.c = s.c from congrArg Ab.c hA2']; exact HCF.out)
      have HID2 := Lib.hid (show ∀ z ∈ (ab s2).W, z.rc = 0 ∧ z.id < 1000 + ((j + 1 : Nat) : Int) from by
        rw [hA2']
        intro z hz
        rcases List.mem_append.1 hz with hz | hz
        · have := HID.out z hz; omega
        · obtain rfl := List.mem_singleton.1 hz
          exact ⟨rfl, by show 1000 + (j : Int) < _; omega⟩)
      clear hsi2 hA2 hA2' hP2 hnew e1
      go_wp2_with fail
      go_roundg (40 - (j + 1))
      case measure => have := HKk.out; omega
      case rel => exact ⟨j + 1, N + 1, s2, rfl, by omega, rfl, by omega, HSI2.out, HFP2.out, HR2.out, HP2.out, HCF2.out, HID2.out⟩
    · obtain rfl : j = 40 := by omega
      have e40 : ¬ (((40 : Nat) : Int) < 40) := by omega
      go_wp2_with fail
      have HR40 := Lib.hid (show rgB (ab s) false = [fF] from HR.out)
      obtain ⟨M, hM⟩ : ∃ M : Nat, (M : Int) = 40 + mm := ⟨(40 + mm).toNat, by omega⟩
      have em1 : IntKind.i64.wrap mm = mm := IntWalk.i64_in _ (by omega)
      have em2 : IntKind.i64.wrap (40 + mm) = (M : Int) := by rw [IntWalk.i64_in _ (by omega)]; exact hM.symm
      have HM := Lib.hid (show 40 ≤ M ∧ M ≤ 295 from by omega)
      have HI1 := Lib.hid (show ∀ z ∈ (ab s).W, z.rc = 0 from fun z hz => (HID.out z hz).1)
      clear hM hlt e40 HID HR
      go_loopg [12] M (fun k i wr => ∃ (j N : Nat) (s : Sd), k = M - j ∧ j ≤ M ∧ i = .int .i64 j ∧ N ≤ 43 + j ∧ SI W wr p s N ∧ FP (ab s) false fF fS fA fB 40 j ∧ rgB (ab s) false = (if j = 0 then [fF] else [fF, fS]) ∧ s.Ps = [] ∧ CF s false ∧ ∀ z ∈ (ab s).W, z.rc = 0 ∨ z.id < 1 + j)
      case atStart => exact ⟨0, N, s, rfl, by omega, rfl, by omega, HSI.out, HFP.out, HR40.out, HPS.out, HCF.out, fun z hz => Or.inl (HI1.out z hz)⟩
      case round =>
        clear HKk HSI HFP HPS HCF HR40 HI1 hN
        obtain ⟨j, N, s, hk, hj, rfl, hN, hsi, hfp, hr, hps, hcf, hid⟩ := hrel
        have HKk := Lib.hid hk; have HSI := Lib.hid hsi; have HFP := Lib.hid hfp; have HR := Lib.hid hr; have HPS := Lib.hid hps; have HCF := Lib.hid hcf; have HID := Lib.hid hid
        clear hk hsi hfp hr hps hcf hid
        by_cases hlt : (j : Int) < (M : Int)
        · have hM' := HM.out
          have e1 : IntKind.i64.wrap (1 + (j : Int)) = 1 + j := IntWalk.i64_in _ (by omega)
          have e2 : IntKind.i64.wrap ((j : Int) + 1) = ((j + 1 : Nat) : Int) := by rw [IntWalk.i64_in _ (by omega)]; omega
          have hnew : ¬ ∃ z ∈ (ab s).W, (z.id, z.rc) = (1 + (j : Int), 1) := by
            rintro ⟨z, hz, e⟩
            have h1 := HID.out z hz
            have h2 : z.id = 1 + (j : Int) := congrArg Prod.fst e
            have h3 : z.rc = 1 := congrArg Prod.snd e
            omega
          go_wp2_with fail
          refine ((putA (1 + (j : Int)) 1 0 fS fB HSI.out (WalkArith.wf_i64 (by omega)) (by decide) (by decide) (by omega)).mono (fun e w h => h.2 hnew)).mono ?_; rintro e w2 ⟨rfl, s2, hsi2, _, hA2, hP2⟩
          have hA2' : ab s2 = aPut (ab s) ⟨1 + (j : Int), 1, fS, fB, false, false, 0⟩ := by rw [hA2, show Has fB s.c.L = false from HCF.out.2.2.2.1]; rfl
          have HSI2 := Lib.hid hsi2
          have HFP2 := Lib.hid (show FP (ab s2) false fF fS fA fB 40 (j + 1) from by rw [hA2']; exact HFP.out.put hnew rfl rfl (show fS = fF ↔ fB = fA from by decide) (show fS = fS ↔ fB = fB from by decide) (fun _ => rfl))
          have HP2 := Lib.hid (hP2.trans HPS.out)
          have HR2 := Lib.hid (show rgB (ab s2) false = (if j + 1 = 0 then [fF] else [fF, fS]) from by
            rw [hA2', if_neg (by omega)]
            show Padd fS (rgB (ab s) false) = _
            rw [HR.out]
            unfold Padd
            split
            · rfl
            · rfl)
          have HCF2 := Lib.hid (show CF s2 false from by unfold CF; rw [show s2.c = s.c from congrArg Ab.c hA2']; exact HCF.out)
          have HID2 := Lib.hid (show ∀ z ∈ (ab s2).W, z.rc = 0 ∨ z.id < 1 + ((j + 1 : Nat) : Int) from by
            rw [hA2']
            intro z hz
            rcases List.mem_append.1 hz with hz | hz
            · have := HID.out z hz; omega
            · obtain rfl := List.mem_singleton.1 hz
              exact Or.inr (by show 1 + (j : Int) < _; omega))
          clear hsi2 hA2 hA2' hP2 hnew e1 hM'
          go_wp2_with fail
          go_roundg (M - (j + 1))
          case measure => have := HKk.out; omega
          case rel => exact ⟨j + 1, N + 1, s2, rfl, by omega, rfl, by omega, HSI2.out, HFP2.out, HR2.out, HP2.out, HCF2.out, HID2.out⟩
        · obtain rfl : M = j := by omega
          have hM' := HM.out
          go_wp2_with fail
          have HFR := Lib.hid (show Fr fF fS (rgB (ab s) false) 0 0 from by rw [HR.out, if_neg (by omega)]; exact ⟨by decide, Or.inl ⟨List.Sublist.refl _, rfl⟩⟩)
          obtain ⟨q, hq⟩ : ∃ q, q = Int.tmod oo 30 := ⟨_, rfl⟩
          obtain ⟨K, hK⟩ : ∃ K : Nat, (K : Int) = q := ⟨q.toNat, by rw [hq, Int.tmod_eq_emod_of_nonneg oa]; omega⟩
          have HK30 := Lib.hid (show K ≤ 29 from by rw [Int.tmod_eq_emod_of_nonneg oa] at hq; omega)
          have hq' := hq.symm
          rw [← hK] at hq'
          have ek1 : IntKind.u8.wrap (K : Int) = K := IntWalk.u8_in _ (by have := HK30.out; omega)
          have ek2 : IntKind.i64.wrap (K : Int) = K := IntWalk.i64_in _ (by have := HK30.out; omega)
          have HNM := Lib.hid (show N ≤ 338 from by omega)
          clear hq hK HR HID hlt hM'
          go_loopg [13] K (fun k i wr => ∃ (j N : Nat) (s : Sd), k = K - j ∧ j ≤ K ∧ i = .int .i64 j ∧ N ≤ 338 + j ∧ SI W wr p s N ∧ FP (ab s) false fF fS fA fB 40 M ∧ Fr fF fS (rgB (ab s) false) 0 0 ∧ s.Ps = [] ∧ CF s false)
          case atStart => exact ⟨0, N, s, rfl, by omega, rfl, HNM.out, HSI.out, HFP.out, HFR.out, HPS.out, HCF.out⟩
          case round =>
            clear HKk HSI HFP HPS HCF HFR HNM hN
            obtain ⟨j, N, s, hk, hj, rfl, hN, hsi, hfp, hr, hps, hcf⟩ := hrel
            have HKk := Lib.hid hk; have HSI := Lib.hid hsi; have HFP := Lib.hid hfp; have HFR := Lib.hid hr; have HPS := Lib.hid hps; have HCF := Lib.hid hcf
            have HKJ := Lib.hid (show j ≤ 29 from Nat.le_trans hj HK30.out)
            clear hk hsi hfp hr hps hcf
            by_cases hlt : (j : Int) < (K : Int)
            · have hK' := HKJ.out
              have e1 : IntKind.i64.wrap (5000 + (j : Int)) = 5000 + j := IntWalk.i64_in _ (by omega)
              have e2 : IntKind.i64.wrap ((j : Int) + 1) = ((j + 1 : Nat) : Int) := by rw [IntWalk.i64_in _ (by omega)]; omega
              go_wp2_with fail
              refine (putX (5000 + (j : Int)) 0 _ ⟨#[116, 104, 105, 114, 100]⟩ HSI.out HFP.out HFR.out HCF.out (by decide) (by decide) (WalkArith.wf_i64 (by omega)) (by decide) (by omega)).mono ?_; rintro e w2 ⟨r, N2, s2, rfl, hN2, hsi2, hfp2, hfr2, hP2, hc2⟩
              have HSI2 := Lib.hid hsi2; have HFP2 := Lib.hid hfp2; have HFR2 := Lib.hid hfr2
              have HP2 := Lib.hid (hP2.trans HPS.out)
              have HCF2 := Lib.hid (show CF s2 false from by unfold CF; rw [hc2]; exact HCF.out)
              clear hsi2 hfp2 hfr2 hP2 hc2 e1 hK'
              go_wp2_with fail
              go_roundg (K - (j + 1))
              case measure => have := HKk.out; omega
              case rel => exact ⟨j + 1, N2, s2, rfl, by omega, rfl, by omega, HSI2.out, HFP2.out, HFR2.out, HP2.out, HCF2.out⟩
            · obtain rfl : K = j := by omega
              go_wp2_with fail
              have HN4 := Lib.hid (show N ≤ 367 from by have := HK30.out; omega)
              have HFV := Lib.hid (FV.new HPS.out)
              clear hlt
              go_loopg [14, 15, 16, 17, 18] 60 (fun k sn sm i _ _ wr => ∃ (j n m N : Nat) (s : Sd), k = 60 - j ∧ j ≤ 60 ∧ i = .int .i64 j ∧ sn = .int .i64 n ∧ sm = .int .i64 m ∧ n ≤ 39 ∧ m ≤ 39 ∧ N ≤ 367 + j ∧ SI W wr p s N ∧ FP (ab s) false fF fS fA fB (40 - n) (M - m) ∧ Fr fF fS (rgB (ab s) false) n m ∧ FV s j ∧ CF s false)
              case atStart => exact ⟨0, 0, 0, N, s, rfl, by omega, rfl, rfl, rfl, by omega, by omega, HN4.out, HSI.out, HFP.out, HFR.out, HFV.out, HCF.out⟩
              case round =>
                clear HKk HSI HFP HPS HCF HFR HN4 hN HFV HKJ
                obtain ⟨j, n, m, N, s, hk, hj, rfl, rfl, rfl, hn, hm, hN, hsi, hfp, hfr, hfv, hcf⟩ := hrel
                have HKk := Lib.hid hk; have HSI := Lib.hid hsi; have HFP := Lib.hid hfp; have HFR := Lib.hid hfr; have HFV := Lib.hid hfv; have HCF := Lib.hid hcf
                clear hk hsi hfp hfr hfv hcf
                by_cases hl1 : (j : Int) < (len : Int)
                · by_cases hl2 : (j : Int) < 60
                  · by_cases hl3 : (n : Int) < 39
                    · by_cases hl4 : (m : Int) < 39
                      · skip
                        obtain ⟨b, off, rfl, hb, hc⟩ := HROW.out.get (i := j) (by omega)
                        obtain ⟨⟨ok, oid, orc, onx, osn, odm, og, ost⟩, hr⟩ : ∃ r, r = f j := ⟨_, rfl⟩
                        have hcj := fun z v (e : (So (f j))[z]? = some v) => hc j (by omega) z v e
                        rw [← hr] at hcj
                        have HC0 := Lib.hid (show W.cell? ⟨b, off + j * 8, none⟩ = some (.int .i64 ok) from by have := hcj 0 _ rfl; rwa [Nat.add_zero] at this)
                        have HC4 := Lib.hid (hcj 4 _ rfl)
                        have HC6 := Lib.hid (hcj 6 _ rfl)
                        have hM' := HM.out
                        have q1 : (0 : Int) ≤ (j : Int) := by omega
                        have e2 : IntKind.i64.wrap ((j : Int) + 1) = ((j + 1 : Nat) : Int) := by rw [IntWalk.i64_in _ (by omega)]; omega
                        have e9 : IntKind.i64.wrap (9000 + (j : Int)) = 9000 + j := IntWalk.i64_in _ (by omega)
                        have g0 := (HSI.out.kp.cell _ hb (fun h => h)).trans HC0.out
                        have g4 := (HSI.out.kp.cell _ hb (fun h => h)).trans HC4.out
                        simp only at g4
                        clear hc hcj hr
                        by_cases hk1 : ok = 1
                        · subst hk1
                          by_cases hs1 : osn = ⟨#[102, 105, 114, 115, 116]⟩
                          · subst hs1
                            have HSIt := Lib.hid (show SI W wr p s N from HSI.out); have HFPt := Lib.hid HFP.out; have HFRt := Lib.hid HFR.out; have HFVt := Lib.hid HFV.out; have HCFt := Lib.hid HCF.out
                            have hNt : N ≤ 368 + j := by omega
                            go_wp2_with fail
                            clear g0 g4
                            refine (pickA (n := (j : Int)) (now := (j : Int)) HSIt.out HFPt.out.inv HFVt.out.tik (C_of (by omega) (by omega)) (by omega)).mono ?_; rintro e w3 ⟨_, hq⟩
                            have hf := HFVt.out.fr (show (j : Int) ≤ 1099511627776 by omega)
                            obtain ⟨x, s3, hbe, hi, rfl, hsi3, _, hA3, hvb, _⟩ := hq (HFPt.out.any hf (by omega) (by omega))
                            have HF := Lib.hid hf; have HB := Lib.hid hbe; have HI := Lib.hid hi; have HSI3 := Lib.hid hsi3; have HA3 := Lib.hid hA3; have HVB := Lib.hid hvb
                            have HXW := Lib.hid (HFPt.out.w x hbe.mem)
                            have HK4 := Lib.hid (show Kp (fun _ => False) w3 (w3.alloc (.cells #[.int .i64 x.id, .int .i64 x.rc, .string x.dom] 66)) from (by repeat (first | exact Kp.refl _ _ | apply Kp.drew | apply Kp.drewN | refine Kp.setCell ?_ _ _ (Or.inl rfl) | apply Kp.alloc)))
                            clear hq hf hbe hi hsi3 hA3 hvb
                            obtain ⟨xd, hxd⟩ : ∃ xd, xd = x.dom := ⟨_, rfl⟩
                            rw [← hxd]
                            rw [← hxd] at HK4
                            have hnx := HFPt.out.next fFS HFRt.out (by omega) (by omega) HF.out q1 HB.out HI.out
                            by_cases hA : xd = ⟨#[97]⟩
                            · subst hA
                              have hxF : x.snd = fF := HXW.out.2.2.1.2 hxd.symm
                              have hxS : x.snd ≠ fS := fun e => fFS (hxF.symm.trans e)
                              rw [if_pos hxF, if_neg hxS] at hnx
                              have t1 : (n : Int) + 1 - m ≤ 1 := by omega
                              have t2 : (m : Int) - (n + 1) ≤ 1 := by omega
                              have en : IntKind.i64.wrap ((n : Int) + 1) = ((n + 1 : Nat) : Int) := by rw [IntWalk.i64_in _ (by omega)]; omega
                              have t3 : ((n + 1 : Nat) : Int) - m ≤ 1 := by omega
                              have t4 : (m : Int) - ((n + 1 : Nat) : Int) ≤ 1 := by omega
                              have HEQ := Lib.hid (show (if x.snd = fF then 1 else 0) = 1 ∧ (if x.snd = fS then 1 else 0) = 0 from ⟨if_pos hxF, if_neg hxS⟩)
                              have HXD := Lib.hid hxd; clear hxd hnx hxF hxS
                              go_wp2_with fail
                              have HSI4 := Lib.hid (HSI3.out.calm HK4.out)
                              obtain ⟨w4, hw4⟩ : ∃ w4, w4 = w3.alloc (.cells #[.int .i64 x.id, .int .i64 x.rc, .string ⟨#[97]⟩] 66) := ⟨_, rfl⟩
                              rw [← hw4] at HSI4 ⊢
                              clear hw4 HK4 t1 t2 t3 t4
                              have cW := HC6.out
                              have cW : W.cell? ⟨b, off + j * 8 + 6, none⟩ = some (.bool og) := cW
                              have g6 := (HSI4.out.kp.cell _ hb (fun h => h)).trans cW
                              have lb := Nat.lt_of_lt_of_le hb HSI4.out.kp.size
                              have hG3 : (ab s3).G = [(x.id, x.rc)] := by rw [HA3.out, aBegin_G, HFPt.out.g]; rfl
                              have hG1 : s3.G.length = 1 := congrArg List.length hG3
                              have HG3 := Lib.hid hG3
                              have HGi := Lib.hid (show (0 : Int) ≤ 0 ∧ (0 : Int) < ((ab s3).G.length : Int) from by rw [hG3]; exact ⟨Int.le_refl _, (by decide : (0 : Int) < 1)⟩)
                              have HNt := Lib.hid hNt
                              have HJB := Lib.hid (show 0 ≤ (j : Int) ∧ (j : Int) ≤ 1099511627776 ∧ (j : Int) + 1 ≤ 1099511627776 ∧ N ≤ 1000000 from by omega)
                              clear hG3
                              go_region_held3 (fun w' => w'.cell? ⟨b, off + j * 8 + 6, none⟩ = some (.bool og)) (first | exact g6 | exact (HSI5.out.kp.cell _ hb (fun h => h)).trans cW | exact (hsi6.kp.cell _ hb (fun h => h)).trans cW)
                                (first | (go_at_call 36; refine (sgoing_any p _ s3 _ (HSI4.out.calm (Kp.refl (fun _ => False) w4).drew).si HJB.out.2.2.2).mono ?_; rintro e w5 ⟨v5, rfl, ho5, hk5⟩; rw [hG1] at ho5; obtain ⟨a5, c5, rfl⟩ := (own_weaken ho5).slice; have HSI5 := Lib.hid ((HSI4.out.calm (Kp.refl (fun _ => False) w4).drew).calm hk5); clear ho5 hk5) | (go_at_call 32; refine (endA (i := 0) (n := 0) (now := (j : Int)) (good := og) (stays := false) HSI5.out HVB.out.le HJB.out.1 HJB.out.2.1 HJB.out.2.2.2).mono ?_; rintro e w6 ⟨_, hq⟩; obtain ⟨y, s6, hy, hgy, rfl, hsi6, _, hA6, hve⟩ := hq HGi.out))
                              have hyk : (y.id, y.rc) = (x.id, x.rc) := by rw [HG3.out] at hgy; exact (Option.some.inj hgy).symm
                              rw [HA3.out] at hy hA6
                              obtain ⟨_, _, o3, o4, o5⟩ := HFPt.out.step fFS HFRt.out (by omega) (by omega) HF.out q1 (c := C 0) HB.out HI.out hy hyk (show (Int.toNat 0) = 0 from rfl)
                              rw [← hA6, HEQ.out.1, HEQ.out.2] at o4 o5
                              have hc3 : (ab s3).c = (ab s).c := by rw [HA3.out, aBegin_c]
                              have hc6 : (ab s6).c = (ab s).c := by rw [hA6, aEnd_c, aBegin_c]
                              have HCF6 := Lib.hid (show CF s6 false from by unfold CF; rw [show s6.c = (s).c from hc6]; exact HCFt.out)
                              have HFV6 := Lib.hid (HFVt.out.step HJB.out.1 HJB.out.2.2.1 HVB.out (o3 ▸ hve) HCFt.out.1 HCFt.out.2.1)
                              have HFP6 := Lib.hid o4; have HFR6 := Lib.hid o5; have HSI6 := Lib.hid hsi6
                              clear hq hy hgy hsi6 hA6 hve hyk o3 o4 o5 hc3 hc6 g6
                              go_wp2_with fail
                              go_roundg (60 - (j + 1))
                              case measure => have := HKk.out; omega
                              case rel => exact ⟨j + 1, n + 1, m, N, s6, rfl, by omega, rfl, rfl, rfl, by omega, by omega, by have := HNt.out; omega, HSI6.out, by have h1 := HFP6.out; rw [Nat.sub_sub, Nat.sub_sub] at h1; exact h1, HFR6.out, HFV6.out, HCF6.out⟩
                            · by_cases hB : xd = ⟨#[98]⟩
                              · subst hB
                                have hxS : x.snd = fS := HXW.out.2.2.2.1.2 hxd.symm
                                have hxF : x.snd ≠ fF := fun e => fFS (e.symm.trans hxS)
                                rw [if_neg hxF, if_pos hxS] at hnx
                                have t1 : (n : Int) - (m + 1) ≤ 1 := by omega
                                have t2 : (m : Int) + 1 - n ≤ 1 := by omega
                                have en : IntKind.i64.wrap ((m : Int) + 1) = ((m + 1 : Nat) : Int) := by rw [IntWalk.i64_in _ (by omega)]; omega
                                have t3 : (n : Int) - ((m + 1 : Nat) : Int) ≤ 1 := by omega
                                have t4 : ((m + 1 : Nat) : Int) - (n : Int) ≤ 1 := by omega
                                have HEQ := Lib.hid (show (if x.snd = fF then 1 else 0) = 0 ∧ (if x.snd = fS then 1 else 0) = 1 from ⟨if_neg hxF, if_pos hxS⟩)
                                have HXD := Lib.hid hxd; clear hxd hnx hxF hxS hA
                                go_wp2_with fail
                                have HSI4 := Lib.hid (HSI3.out.calm HK4.out)
                                obtain ⟨w4, hw4⟩ : ∃ w4, w4 = w3.alloc (.cells #[.int .i64 x.id, .int .i64 x.rc, .string ⟨#[98]⟩] 66) := ⟨_, rfl⟩
                                rw [← hw4] at HSI4 ⊢
                                clear hw4 HK4 t1 t2 t3 t4
                                have cW := HC6.out
                                have cW : W.cell? ⟨b, off + j * 8 + 6, none⟩ = some (.bool og) := cW
                                have g6 := (HSI4.out.kp.cell _ hb (fun h => h)).trans cW
                                have lb := Nat.lt_of_lt_of_le hb HSI4.out.kp.size
                                have hG3 : (ab s3).G = [(x.id, x.rc)] := by rw [HA3.out, aBegin_G, HFPt.out.g]; rfl
                                have hG1 : s3.G.length = 1 := congrArg List.length hG3
                                have HG3 := Lib.hid hG3
                                have HGi := Lib.hid (show (0 : Int) ≤ 0 ∧ (0 : Int) < ((ab s3).G.length : Int) from by rw [hG3]; exact ⟨Int.le_refl _, (by decide : (0 : Int) < 1)⟩)
                                have HNt := Lib.hid hNt
                                have HJB := Lib.hid (show 0 ≤ (j : Int) ∧ (j : Int) ≤ 1099511627776 ∧ (j : Int) + 1 ≤ 1099511627776 ∧ N ≤ 1000000 from by omega)
                                clear hG3
                                go_region_held3 (fun w' => w'.cell? ⟨b, off + j * 8 + 6, none⟩ = some (.bool og)) (first | exact g6 | exact (HSI5.out.kp.cell _ hb (fun h => h)).trans cW | exact (hsi6.kp.cell _ hb (fun h => h)).trans cW)
                                  (first | (go_at_call 36; refine (sgoing_any p _ s3 _ (HSI4.out.calm (Kp.refl (fun _ => False) w4).drew).si HJB.out.2.2.2).mono ?_; rintro e w5 ⟨v5, rfl, ho5, hk5⟩; rw [hG1] at ho5; obtain ⟨a5, c5, rfl⟩ := (own_weaken ho5).slice; have HSI5 := Lib.hid ((HSI4.out.calm (Kp.refl (fun _ => False) w4).drew).calm hk5); clear ho5 hk5) | (go_at_call 32; refine (endA (i := 0) (n := 0) (now := (j : Int)) (good := og) (stays := false) HSI5.out HVB.out.le HJB.out.1 HJB.out.2.1 HJB.out.2.2.2).mono ?_; rintro e w6 ⟨_, hq⟩; obtain ⟨y, s6, hy, hgy, rfl, hsi6, _, hA6, hve⟩ := hq HGi.out))
                                have hyk : (y.id, y.rc) = (x.id, x.rc) := by rw [HG3.out] at hgy; exact (Option.some.inj hgy).symm
                                rw [HA3.out] at hy hA6
                                obtain ⟨_, _, o3, o4, o5⟩ := HFPt.out.step fFS HFRt.out (by omega) (by omega) HF.out q1 (c := C 0) HB.out HI.out hy hyk (show (Int.toNat 0) = 0 from rfl)
                                rw [← hA6, HEQ.out.1, HEQ.out.2] at o4 o5
                                have hc3 : (ab s3).c = (ab s).c := by rw [HA3.out, aBegin_c]
                                have hc6 : (ab s6).c = (ab s).c := by rw [hA6, aEnd_c, aBegin_c]
                                have HCF6 := Lib.hid (show CF s6 false from by unfold CF; rw [show s6.c = (s).c from hc6]; exact HCFt.out)
                                have HFV6 := Lib.hid (HFVt.out.step HJB.out.1 HJB.out.2.2.1 HVB.out (o3 ▸ hve) HCFt.out.1 HCFt.out.2.1)
                                have HFP6 := Lib.hid o4; have HFR6 := Lib.hid o5; have HSI6 := Lib.hid hsi6
                                clear hq hy hgy hsi6 hA6 hve hyk o3 o4 o5 hc3 hc6 g6
                                go_wp2_with fail
                                go_roundg (60 - (j + 1))
                                case measure => have := HKk.out; omega
                                case rel => exact ⟨j + 1, n, m + 1, N, s6, rfl, by omega, rfl, rfl, rfl, by omega, by omega, by have := HNt.out; omega, HSI6.out, by have h1 := HFP6.out; rw [Nat.sub_sub, Nat.sub_sub] at h1; exact h1, HFR6.out, HFV6.out, HCF6.out⟩
                              · have hxF : x.snd ≠ fF := fun e => hA (hxd.trans (HXW.out.2.2.1.1 e))
                                have hxS : x.snd ≠ fS := fun e => hB (hxd.trans (HXW.out.2.2.2.1.1 e))
                                rw [if_neg hxF, if_neg hxS] at hnx
                                have t1 : (n : Int) - m ≤ 1 := by omega
                                have t2 : (m : Int) - n ≤ 1 := by omega
                                have t3 := ne_lit (l := [97]) hA
                                have t4 := ne_lit (l := [98]) hB
                                have t5 := beq_eq_false_iff_ne.2 t3
                                have t6 := beq_eq_false_iff_ne.2 t4
                                have HEQ := Lib.hid (show (if x.snd = fF then 1 else 0) = 0 ∧ (if x.snd = fS then 1 else 0) = 0 from ⟨if_neg hxF, if_neg hxS⟩)
                                have HXD := Lib.hid hxd; clear hxd hnx hxF hxS
                                go_wp2_with fail
                                have HSI4 := Lib.hid (HSI3.out.calm HK4.out)
                                obtain ⟨w4, hw4⟩ : ∃ w4, w4 = w3.alloc (.cells #[.int .i64 x.id, .int .i64 x.rc, .string xd] 66) := ⟨_, rfl⟩
                                rw [← hw4] at HSI4 ⊢
                                clear hw4 HK4 t1 t2 t3 t4
                                have cW := HC6.out
                                have cW : W.cell? ⟨b, off + j * 8 + 6, none⟩ = some (.bool og) := cW
                                have g6 := (HSI4.out.kp.cell _ hb (fun h => h)).trans cW
                                have lb := Nat.lt_of_lt_of_le hb HSI4.out.kp.size
                                have hG3 : (ab s3).G = [(x.id, x.rc)] := by rw [HA3.out, aBegin_G, HFPt.out.g]; rfl
                                have hG1 : s3.G.length = 1 := congrArg List.length hG3
                                have HG3 := Lib.hid hG3
                                have HGi := Lib.hid (show (0 : Int) ≤ 0 ∧ (0 : Int) < ((ab s3).G.length : Int) from by rw [hG3]; exact ⟨Int.le_refl _, (by decide : (0 : Int) < 1)⟩)
                                have HNt := Lib.hid hNt
                                have HJB := Lib.hid (show 0 ≤ (j : Int) ∧ (j : Int) ≤ 1099511627776 ∧ (j : Int) + 1 ≤ 1099511627776 ∧ N ≤ 1000000 from by omega)
                                clear hG3
                                go_region_held3 (fun w' => w'.cell? ⟨b, off + j * 8 + 6, none⟩ = some (.bool og)) (first | exact g6 | exact (HSI5.out.kp.cell _ hb (fun h => h)).trans cW | exact (hsi6.kp.cell _ hb (fun h => h)).trans cW)
                                  (first | (go_at_call 36; refine (sgoing_any p _ s3 _ (HSI4.out.calm (Kp.refl (fun _ => False) w4).drew).si HJB.out.2.2.2).mono ?_; rintro e w5 ⟨v5, rfl, ho5, hk5⟩; rw [hG1] at ho5; obtain ⟨a5, c5, rfl⟩ := (own_weaken ho5).slice; have HSI5 := Lib.hid ((HSI4.out.calm (Kp.refl (fun _ => False) w4).drew).calm hk5); clear ho5 hk5) | (go_at_call 32; refine (endA (i := 0) (n := 0) (now := (j : Int)) (good := og) (stays := false) HSI5.out HVB.out.le HJB.out.1 HJB.out.2.1 HJB.out.2.2.2).mono ?_; rintro e w6 ⟨_, hq⟩; obtain ⟨y, s6, hy, hgy, rfl, hsi6, _, hA6, hve⟩ := hq HGi.out))
                                have hyk : (y.id, y.rc) = (x.id, x.rc) := by rw [HG3.out] at hgy; exact (Option.some.inj hgy).symm
                                rw [HA3.out] at hy hA6
                                obtain ⟨_, _, o3, o4, o5⟩ := HFPt.out.step fFS HFRt.out (by omega) (by omega) HF.out q1 (c := C 0) HB.out HI.out hy hyk (show (Int.toNat 0) = 0 from rfl)
                                rw [← hA6, HEQ.out.1, HEQ.out.2] at o4 o5
                                have hc3 : (ab s3).c = (ab s).c := by rw [HA3.out, aBegin_c]
                                have hc6 : (ab s6).c = (ab s).c := by rw [hA6, aEnd_c, aBegin_c]
                                have HCF6 := Lib.hid (show CF s6 false from by unfold CF; rw [show s6.c = (s).c from hc6]; exact HCFt.out)
                                have HFV6 := Lib.hid (HFVt.out.step HJB.out.1 HJB.out.2.2.1 HVB.out (o3 ▸ hve) HCFt.out.1 HCFt.out.2.1)
                                have HFP6 := Lib.hid o4; have HFR6 := Lib.hid o5; have HSI6 := Lib.hid hsi6
                                clear hq hy hgy hsi6 hA6 hve hyk o3 o4 o5 hc3 hc6 g6
                                go_wp2_with fail
                                go_roundg (60 - (j + 1))
                                case measure => have := HKk.out; omega
                                case rel => exact ⟨j + 1, n, m, N, s6, rfl, by omega, rfl, rfl, rfl, by omega, by omega, by have := HNt.out; omega, HSI6.out, by have h1 := HFP6.out; rw [Nat.sub_sub, Nat.sub_sub] at h1; exact h1, HFR6.out, HFV6.out, HCF6.out⟩
                          · by_cases hs2 : osn = ⟨#[115, 101, 99, 111, 110, 100]⟩
                            · subst hs2
                              have HSIt := Lib.hid (show SI W wr p s N from HSI.out); have HFPt := Lib.hid HFP.out; have HFRt := Lib.hid HFR.out; have HFVt := Lib.hid HFV.out; have HCFt := Lib.hid HCF.out
                              have hNt : N ≤ 368 + j := by omega
                              go_wp2_with fail
                              clear g0 g4
                              refine (pickA (n := (j : Int)) (now := (j : Int)) HSIt.out HFPt.out.inv HFVt.out.tik (C_of (by omega) (by omega)) (by omega)).mono ?_; rintro e w3 ⟨_, hq⟩
                              have hf := HFVt.out.fr (show (j : Int) ≤ 1099511627776 by omega)
                              obtain ⟨x, s3, hbe, hi, rfl, hsi3, _, hA3, hvb, _⟩ := hq (HFPt.out.any hf (by omega) (by omega))
                              have HF := Lib.hid hf; have HB := Lib.hid hbe; have HI := Lib.hid hi; have HSI3 := Lib.hid hsi3; have HA3 := Lib.hid hA3; have HVB := Lib.hid hvb
                              have HXW := Lib.hid (HFPt.out.w x hbe.mem)
                              have HK4 := Lib.hid (show Kp (fun _ => False) w3 (w3.alloc (.cells #[.int .i64 x.id, .int .i64 x.rc, .string x.dom] 66)) from (by repeat (first | exact Kp.refl _ _ | apply Kp.drew | apply Kp.drewN | refine Kp.setCell ?_ _ _ (Or.inl rfl) | apply Kp.alloc)))
                              clear hq hf hbe hi hsi3 hA3 hvb
                              obtain ⟨xd, hxd⟩ : ∃ xd, xd = x.dom := ⟨_, rfl⟩
                              rw [← hxd]
                              rw [← hxd] at HK4
                              have hnx := HFPt.out.next fFS HFRt.out (by omega) (by omega) HF.out q1 HB.out HI.out
                              by_cases hA : xd = ⟨#[97]⟩
                              · subst hA
                                have hxF : x.snd = fF := HXW.out.2.2.1.2 hxd.symm
                                have hxS : x.snd ≠ fS := fun e => fFS (hxF.symm.trans e)
                                rw [if_pos hxF, if_neg hxS] at hnx
                                have t1 : (n : Int) + 1 - m ≤ 1 := by omega
                                have t2 : (m : Int) - (n + 1) ≤ 1 := by omega
                                have en : IntKind.i64.wrap ((n : Int) + 1) = ((n + 1 : Nat) : Int) := by rw [IntWalk.i64_in _ (by omega)]; omega
                                have t3 : ((n + 1 : Nat) : Int) - m ≤ 1 := by omega
                                have t4 : (m : Int) - ((n + 1 : Nat) : Int) ≤ 1 := by omega
                                have HEQ := Lib.hid (show (if x.snd = fF then 1 else 0) = 1 ∧ (if x.snd = fS then 1 else 0) = 0 from ⟨if_pos hxF, if_neg hxS⟩)
                                have HXD := Lib.hid hxd; clear hxd hnx hxF hxS
                                go_wp2_with fail
                                have HSI4 := Lib.hid (HSI3.out.calm HK4.out)
                                obtain ⟨w4, hw4⟩ : ∃ w4, w4 = w3.alloc (.cells #[.int .i64 x.id, .int .i64 x.rc, .string ⟨#[97]⟩] 66) := ⟨_, rfl⟩
                                rw [← hw4] at HSI4 ⊢
                                clear hw4 HK4 t1 t2 t3 t4
                                have cW := HC6.out
                                have cW : W.cell? ⟨b, off + j * 8 + 6, none⟩ = some (.bool og) := cW
                                have g6 := (HSI4.out.kp.cell _ hb (fun h => h)).trans cW
                                have lb := Nat.lt_of_lt_of_le hb HSI4.out.kp.size
                                have hG3 : (ab s3).G = [(x.id, x.rc)] := by rw [HA3.out, aBegin_G, HFPt.out.g]; rfl
                                have hG1 : s3.G.length = 1 := congrArg List.length hG3
                                have HG3 := Lib.hid hG3
                                have HGi := Lib.hid (show (0 : Int) ≤ 0 ∧ (0 : Int) < ((ab s3).G.length : Int) from by rw [hG3]; exact ⟨Int.le_refl _, (by decide : (0 : Int) < 1)⟩)
                                have HNt := Lib.hid hNt
                                have HJB := Lib.hid (show 0 ≤ (j : Int) ∧ (j : Int) ≤ 1099511627776 ∧ (j : Int) + 1 ≤ 1099511627776 ∧ N ≤ 1000000 from by omega)
                                clear hG3
                                go_region_held3 (fun w' => w'.cell? ⟨b, off + j * 8 + 6, none⟩ = some (.bool og)) (first | exact g6 | exact (HSI5.out.kp.cell _ hb (fun h => h)).trans cW | exact (hsi6.kp.cell _ hb (fun h => h)).trans cW)
                                  (first | (go_at_call 36; refine (sgoing_any p _ s3 _ (HSI4.out.calm (Kp.refl (fun _ => False) w4).drew).si HJB.out.2.2.2).mono ?_; rintro e w5 ⟨v5, rfl, ho5, hk5⟩; rw [hG1] at ho5; obtain ⟨a5, c5, rfl⟩ := (own_weaken ho5).slice; have HSI5 := Lib.hid ((HSI4.out.calm (Kp.refl (fun _ => False) w4).drew).calm hk5); clear ho5 hk5) | (go_at_call 32; refine (endA (i := 0) (n := 0) (now := (j : Int)) (good := og) (stays := false) HSI5.out HVB.out.le HJB.out.1 HJB.out.2.1 HJB.out.2.2.2).mono ?_; rintro e w6 ⟨_, hq⟩; obtain ⟨y, s6, hy, hgy, rfl, hsi6, _, hA6, hve⟩ := hq HGi.out))
                                have hyk : (y.id, y.rc) = (x.id, x.rc) := by rw [HG3.out] at hgy; exact (Option.some.inj hgy).symm
                                rw [HA3.out] at hy hA6
                                obtain ⟨_, _, o3, o4, o5⟩ := HFPt.out.step fFS HFRt.out (by omega) (by omega) HF.out q1 (c := C 0) HB.out HI.out hy hyk (show (Int.toNat 0) = 0 from rfl)
                                rw [← hA6, HEQ.out.1, HEQ.out.2] at o4 o5
                                have hc3 : (ab s3).c = (ab s).c := by rw [HA3.out, aBegin_c]
                                have hc6 : (ab s6).c = (ab s).c := by rw [hA6, aEnd_c, aBegin_c]
                                have HCF6 := Lib.hid (show CF s6 false from by unfold CF; rw [show s6.c = (s).c from hc6]; exact HCFt.out)
                                have HFV6 := Lib.hid (HFVt.out.step HJB.out.1 HJB.out.2.2.1 HVB.out (o3 ▸ hve) HCFt.out.1 HCFt.out.2.1)
                                have HFP6 := Lib.hid o4; have HFR6 := Lib.hid o5; have HSI6 := Lib.hid hsi6
                                clear hq hy hgy hsi6 hA6 hve hyk o3 o4 o5 hc3 hc6 g6
                                go_wp2_with fail
                                go_roundg (60 - (j + 1))
                                case measure => have := HKk.out; omega
                                case rel => exact ⟨j + 1, n + 1, m, N, s6, rfl, by omega, rfl, rfl, rfl, by omega, by omega, by have := HNt.out; omega, HSI6.out, by have h1 := HFP6.out; rw [Nat.sub_sub, Nat.sub_sub] at h1; exact h1, HFR6.out, HFV6.out, HCF6.out⟩
                              · by_cases hB : xd = ⟨#[98]⟩
                                · subst hB
                                  have hxS : x.snd = fS := HXW.out.2.2.2.1.2 hxd.symm
                                  have hxF : x.snd ≠ fF := fun e => fFS (e.symm.trans hxS)
                                  rw [if_neg hxF, if_pos hxS] at hnx
                                  have t1 : (n : Int) - (m + 1) ≤ 1 := by omega
                                  have t2 : (m : Int) + 1 - n ≤ 1 := by omega
                                  have en : IntKind.i64.wrap ((m : Int) + 1) = ((m + 1 : Nat) : Int) := by rw [IntWalk.i64_in _ (by omega)]; omega
                                  have t3 : (n : Int) - ((m + 1 : Nat) : Int) ≤ 1 := by omega
                                  have t4 : ((m + 1 : Nat) : Int) - (n : Int) ≤ 1 := by omega
                                  have HEQ := Lib.hid (show (if x.snd = fF then 1 else 0) = 0 ∧ (if x.snd = fS then 1 else 0) = 1 from ⟨if_neg hxF, if_pos hxS⟩)
                                  have HXD := Lib.hid hxd; clear hxd hnx hxF hxS hA
                                  go_wp2_with fail
                                  have HSI4 := Lib.hid (HSI3.out.calm HK4.out)
                                  obtain ⟨w4, hw4⟩ : ∃ w4, w4 = w3.alloc (.cells #[.int .i64 x.id, .int .i64 x.rc, .string ⟨#[98]⟩] 66) := ⟨_, rfl⟩
                                  rw [← hw4] at HSI4 ⊢
                                  clear hw4 HK4 t1 t2 t3 t4
                                  have cW := HC6.out
                                  have cW : W.cell? ⟨b, off + j * 8 + 6, none⟩ = some (.bool og) := cW
                                  have g6 := (HSI4.out.kp.cell _ hb (fun h => h)).trans cW
                                  have lb := Nat.lt_of_lt_of_le hb HSI4.out.kp.size
                                  have hG3 : (ab s3).G = [(x.id, x.rc)] := by rw [HA3.out, aBegin_G, HFPt.out.g]; rfl
                                  have hG1 : s3.G.length = 1 := congrArg List.length hG3
                                  have HG3 := Lib.hid hG3
                                  have HGi := Lib.hid (show (0 : Int) ≤ 0 ∧ (0 : Int) < ((ab s3).G.length : Int) from by rw [hG3]; exact ⟨Int.le_refl _, (by decide : (0 : Int) < 1)⟩)
                                  have HNt := Lib.hid hNt
                                  have HJB := Lib.hid (show 0 ≤ (j : Int) ∧ (j : Int) ≤ 1099511627776 ∧ (j : Int) + 1 ≤ 1099511627776 ∧ N ≤ 1000000 from by omega)
                                  clear hG3
                                  go_region_held3 (fun w' => w'.cell? ⟨b, off + j * 8 + 6, none⟩ = some (.bool og)) (first | exact g6 | exact (HSI5.out.kp.cell _ hb (fun h => h)).trans cW | exact (hsi6.kp.cell _ hb (fun h => h)).trans cW)
                                    (first | (go_at_call 36; refine (sgoing_any p _ s3 _ (HSI4.out.calm (Kp.refl (fun _ => False) w4).drew).si HJB.out.2.2.2).mono ?_; rintro e w5 ⟨v5, rfl, ho5, hk5⟩; rw [hG1] at ho5; obtain ⟨a5, c5, rfl⟩ := (own_weaken ho5).slice; have HSI5 := Lib.hid ((HSI4.out.calm (Kp.refl (fun _ => False) w4).drew).calm hk5); clear ho5 hk5) | (go_at_call 32; refine (endA (i := 0) (n := 0) (now := (j : Int)) (good := og) (stays := false) HSI5.out HVB.out.le HJB.out.1 HJB.out.2.1 HJB.out.2.2.2).mono ?_; rintro e w6 ⟨_, hq⟩; obtain ⟨y, s6, hy, hgy, rfl, hsi6, _, hA6, hve⟩ := hq HGi.out))
                                  have hyk : (y.id, y.rc) = (x.id, x.rc) := by rw [HG3.out] at hgy; exact (Option.some.inj hgy).symm
                                  rw [HA3.out] at hy hA6
                                  obtain ⟨_, _, o3, o4, o5⟩ := HFPt.out.step fFS HFRt.out (by omega) (by omega) HF.out q1 (c := C 0) HB.out HI.out hy hyk (show (Int.toNat 0) = 0 from rfl)
                                  rw [← hA6, HEQ.out.1, HEQ.out.2] at o4 o5
                                  have hc3 : (ab s3).c = (ab s).c := by rw [HA3.out, aBegin_c]
                                  have hc6 : (ab s6).c = (ab s).c := by rw [hA6, aEnd_c, aBegin_c]
                                  have HCF6 := Lib.hid (show CF s6 false from by unfold CF; rw [show s6.c = (s).c from hc6]; exact HCFt.out)
                                  have HFV6 := Lib.hid (HFVt.out.step HJB.out.1 HJB.out.2.2.1 HVB.out (o3 ▸ hve) HCFt.out.1 HCFt.out.2.1)
                                  have HFP6 := Lib.hid o4; have HFR6 := Lib.hid o5; have HSI6 := Lib.hid hsi6
                                  clear hq hy hgy hsi6 hA6 hve hyk o3 o4 o5 hc3 hc6 g6
                                  go_wp2_with fail
                                  go_roundg (60 - (j + 1))
                                  case measure => have := HKk.out; omega
                                  case rel => exact ⟨j + 1, n, m + 1, N, s6, rfl, by omega, rfl, rfl, rfl, by omega, by omega, by have := HNt.out; omega, HSI6.out, by have h1 := HFP6.out; rw [Nat.sub_sub, Nat.sub_sub] at h1; exact h1, HFR6.out, HFV6.out, HCF6.out⟩
                                · have hxF : x.snd ≠ fF := fun e => hA (hxd.trans (HXW.out.2.2.1.1 e))
                                  have hxS : x.snd ≠ fS := fun e => hB (hxd.trans (HXW.out.2.2.2.1.1 e))
                                  rw [if_neg hxF, if_neg hxS] at hnx
                                  have t1 : (n : Int) - m ≤ 1 := by omega
                                  have t2 : (m : Int) - n ≤ 1 := by omega
                                  have t3 := ne_lit (l := [97]) hA
                                  have t4 := ne_lit (l := [98]) hB
                                  have t5 := beq_eq_false_iff_ne.2 t3
                                  have t6 := beq_eq_false_iff_ne.2 t4
                                  have HEQ := Lib.hid (show (if x.snd = fF then 1 else 0) = 0 ∧ (if x.snd = fS then 1 else 0) = 0 from ⟨if_neg hxF, if_neg hxS⟩)
                                  have HXD := Lib.hid hxd; clear hxd hnx hxF hxS
                                  go_wp2_with fail
                                  have HSI4 := Lib.hid (HSI3.out.calm HK4.out)
                                  obtain ⟨w4, hw4⟩ : ∃ w4, w4 = w3.alloc (.cells #[.int .i64 x.id, .int .i64 x.rc, .string xd] 66) := ⟨_, rfl⟩
                                  rw [← hw4] at HSI4 ⊢
                                  clear hw4 HK4 t1 t2 t3 t4
                                  have cW := HC6.out
                                  have cW : W.cell? ⟨b, off + j * 8 + 6, none⟩ = some (.bool og) := cW
                                  have g6 := (HSI4.out.kp.cell _ hb (fun h => h)).trans cW
                                  have lb := Nat.lt_of_lt_of_le hb HSI4.out.kp.size
                                  have hG3 : (ab s3).G = [(x.id, x.rc)] := by rw [HA3.out, aBegin_G, HFPt.out.g]; rfl
                                  have hG1 : s3.G.length = 1 := congrArg List.length hG3
                                  have HG3 := Lib.hid hG3
                                  have HGi := Lib.hid (show (0 : Int) ≤ 0 ∧ (0 : Int) < ((ab s3).G.length : Int) from by rw [hG3]; exact ⟨Int.le_refl _, (by decide : (0 : Int) < 1)⟩)
                                  have HNt := Lib.hid hNt
                                  have HJB := Lib.hid (show 0 ≤ (j : Int) ∧ (j : Int) ≤ 1099511627776 ∧ (j : Int) + 1 ≤ 1099511627776 ∧ N ≤ 1000000 from by omega)
                                  clear hG3
                                  go_region_held3 (fun w' => w'.cell? ⟨b, off + j * 8 + 6, none⟩ = some (.bool og)) (first | exact g6 | exact (HSI5.out.kp.cell _ hb (fun h => h)).trans cW | exact (hsi6.kp.cell _ hb (fun h => h)).trans cW)
                                    (first | (go_at_call 36; refine (sgoing_any p _ s3 _ (HSI4.out.calm (Kp.refl (fun _ => False) w4).drew).si HJB.out.2.2.2).mono ?_; rintro e w5 ⟨v5, rfl, ho5, hk5⟩; rw [hG1] at ho5; obtain ⟨a5, c5, rfl⟩ := (own_weaken ho5).slice; have HSI5 := Lib.hid ((HSI4.out.calm (Kp.refl (fun _ => False) w4).drew).calm hk5); clear ho5 hk5) | (go_at_call 32; refine (endA (i := 0) (n := 0) (now := (j : Int)) (good := og) (stays := false) HSI5.out HVB.out.le HJB.out.1 HJB.out.2.1 HJB.out.2.2.2).mono ?_; rintro e w6 ⟨_, hq⟩; obtain ⟨y, s6, hy, hgy, rfl, hsi6, _, hA6, hve⟩ := hq HGi.out))
                                  have hyk : (y.id, y.rc) = (x.id, x.rc) := by rw [HG3.out] at hgy; exact (Option.some.inj hgy).symm
                                  rw [HA3.out] at hy hA6
                                  obtain ⟨_, _, o3, o4, o5⟩ := HFPt.out.step fFS HFRt.out (by omega) (by omega) HF.out q1 (c := C 0) HB.out HI.out hy hyk (show (Int.toNat 0) = 0 from rfl)
                                  rw [← hA6, HEQ.out.1, HEQ.out.2] at o4 o5
                                  have hc3 : (ab s3).c = (ab s).c := by rw [HA3.out, aBegin_c]
                                  have hc6 : (ab s6).c = (ab s).c := by rw [hA6, aEnd_c, aBegin_c]
                                  have HCF6 := Lib.hid (show CF s6 false from by unfold CF; rw [show s6.c = (s).c from hc6]; exact HCFt.out)
                                  have HFV6 := Lib.hid (HFVt.out.step HJB.out.1 HJB.out.2.2.1 HVB.out (o3 ▸ hve) HCFt.out.1 HCFt.out.2.1)
                                  have HFP6 := Lib.hid o4; have HFR6 := Lib.hid o5; have HSI6 := Lib.hid hsi6
                                  clear hq hy hgy hsi6 hA6 hve hyk o3 o4 o5 hc3 hc6 g6
                                  go_wp2_with fail
                                  go_roundg (60 - (j + 1))
                                  case measure => have := HKk.out; omega
                                  case rel => exact ⟨j + 1, n, m, N, s6, rfl, by omega, rfl, rfl, rfl, by omega, by omega, by have := HNt.out; omega, HSI6.out, by have h1 := HFP6.out; rw [Nat.sub_sub, Nat.sub_sub] at h1; exact h1, HFR6.out, HFV6.out, HCF6.out⟩
                            · have z1 := ne_lit (l := [102, 105, 114, 115, 116]) hs1
                              have z2 := ne_lit (l := [115, 101, 99, 111, 110, 100]) hs2
                              have z3 := beq_eq_false_iff_ne.2 z1
                              have z4 := beq_eq_false_iff_ne.2 z2
                              go_wp2_with fail
                              refine (putX (9000 + (j : Int)) 0 0 osn HSI.out HFP.out HFR.out HCF.out hs1 hs2 (WalkArith.wf_i64 (by omega)) (by decide) (by omega)).mono ?_; rintro e wp ⟨r, N2, s2, rfl, hN2, hsi2, hfp2, hfr2, hP2, hc2⟩
                              have HSIt := Lib.hid hsi2; have HFPt := Lib.hid hfp2; have HFRt := Lib.hid hfr2
                              have HFVt := Lib.hid (HFV.out.of hP2 hc2)
                              have HCFt := Lib.hid (show CF s2 false from by unfold CF; rw [hc2]; exact HCF.out)
                              have hNt : N2 ≤ 368 + j := by omega
                              clear hsi2 hfp2 hfr2 hP2 hc2 z1 z2 z3 z4 hs1 hs2
                              go_wp2_with fail
                              clear g0 g4
                              refine (pickA (n := (j : Int)) (now := (j : Int)) HSIt.out HFPt.out.inv HFVt.out.tik (C_of (by omega) (by omega)) (by omega)).mono ?_; rintro e w3 ⟨_, hq⟩
                              have hf := HFVt.out.fr (show (j : Int) ≤ 1099511627776 by omega)
                              obtain ⟨x, s3, hbe, hi, rfl, hsi3, _, hA3, hvb, _⟩ := hq (HFPt.out.any hf (by omega) (by omega))
                              have HF := Lib.hid hf; have HB := Lib.hid hbe; have HI := Lib.hid hi; have HSI3 := Lib.hid hsi3; have HA3 := Lib.hid hA3; have HVB := Lib.hid hvb
                              have HXW := Lib.hid (HFPt.out.w x hbe.mem)
                              have HK4 := Lib.hid (show Kp (fun _ => False) w3 (w3.alloc (.cells #[.int .i64 x.id, .int .i64 x.rc, .string x.dom] 66)) from (by repeat (first | exact Kp.refl _ _ | apply Kp.drew | apply Kp.drewN | refine Kp.setCell ?_ _ _ (Or.inl rfl) | apply Kp.alloc)))
                              clear hq hf hbe hi hsi3 hA3 hvb
                              obtain ⟨xd, hxd⟩ : ∃ xd, xd = x.dom := ⟨_, rfl⟩
                              rw [← hxd]
                              rw [← hxd] at HK4
                              have hnx := HFPt.out.next fFS HFRt.out (by omega) (by omega) HF.out q1 HB.out HI.out
                              by_cases hA : xd = ⟨#[97]⟩
                              · subst hA
                                have hxF : x.snd = fF := HXW.out.2.2.1.2 hxd.symm
                                have hxS : x.snd ≠ fS := fun e => fFS (hxF.symm.trans e)
                                rw [if_pos hxF, if_neg hxS] at hnx
                                have t1 : (n : Int) + 1 - m ≤ 1 := by omega
                                have t2 : (m : Int) - (n + 1) ≤ 1 := by omega
                                have en : IntKind.i64.wrap ((n : Int) + 1) = ((n + 1 : Nat) : Int) := by rw [IntWalk.i64_in _ (by omega)]; omega
                                have t3 : ((n + 1 : Nat) : Int) - m ≤ 1 := by omega
                                have t4 : (m : Int) - ((n + 1 : Nat) : Int) ≤ 1 := by omega
                                have HEQ := Lib.hid (show (if x.snd = fF then 1 else 0) = 1 ∧ (if x.snd = fS then 1 else 0) = 0 from ⟨if_pos hxF, if_neg hxS⟩)
                                have HXD := Lib.hid hxd; clear hxd hnx hxF hxS
                                go_wp2_with fail
                                have HSI4 := Lib.hid (HSI3.out.calm HK4.out)
                                obtain ⟨w4, hw4⟩ : ∃ w4, w4 = w3.alloc (.cells #[.int .i64 x.id, .int .i64 x.rc, .string ⟨#[97]⟩] 66) := ⟨_, rfl⟩
                                rw [← hw4] at HSI4 ⊢
                                clear hw4 HK4 t1 t2 t3 t4
                                have cW := HC6.out
                                have cW : W.cell? ⟨b, off + j * 8 + 6, none⟩ = some (.bool og) := cW
                                have g6 := (HSI4.out.kp.cell _ hb (fun h => h)).trans cW
                                have lb := Nat.lt_of_lt_of_le hb HSI4.out.kp.size
                                have hG3 : (ab s3).G = [(x.id, x.rc)] := by rw [HA3.out, aBegin_G, HFPt.out.g]; rfl
                                have hG1 : s3.G.length = 1 := congrArg List.length hG3
                                have HG3 := Lib.hid hG3
                                have HGi := Lib.hid (show (0 : Int) ≤ 0 ∧ (0 : Int) < ((ab s3).G.length : Int) from by rw [hG3]; exact ⟨Int.le_refl _, (by decide : (0 : Int) < 1)⟩)
                                have HNt := Lib.hid hNt
                                have HJB := Lib.hid (show 0 ≤ (j : Int) ∧ (j : Int) ≤ 1099511627776 ∧ (j : Int) + 1 ≤ 1099511627776 ∧ N2 ≤ 1000000 from by omega)
                                clear hG3
                                go_region_held3 (fun w' => w'.cell? ⟨b, off + j * 8 + 6, none⟩ = some (.bool og)) (first | exact g6 | exact (HSI5.out.kp.cell _ hb (fun h => h)).trans cW | exact (hsi6.kp.cell _ hb (fun h => h)).trans cW)
                                  (first | (go_at_call 36; refine (sgoing_any p _ s3 _ (HSI4.out.calm (Kp.refl (fun _ => False) w4).drew).si HJB.out.2.2.2).mono ?_; rintro e w5 ⟨v5, rfl, ho5, hk5⟩; rw [hG1] at ho5; obtain ⟨a5, c5, rfl⟩ := (own_weaken ho5).slice; have HSI5 := Lib.hid ((HSI4.out.calm (Kp.refl (fun _ => False) w4).drew).calm hk5); clear ho5 hk5) | (go_at_call 32; refine (endA (i := 0) (n := 0) (now := (j : Int)) (good := og) (stays := false) HSI5.out HVB.out.le HJB.out.1 HJB.out.2.1 HJB.out.2.2.2).mono ?_; rintro e w6 ⟨_, hq⟩; obtain ⟨y, s6, hy, hgy, rfl, hsi6, _, hA6, hve⟩ := hq HGi.out))
                                have hyk : (y.id, y.rc) = (x.id, x.rc) := by rw [HG3.out] at hgy; exact (Option.some.inj hgy).symm
                                rw [HA3.out] at hy hA6
                                obtain ⟨_, _, o3, o4, o5⟩ := HFPt.out.step fFS HFRt.out (by omega) (by omega) HF.out q1 (c := C 0) HB.out HI.out hy hyk (show (Int.toNat 0) = 0 from rfl)
                                rw [← hA6, HEQ.out.1, HEQ.out.2] at o4 o5
                                have hc3 : (ab s3).c = (ab s2).c := by rw [HA3.out, aBegin_c]
                                have hc6 : (ab s6).c = (ab s2).c := by rw [hA6, aEnd_c, aBegin_c]
                                have HCF6 := Lib.hid (show CF s6 false from by unfold CF; rw [show s6.c = (s2).c from hc6]; exact HCFt.out)
                                have HFV6 := Lib.hid (HFVt.out.step HJB.out.1 HJB.out.2.2.1 HVB.out (o3 ▸ hve) HCFt.out.1 HCFt.out.2.1)
                                have HFP6 := Lib.hid o4; have HFR6 := Lib.hid o5; have HSI6 := Lib.hid hsi6
                                clear hq hy hgy hsi6 hA6 hve hyk o3 o4 o5 hc3 hc6 g6
                                go_wp2_with fail
                                go_roundg (60 - (j + 1))
                                case measure => have := HKk.out; omega
                                case rel => exact ⟨j + 1, n + 1, m, N2, s6, rfl, by omega, rfl, rfl, rfl, by omega, by omega, by have := HNt.out; omega, HSI6.out, by have h1 := HFP6.out; rw [Nat.sub_sub, Nat.sub_sub] at h1; exact h1, HFR6.out, HFV6.out, HCF6.out⟩
                              · by_cases hB : xd = ⟨#[98]⟩
                                · subst hB
                                  have hxS : x.snd = fS := HXW.out.2.2.2.1.2 hxd.symm
                                  have hxF : x.snd ≠ fF := fun e => fFS (e.symm.trans hxS)
                                  rw [if_neg hxF, if_pos hxS] at hnx
                                  have t1 : (n : Int) - (m + 1) ≤ 1 := by omega
                                  have t2 : (m : Int) + 1 - n ≤ 1 := by omega
                                  have en : IntKind.i64.wrap ((m : Int) + 1) = ((m + 1 : Nat) : Int) := by rw [IntWalk.i64_in _ (by omega)]; omega
                                  have t3 : (n : Int) - ((m + 1 : Nat) : Int) ≤ 1 := by omega
                                  have t4 : ((m + 1 : Nat) : Int) - (n : Int) ≤ 1 := by omega
                                  have HEQ := Lib.hid (show (if x.snd = fF then 1 else 0) = 0 ∧ (if x.snd = fS then 1 else 0) = 1 from ⟨if_neg hxF, if_pos hxS⟩)
                                  have HXD := Lib.hid hxd; clear hxd hnx hxF hxS hA
                                  go_wp2_with fail
                                  have HSI4 := Lib.hid (HSI3.out.calm HK4.out)
                                  obtain ⟨w4, hw4⟩ : ∃ w4, w4 = w3.alloc (.cells #[.int .i64 x.id, .int .i64 x.rc, .string ⟨#[98]⟩] 66) := ⟨_, rfl⟩
                                  rw [← hw4] at HSI4 ⊢
                                  clear hw4 HK4 t1 t2 t3 t4
                                  have cW := HC6.out
                                  have cW : W.cell? ⟨b, off + j * 8 + 6, none⟩ = some (.bool og) := cW
                                  have g6 := (HSI4.out.kp.cell _ hb (fun h => h)).trans cW
                                  have lb := Nat.lt_of_lt_of_le hb HSI4.out.kp.size
                                  have hG3 : (ab s3).G = [(x.id, x.rc)] := by rw [HA3.out, aBegin_G, HFPt.out.g]; rfl
                                  have hG1 : s3.G.length = 1 := congrArg List.length hG3
                                  have HG3 := Lib.hid hG3
                                  have HGi := Lib.hid (show (0 : Int) ≤ 0 ∧ (0 : Int) < ((ab s3).G.length : Int) from by rw [hG3]; exact ⟨Int.le_refl _, (by decide : (0 : Int) < 1)⟩)
                                  have HNt := Lib.hid hNt
                                  have HJB := Lib.hid (show 0 ≤ (j : Int) ∧ (j : Int) ≤ 1099511627776 ∧ (j : Int) + 1 ≤ 1099511627776 ∧ N2 ≤ 1000000 from by omega)
                                  clear hG3
                                  go_region_held3 (fun w' => w'.cell? ⟨b, off + j * 8 + 6, none⟩ = some (.bool og)) (first | exact g6 | exact (HSI5.out.kp.cell _ hb (fun h => h)).trans cW | exact (hsi6.kp.cell _ hb (fun h => h)).trans cW)
                                    (first | (go_at_call 36; refine (sgoing_any p _ s3 _ (HSI4.out.calm (Kp.refl (fun _ => False) w4).drew).si HJB.out.2.2.2).mono ?_; rintro e w5 ⟨v5, rfl, ho5, hk5⟩; rw [hG1] at ho5; obtain ⟨a5, c5, rfl⟩ := (own_weaken ho5).slice; have HSI5 := Lib.hid ((HSI4.out.calm (Kp.refl (fun _ => False) w4).drew).calm hk5); clear ho5 hk5) | (go_at_call 32; refine (endA (i := 0) (n := 0) (now := (j : Int)) (good := og) (stays := false) HSI5.out HVB.out.le HJB.out.1 HJB.out.2.1 HJB.out.2.2.2).mono ?_; rintro e w6 ⟨_, hq⟩; obtain ⟨y, s6, hy, hgy, rfl, hsi6, _, hA6, hve⟩ := hq HGi.out))
                                  have hyk : (y.id, y.rc) = (x.id, x.rc) := by rw [HG3.out] at hgy; exact (Option.some.inj hgy).symm
                                  rw [HA3.out] at hy hA6
                                  obtain ⟨_, _, o3, o4, o5⟩ := HFPt.out.step fFS HFRt.out (by omega) (by omega) HF.out q1 (c := C 0) HB.out HI.out hy hyk (show (Int.toNat 0) = 0 from rfl)
                                  rw [← hA6, HEQ.out.1, HEQ.out.2] at o4 o5
                                  have hc3 : (ab s3).c = (ab s2).c := by rw [HA3.out, aBegin_c]
                                  have hc6 : (ab s6).c = (ab s2).c := by rw [hA6, aEnd_c, aBegin_c]
                                  have HCF6 := Lib.hid (show CF s6 false from by unfold CF; rw [show s6.c = (s2).c from hc6]; exact HCFt.out)
                                  have HFV6 := Lib.hid (HFVt.out.step HJB.out.1 HJB.out.2.2.1 HVB.out (o3 ▸ hve) HCFt.out.1 HCFt.out.2.1)
                                  have HFP6 := Lib.hid o4; have HFR6 := Lib.hid o5; have HSI6 := Lib.hid hsi6
                                  clear hq hy hgy hsi6 hA6 hve hyk o3 o4 o5 hc3 hc6 g6
                                  go_wp2_with fail
                                  go_roundg (60 - (j + 1))
                                  case measure => have := HKk.out; omega
                                  case rel => exact ⟨j + 1, n, m + 1, N2, s6, rfl, by omega, rfl, rfl, rfl, by omega, by omega, by have := HNt.out; omega, HSI6.out, by have h1 := HFP6.out; rw [Nat.sub_sub, Nat.sub_sub] at h1; exact h1, HFR6.out, HFV6.out, HCF6.out⟩
                                · have hxF : x.snd ≠ fF := fun e => hA (hxd.trans (HXW.out.2.2.1.1 e))
                                  have hxS : x.snd ≠ fS := fun e => hB (hxd.trans (HXW.out.2.2.2.1.1 e))
                                  rw [if_neg hxF, if_neg hxS] at hnx
                                  have t1 : (n : Int) - m ≤ 1 := by omega
                                  have t2 : (m : Int) - n ≤ 1 := by omega
                                  have t3 := ne_lit (l := [97]) hA
                                  have t4 := ne_lit (l := [98]) hB
                                  have t5 := beq_eq_false_iff_ne.2 t3
                                  have t6 := beq_eq_false_iff_ne.2 t4
                                  have HEQ := Lib.hid (show (if x.snd = fF then 1 else 0) = 0 ∧ (if x.snd = fS then 1 else 0) = 0 from ⟨if_neg hxF, if_neg hxS⟩)
                                  have HXD := Lib.hid hxd; clear hxd hnx hxF hxS
                                  go_wp2_with fail
                                  have HSI4 := Lib.hid (HSI3.out.calm HK4.out)
                                  obtain ⟨w4, hw4⟩ : ∃ w4, w4 = w3.alloc (.cells #[.int .i64 x.id, .int .i64 x.rc, .string xd] 66) := ⟨_, rfl⟩
                                  rw [← hw4] at HSI4 ⊢
                                  clear hw4 HK4 t1 t2 t3 t4
                                  have cW := HC6.out
                                  have cW : W.cell? ⟨b, off + j * 8 + 6, none⟩ = some (.bool og) := cW
                                  have g6 := (HSI4.out.kp.cell _ hb (fun h => h)).trans cW
                                  have lb := Nat.lt_of_lt_of_le hb HSI4.out.kp.size
                                  have hG3 : (ab s3).G = [(x.id, x.rc)] := by rw [HA3.out, aBegin_G, HFPt.out.g]; rfl
                                  have hG1 : s3.G.length = 1 := congrArg List.length hG3
                                  have HG3 := Lib.hid hG3
                                  have HGi := Lib.hid (show (0 : Int) ≤ 0 ∧ (0 : Int) < ((ab s3).G.length : Int) from by rw [hG3]; exact ⟨Int.le_refl _, (by decide : (0 : Int) < 1)⟩)
                                  have HNt := Lib.hid hNt
                                  have HJB := Lib.hid (show 0 ≤ (j : Int) ∧ (j : Int) ≤ 1099511627776 ∧ (j : Int) + 1 ≤ 1099511627776 ∧ N2 ≤ 1000000 from by omega)
                                  clear hG3
                                  go_region_held3 (fun w' => w'.cell? ⟨b, off + j * 8 + 6, none⟩ = some (.bool og)) (first | exact g6 | exact (HSI5.out.kp.cell _ hb (fun h => h)).trans cW | exact (hsi6.kp.cell _ hb (fun h => h)).trans cW)
                                    (first | (go_at_call 36; refine (sgoing_any p _ s3 _ (HSI4.out.calm (Kp.refl (fun _ => False) w4).drew).si HJB.out.2.2.2).mono ?_; rintro e w5 ⟨v5, rfl, ho5, hk5⟩; rw [hG1] at ho5; obtain ⟨a5, c5, rfl⟩ := (own_weaken ho5).slice; have HSI5 := Lib.hid ((HSI4.out.calm (Kp.refl (fun _ => False) w4).drew).calm hk5); clear ho5 hk5) | (go_at_call 32; refine (endA (i := 0) (n := 0) (now := (j : Int)) (good := og) (stays := false) HSI5.out HVB.out.le HJB.out.1 HJB.out.2.1 HJB.out.2.2.2).mono ?_; rintro e w6 ⟨_, hq⟩; obtain ⟨y, s6, hy, hgy, rfl, hsi6, _, hA6, hve⟩ := hq HGi.out))
                                  have hyk : (y.id, y.rc) = (x.id, x.rc) := by rw [HG3.out] at hgy; exact (Option.some.inj hgy).symm
                                  rw [HA3.out] at hy hA6
                                  obtain ⟨_, _, o3, o4, o5⟩ := HFPt.out.step fFS HFRt.out (by omega) (by omega) HF.out q1 (c := C 0) HB.out HI.out hy hyk (show (Int.toNat 0) = 0 from rfl)
                                  rw [← hA6, HEQ.out.1, HEQ.out.2] at o4 o5
                                  have hc3 : (ab s3).c = (ab s2).c := by rw [HA3.out, aBegin_c]
                                  have hc6 : (ab s6).c = (ab s2).c := by rw [hA6, aEnd_c, aBegin_c]
                                  have HCF6 := Lib.hid (show CF s6 false from by unfold CF; rw [show s6.c = (s2).c from hc6]; exact HCFt.out)
                                  have HFV6 := Lib.hid (HFVt.out.step HJB.out.1 HJB.out.2.2.1 HVB.out (o3 ▸ hve) HCFt.out.1 HCFt.out.2.1)
                                  have HFP6 := Lib.hid o4; have HFR6 := Lib.hid o5; have HSI6 := Lib.hid hsi6
                                  clear hq hy hgy hsi6 hA6 hve hyk o3 o4 o5 hc3 hc6 g6
                                  go_wp2_with fail
                                  go_roundg (60 - (j + 1))
                                  case measure => have := HKk.out; omega
                                  case rel => exact ⟨j + 1, n, m, N2, s6, rfl, by omega, rfl, rfl, rfl, by omega, by omega, by have := HNt.out; omega, HSI6.out, by have h1 := HFP6.out; rw [Nat.sub_sub, Nat.sub_sub] at h1; exact h1, HFR6.out, HFV6.out, HCF6.out⟩
                        · have HSIt := Lib.hid (show SI W wr p s N from HSI.out); have HFPt := Lib.hid HFP.out; have HFRt := Lib.hid HFR.out; have HFVt := Lib.hid HFV.out; have HCFt := Lib.hid HCF.out
                          have hNt : N ≤ 368 + j := by omega
                          go_wp2_with fail
                          clear g0 g4
                          refine (pickA (n := (j : Int)) (now := (j : Int)) HSIt.out HFPt.out.inv HFVt.out.tik (C_of (by omega) (by omega)) (by omega)).mono ?_; rintro e w3 ⟨_, hq⟩
                          have hf := HFVt.out.fr (show (j : Int) ≤ 1099511627776 by omega)
                          obtain ⟨x, s3, hbe, hi, rfl, hsi3, _, hA3, hvb, _⟩ := hq (HFPt.out.any hf (by omega) (by omega))
                          have HF := Lib.hid hf; have HB := Lib.hid hbe; have HI := Lib.hid hi; have HSI3 := Lib.hid hsi3; have HA3 := Lib.hid hA3; have HVB := Lib.hid hvb
                          have HXW := Lib.hid (HFPt.out.w x hbe.mem)
                          have HK4 := Lib.hid (show Kp (fun _ => False) w3 (w3.alloc (.cells #[.int .i64 x.id, .int .i64 x.rc, .string x.dom] 66)) from (by repeat (first | exact Kp.refl _ _ | apply Kp.drew | apply Kp.drewN | refine Kp.setCell ?_ _ _ (Or.inl rfl) | apply Kp.alloc)))
                          clear hq hf hbe hi hsi3 hA3 hvb
                          obtain ⟨xd, hxd⟩ : ∃ xd, xd = x.dom := ⟨_, rfl⟩
                          rw [← hxd]
                          rw [← hxd] at HK4
                          have hnx := HFPt.out.next fFS HFRt.out (by omega) (by omega) HF.out q1 HB.out HI.out
                          by_cases hA : xd = ⟨#[97]⟩
                          · subst hA
                            have hxF : x.snd = fF := HXW.out.2.2.1.2 hxd.symm
                            have hxS : x.snd ≠ fS := fun e => fFS (hxF.symm.trans e)
                            rw [if_pos hxF, if_neg hxS] at hnx
                            have t1 : (n : Int) + 1 - m ≤ 1 := by omega
                            have t2 : (m : Int) - (n + 1) ≤ 1 := by omega
                            have en : IntKind.i64.wrap ((n : Int) + 1) = ((n + 1 : Nat) : Int) := by rw [IntWalk.i64_in _ (by omega)]; omega
                            have t3 : ((n + 1 : Nat) : Int) - m ≤ 1 := by omega
                            have t4 : (m : Int) - ((n + 1 : Nat) : Int) ≤ 1 := by omega
                            have HEQ := Lib.hid (show (if x.snd = fF then 1 else 0) = 1 ∧ (if x.snd = fS then 1 else 0) = 0 from ⟨if_pos hxF, if_neg hxS⟩)
                            have HXD := Lib.hid hxd; clear hxd hnx hxF hxS
                            go_wp2_with fail
                            have HSI4 := Lib.hid (HSI3.out.calm HK4.out)
                            obtain ⟨w4, hw4⟩ : ∃ w4, w4 = w3.alloc (.cells #[.int .i64 x.id, .int .i64 x.rc, .string ⟨#[97]⟩] 66) := ⟨_, rfl⟩
                            rw [← hw4] at HSI4 ⊢
                            clear hw4 HK4 t1 t2 t3 t4
                            have cW := HC6.out
                            have cW : W.cell? ⟨b, off + j * 8 + 6, none⟩ = some (.bool og) := cW
                            have g6 := (HSI4.out.kp.cell _ hb (fun h => h)).trans cW
                            have lb := Nat.lt_of_lt_of_le hb HSI4.out.kp.size
                            have hG3 : (ab s3).G = [(x.id, x.rc)] := by rw [HA3.out, aBegin_G, HFPt.out.g]; rfl
                            have hG1 : s3.G.length = 1 := congrArg List.length hG3
                            have HG3 := Lib.hid hG3
                            have HGi := Lib.hid (show (0 : Int) ≤ 0 ∧ (0 : Int) < ((ab s3).G.length : Int) from by rw [hG3]; exact ⟨Int.le_refl _, (by decide : (0 : Int) < 1)⟩)
                            have HNt := Lib.hid hNt
                            have HJB := Lib.hid (show 0 ≤ (j : Int) ∧ (j : Int) ≤ 1099511627776 ∧ (j : Int) + 1 ≤ 1099511627776 ∧ N ≤ 1000000 from by omega)
                            clear hG3
                            go_region_held3 (fun w' => w'.cell? ⟨b, off + j * 8 + 6, none⟩ = some (.bool og)) (first | exact g6 | exact (HSI5.out.kp.cell _ hb (fun h => h)).trans cW | exact (hsi6.kp.cell _ hb (fun h => h)).trans cW)
                              (first | (go_at_call 36; refine (sgoing_any p _ s3 _ (HSI4.out.calm (Kp.refl (fun _ => False) w4).drew).si HJB.out.2.2.2).mono ?_; rintro e w5 ⟨v5, rfl, ho5, hk5⟩; rw [hG1] at ho5; obtain ⟨a5, c5, rfl⟩ := (own_weaken ho5).slice; have HSI5 := Lib.hid ((HSI4.out.calm (Kp.refl (fun _ => False) w4).drew).calm hk5); clear ho5 hk5) | (go_at_call 32; refine (endA (i := 0) (n := 0) (now := (j : Int)) (good := og) (stays := false) HSI5.out HVB.out.le HJB.out.1 HJB.out.2.1 HJB.out.2.2.2).mono ?_; rintro e w6 ⟨_, hq⟩; obtain ⟨y, s6, hy, hgy, rfl, hsi6, _, hA6, hve⟩ := hq HGi.out))
                            have hyk : (y.id, y.rc) = (x.id, x.rc) := by rw [HG3.out] at hgy; exact (Option.some.inj hgy).symm
                            rw [HA3.out] at hy hA6
                            obtain ⟨_, _, o3, o4, o5⟩ := HFPt.out.step fFS HFRt.out (by omega) (by omega) HF.out q1 (c := C 0) HB.out HI.out hy hyk (show (Int.toNat 0) = 0 from rfl)
                            rw [← hA6, HEQ.out.1, HEQ.out.2] at o4 o5
                            have hc3 : (ab s3).c = (ab s).c := by rw [HA3.out, aBegin_c]
                            have hc6 : (ab s6).c = (ab s).c := by rw [hA6, aEnd_c, aBegin_c]
                            have HCF6 := Lib.hid (show CF s6 false from by unfold CF; rw [show s6.c = (s).c from hc6]; exact HCFt.out)
                            have HFV6 := Lib.hid (HFVt.out.step HJB.out.1 HJB.out.2.2.1 HVB.out (o3 ▸ hve) HCFt.out.1 HCFt.out.2.1)
                            have HFP6 := Lib.hid o4; have HFR6 := Lib.hid o5; have HSI6 := Lib.hid hsi6
                            clear hq hy hgy hsi6 hA6 hve hyk o3 o4 o5 hc3 hc6 g6
                            go_wp2_with fail
                            go_roundg (60 - (j + 1))
                            case measure => have := HKk.out; omega
                            case rel => exact ⟨j + 1, n + 1, m, N, s6, rfl, by omega, rfl, rfl, rfl, by omega, by omega, by have := HNt.out; omega, HSI6.out, by have h1 := HFP6.out; rw [Nat.sub_sub, Nat.sub_sub] at h1; exact h1, HFR6.out, HFV6.out, HCF6.out⟩
                          · by_cases hB : xd = ⟨#[98]⟩
                            · subst hB
                              have hxS : x.snd = fS := HXW.out.2.2.2.1.2 hxd.symm
                              have hxF : x.snd ≠ fF := fun e => fFS (e.symm.trans hxS)
                              rw [if_neg hxF, if_pos hxS] at hnx
                              have t1 : (n : Int) - (m + 1) ≤ 1 := by omega
                              have t2 : (m : Int) + 1 - n ≤ 1 := by omega
                              have en : IntKind.i64.wrap ((m : Int) + 1) = ((m + 1 : Nat) : Int) := by rw [IntWalk.i64_in _ (by omega)]; omega
                              have t3 : (n : Int) - ((m + 1 : Nat) : Int) ≤ 1 := by omega
                              have t4 : ((m + 1 : Nat) : Int) - (n : Int) ≤ 1 := by omega
                              have HEQ := Lib.hid (show (if x.snd = fF then 1 else 0) = 0 ∧ (if x.snd = fS then 1 else 0) = 1 from ⟨if_neg hxF, if_pos hxS⟩)
                              have HXD := Lib.hid hxd; clear hxd hnx hxF hxS hA
                              go_wp2_with fail
                              have HSI4 := Lib.hid (HSI3.out.calm HK4.out)
                              obtain ⟨w4, hw4⟩ : ∃ w4, w4 = w3.alloc (.cells #[.int .i64 x.id, .int .i64 x.rc, .string ⟨#[98]⟩] 66) := ⟨_, rfl⟩
                              rw [← hw4] at HSI4 ⊢
                              clear hw4 HK4 t1 t2 t3 t4
                              have cW := HC6.out
                              have cW : W.cell? ⟨b, off + j * 8 + 6, none⟩ = some (.bool og) := cW
                              have g6 := (HSI4.out.kp.cell _ hb (fun h => h)).trans cW
                              have lb := Nat.lt_of_lt_of_le hb HSI4.out.kp.size
                              have hG3 : (ab s3).G = [(x.id, x.rc)] := by rw [HA3.out, aBegin_G, HFPt.out.g]; rfl
                              have hG1 : s3.G.length = 1 := congrArg List.length hG3
                              have HG3 := Lib.hid hG3
                              have HGi := Lib.hid (show (0 : Int) ≤ 0 ∧ (0 : Int) < ((ab s3).G.length : Int) from by rw [hG3]; exact ⟨Int.le_refl _, (by decide : (0 : Int) < 1)⟩)
                              have HNt := Lib.hid hNt
                              have HJB := Lib.hid (show 0 ≤ (j : Int) ∧ (j : Int) ≤ 1099511627776 ∧ (j : Int) + 1 ≤ 1099511627776 ∧ N ≤ 1000000 from by omega)
                              clear hG3
                              go_region_held3 (fun w' => w'.cell? ⟨b, off + j * 8 + 6, none⟩ = some (.bool og)) (first | exact g6 | exact (HSI5.out.kp.cell _ hb (fun h => h)).trans cW | exact (hsi6.kp.cell _ hb (fun h => h)).trans cW)
                                (first | (go_at_call 36; refine (sgoing_any p _ s3 _ (HSI4.out.calm (Kp.refl (fun _ => False) w4).drew).si HJB.out.2.2.2).mono ?_; rintro e w5 ⟨v5, rfl, ho5, hk5⟩; rw [hG1] at ho5; obtain ⟨a5, c5, rfl⟩ := (own_weaken ho5).slice; have HSI5 := Lib.hid ((HSI4.out.calm (Kp.refl (fun _ => False) w4).drew).calm hk5); clear ho5 hk5) | (go_at_call 32; refine (endA (i := 0) (n := 0) (now := (j : Int)) (good := og) (stays := false) HSI5.out HVB.out.le HJB.out.1 HJB.out.2.1 HJB.out.2.2.2).mono ?_; rintro e w6 ⟨_, hq⟩; obtain ⟨y, s6, hy, hgy, rfl, hsi6, _, hA6, hve⟩ := hq HGi.out))
                              have hyk : (y.id, y.rc) = (x.id, x.rc) := by rw [HG3.out] at hgy; exact (Option.some.inj hgy).symm
                              rw [HA3.out] at hy hA6
                              obtain ⟨_, _, o3, o4, o5⟩ := HFPt.out.step fFS HFRt.out (by omega) (by omega) HF.out q1 (c := C 0) HB.out HI.out hy hyk (show (Int.toNat 0) = 0 from rfl)
                              rw [← hA6, HEQ.out.1, HEQ.out.2] at o4 o5
                              have hc3 : (ab s3).c = (ab s).c := by rw [HA3.out, aBegin_c]
                              have hc6 : (ab s6).c = (ab s).c := by rw [hA6, aEnd_c, aBegin_c]
                              have HCF6 := Lib.hid (show CF s6 false from by unfold CF; rw [show s6.c = (s).c from hc6]; exact HCFt.out)
                              have HFV6 := Lib.hid (HFVt.out.step HJB.out.1 HJB.out.2.2.1 HVB.out (o3 ▸ hve) HCFt.out.1 HCFt.out.2.1)
                              have HFP6 := Lib.hid o4; have HFR6 := Lib.hid o5; have HSI6 := Lib.hid hsi6
                              clear hq hy hgy hsi6 hA6 hve hyk o3 o4 o5 hc3 hc6 g6
                              go_wp2_with fail
                              go_roundg (60 - (j + 1))
                              case measure => have := HKk.out; omega
                              case rel => exact ⟨j + 1, n, m + 1, N, s6, rfl, by omega, rfl, rfl, rfl, by omega, by omega, by have := HNt.out; omega, HSI6.out, by have h1 := HFP6.out; rw [Nat.sub_sub, Nat.sub_sub] at h1; exact h1, HFR6.out, HFV6.out, HCF6.out⟩
                            · have hxF : x.snd ≠ fF := fun e => hA (hxd.trans (HXW.out.2.2.1.1 e))
                              have hxS : x.snd ≠ fS := fun e => hB (hxd.trans (HXW.out.2.2.2.1.1 e))
                              rw [if_neg hxF, if_neg hxS] at hnx
                              have t1 : (n : Int) - m ≤ 1 := by omega
                              have t2 : (m : Int) - n ≤ 1 := by omega
                              have t3 := ne_lit (l := [97]) hA
                              have t4 := ne_lit (l := [98]) hB
                              have t5 := beq_eq_false_iff_ne.2 t3
                              have t6 := beq_eq_false_iff_ne.2 t4
                              have HEQ := Lib.hid (show (if x.snd = fF then 1 else 0) = 0 ∧ (if x.snd = fS then 1 else 0) = 0 from ⟨if_neg hxF, if_neg hxS⟩)
                              have HXD := Lib.hid hxd; clear hxd hnx hxF hxS
                              go_wp2_with fail
                              have HSI4 := Lib.hid (HSI3.out.calm HK4.out)
                              obtain ⟨w4, hw4⟩ : ∃ w4, w4 = w3.alloc (.cells #[.int .i64 x.id, .int .i64 x.rc, .string xd] 66) := ⟨_, rfl⟩
                              rw [← hw4] at HSI4 ⊢
                              clear hw4 HK4 t1 t2 t3 t4
                              have cW := HC6.out
                              have cW : W.cell? ⟨b, off + j * 8 + 6, none⟩ = some (.bool og) := cW
                              have g6 := (HSI4.out.kp.cell _ hb (fun h => h)).trans cW
                              have lb := Nat.lt_of_lt_of_le hb HSI4.out.kp.size
                              have hG3 : (ab s3).G = [(x.id, x.rc)] := by rw [HA3.out, aBegin_G, HFPt.out.g]; rfl
                              have hG1 : s3.G.length = 1 := congrArg List.length hG3
                              have HG3 := Lib.hid hG3
                              have HGi := Lib.hid (show (0 : Int) ≤ 0 ∧ (0 : Int) < ((ab s3).G.length : Int) from by rw [hG3]; exact ⟨Int.le_refl _, (by decide : (0 : Int) < 1)⟩)
                              have HNt := Lib.hid hNt
                              have HJB := Lib.hid (show 0 ≤ (j : Int) ∧ (j : Int) ≤ 1099511627776 ∧ (j : Int) + 1 ≤ 1099511627776 ∧ N ≤ 1000000 from by omega)
                              clear hG3
                              go_region_held3 (fun w' => w'.cell? ⟨b, off + j * 8 + 6, none⟩ = some (.bool og)) (first | exact g6 | exact (HSI5.out.kp.cell _ hb (fun h => h)).trans cW | exact (hsi6.kp.cell _ hb (fun h => h)).trans cW)
                                (first | (go_at_call 36; refine (sgoing_any p _ s3 _ (HSI4.out.calm (Kp.refl (fun _ => False) w4).drew).si HJB.out.2.2.2).mono ?_; rintro e w5 ⟨v5, rfl, ho5, hk5⟩; rw [hG1] at ho5; obtain ⟨a5, c5, rfl⟩ := (own_weaken ho5).slice; have HSI5 := Lib.hid ((HSI4.out.calm (Kp.refl (fun _ => False) w4).drew).calm hk5); clear ho5 hk5) | (go_at_call 32; refine (endA (i := 0) (n := 0) (now := (j : Int)) (good := og) (stays := false) HSI5.out HVB.out.le HJB.out.1 HJB.out.2.1 HJB.out.2.2.2).mono ?_; rintro e w6 ⟨_, hq⟩; obtain ⟨y, s6, hy, hgy, rfl, hsi6, _, hA6, hve⟩ := hq HGi.out))
                              have hyk : (y.id, y.rc) = (x.id, x.rc) := by rw [HG3.out] at hgy; exact (Option.some.inj hgy).symm
                              rw [HA3.out] at hy hA6
                              obtain ⟨_, _, o3, o4, o5⟩ := HFPt.out.step fFS HFRt.out (by omega) (by omega) HF.out q1 (c := C 0) HB.out HI.out hy hyk (show (Int.toNat 0) = 0 from rfl)
                              rw [← hA6, HEQ.out.1, HEQ.out.2] at o4 o5
                              have hc3 : (ab s3).c = (ab s).c := by rw [HA3.out, aBegin_c]
                              have hc6 : (ab s6).c = (ab s).c := by rw [hA6, aEnd_c, aBegin_c]
                              have HCF6 := Lib.hid (show CF s6 false from by unfold CF; rw [show s6.c = (s).c from hc6]; exact HCFt.out)
                              have HFV6 := Lib.hid (HFVt.out.step HJB.out.1 HJB.out.2.2.1 HVB.out (o3 ▸ hve) HCFt.out.1 HCFt.out.2.1)
                              have HFP6 := Lib.hid o4; have HFR6 := Lib.hid o5; have HSI6 := Lib.hid hsi6
                              clear hq hy hgy hsi6 hA6 hve hyk o3 o4 o5 hc3 hc6 g6
                              go_wp2_with fail
                              go_roundg (60 - (j + 1))
                              case measure => have := HKk.out; omega
                              case rel => exact ⟨j + 1, n, m, N, s6, rfl, by omega, rfl, rfl, rfl, by omega, by omega, by have := HNt.out; omega, HSI6.out, by have h1 := HFP6.out; rw [Nat.sub_sub, Nat.sub_sub] at h1; exact h1, HFR6.out, HFV6.out, HCF6.out⟩
                      · skip
                        go_wp2_with fail
                        refine (r22ans_any _).mono ?_; rintro e w6 ⟨rfl, hk6⟩
                        have HKE := Lib.hid (HSI.out.kp.trans hk6)
                        clear hk6
                        go_wp2_with fail
                        go_ret
                        exact ⟨rfl, HKE.out.below (fun _ _ h => h)⟩
                    · skip
                      go_wp2_with fail
                      refine (r22ans_any _).mono ?_; rintro e w6 ⟨rfl, hk6⟩
                      have HKE := Lib.hid (HSI.out.kp.trans hk6)
                      clear hk6
                      go_wp2_with fail
                      go_ret
                      exact ⟨rfl, HKE.out.below (fun _ _ h => h)⟩
                  · skip
                    go_wp2_with fail
                    refine (r22ans_any _).mono ?_; rintro e w6 ⟨rfl, hk6⟩
                    have HKE := Lib.hid (HSI.out.kp.trans hk6)
                    clear hk6
                    go_wp2_with fail
                    go_ret
                    exact ⟨rfl, HKE.out.below (fun _ _ h => h)⟩
                · skip
                  go_wp2_with fail
                  refine (r22ans_any _).mono ?_; rintro e w6 ⟨rfl, hk6⟩
                  have HKE := Lib.hid (HSI.out.kp.trans hk6)
                  clear hk6
                  go_wp2_with fail
                  go_ret
                  exact ⟨rfl, HKE.out.below (fun _ _ h => h)⟩
end Go.Proofs.Ytbiahndpfbmoeaa
