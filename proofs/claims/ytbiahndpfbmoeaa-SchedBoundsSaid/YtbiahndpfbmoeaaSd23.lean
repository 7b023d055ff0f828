/- The fixed example of law 22. No condition. -/
import Derived.Test.YtbiahndpfbmoeaaSd22
namespace Go.Proofs.Ytbiahndpfbmoeaa
open Go.RowKit SatAid

def eC : Cf := ⟨⟨#[]⟩, .slice none 0 0, [], 0, 1, 1, 1, 0, 0, 0, 0, 0, 0⟩
def eX : Wx := ⟨1, 0, ⟨#[115]⟩, ⟨#[100]⟩, false, false, 0⟩
def eA (lv : Value) : Ab := aPut ⟨{ eC with lv := lv }, [], [], [], [], false⟩ eX
theorem eA_inv (lv : Value) : InvA (eA lv) := InvA.put (fun z hz => by cases hz)
theorem eA_any (lv : Value) {f : ByteArray → Bool} (hf : ∀ d, f d = true) : AnyA (eA lv) f 0 := by
  refine ⟨eX, List.mem_singleton.2 rfl, ?_⟩
  unfold rdA
  simp [eX, hf]
theorem eA_best (lv : Value) {f : ByteArray → Bool} {x : Wx} (h : BestA (eA lv) f 0 x) : x = eX := List.mem_singleton.1 h.mem
theorem eB_none (lv : Value) (l : Bool) (i : Nat) (f : ByteArray → Bool) : ¬ AnyA (aBegin (eA lv) l i (1, 0)) f 0 := by
  rintro ⟨z, hz, hr⟩
  have hz' : z ∈ [{ eX with go := true }] := by
    have : (aBegin (eA lv) l i (1, 0)).W = [{ eX with go := true }] := by cases l <;> rfl
    rw [this] at hz; exact hz
  obtain rfl := List.mem_singleton.1 hz'
  unfold rdA at hr
  simp at hr
theorem eE_len (lv : Value) (l : Bool) (i : Nat) {x : Wx} (h : (x.id, x.rc) = (1, 0)) : (aEnd (aBegin (eA lv) l i (1, 0)) 0 x false 0).W = [] := by
  have h1 : x.id = 1 := congrArg Prod.fst h
  have h2 : x.rc = 0 := congrArg Prod.snd h
  obtain ⟨id, rc, s, d, lc, g, n⟩ := x
  simp only at h1 h2
  subst h1 h2
  have hw : (aDel (aGo { aBegin (eA lv) l i (1, 0) with G := CutG 0 (aBegin (eA lv) l i (1, 0)).G } (1, 0) false (fun _ => 0)) (1, 0)).W = [] := by cases l <;> rfl
  exact (aGone_W _ _).trans hw
set_option maxRecDepth 100000 in
theorem r22ans_any (w : World) : Calls Try.prog 23 #[] w fun e w' => e = .returned (.bool true) ∧ Kp (fun _ => False) w w' := by
  go_enter Try.func23, Try.ntmps23
  go_wp2_with fail
  refine (newA eC none 0 w w (Kp.refl _ _) rfl (fun i hi => absurd hi (Nat.not_lt_zero _)) (by decide) (fun _ => rfl)).mono ?_; rintro e w0 ⟨p, s0, rfl, h0, hA0, hP0⟩
  have H0 := Lib.hid h0; have HA0 := Lib.hid hA0; have HP0 := Lib.hid hP0; clear h0 hA0 hP0
  go_wp2_with fail
  refine (putA 1 0 0 ⟨#[115]⟩ ⟨#[100]⟩ H0.out rfl rfl (by decide) (by decide)).mono ?_; rintro e w1 ⟨_, hq⟩
  obtain ⟨rfl, s1, h1, _, hA1, hP1⟩ := hq (by rw [HA0.out]; rintro ⟨z, hz, _⟩; cases hz)
  rw [HA0.out] at hA1
  have hcL : s0.c.L = [] := by have := congrArg (fun A => A.c.L) HA0.out; exact this
  rw [hcL] at hA1
  rw [HP0.out] at hP1
  have HA1 := Lib.hid (show ab s1 = eA s0.c.lv from hA1); have H1 := Lib.hid h1; have HP1 := Lib.hid hP1
  clear hq h1 hA1 hP1 hcL
  go_wp2_with fail
  refine (pickA (n := 0) (now := 0) H1.out (by rw [HA1.out]; exact eA_inv _) (tik_new HP1.out 0) rfl (by decide)).mono ?_; rintro e w2 ⟨_, hq⟩
  have hany := eA_any s0.c.lv (fr_new HP1.out 0)
  rw [← HA1.out] at hany
  obtain ⟨x, s2, hb, hi, rfl, h2, _, hA2, hv2, _⟩ := hq hany
  have hx : x = eX := eA_best s0.c.lv (by rw [← HA1.out]; exact hb)
  subst hx
  have H2 := Lib.hid h2; have HV2 := Lib.hid hv2
  have HI2 := Lib.hid (show InvA (ab s2) from by rw [hA2]; exact InvA.begin (by rw [HA1.out]; exact eA_inv _) hi)
  rw [HA1.out] at hA2
  have HA2 := Lib.hid hA2
  clear hq hany hb hi h2 hA2 hv2
  go_wp2_with fail
  have H2b := Lib.hid (H2.out.calm (w' := w2.alloc (.cells #[.int .i64 eX.id, .int .i64 eX.rc, .string eX.dom] 66)) (by repeat (first | exact Kp.refl _ _ | apply Kp.drew | apply Kp.drewN | refine Kp.setCell ?_ _ _ (Or.inl rfl) | apply Kp.alloc)))
  have k3 : (w2.alloc (.cells #[.int .i64 eX.id, .int .i64 eX.rc, .string eX.dom] 66)).heap[w2.heap.size]? = some (.cells #[.int .i64 eX.id, .int .i64 eX.rc, .string eX.dom] 66 (0, 0)) := heap_new _
  obtain ⟨b2, hb2⟩ : ∃ b2, b2 = w2.heap.size := ⟨_, rfl⟩
  have HBF := Lib.hid (show ¬ (s2.col b2).isSome from fun e => by have := H2.out.si.lt _ e; omega)
  obtain ⟨w2b, hw2b⟩ : ∃ w2b, w2b = w2.alloc (.cells #[.int .i64 eX.id, .int .i64 eX.rc, .string eX.dom] 66) := ⟨_, rfl⟩
  rw [← hw2b] at H2b k3 ⊢
  rw [← hb2] at k3 ⊢
  have HW := Lib.hid H2b.out.kp.size
  have HB2 := Lib.hid (show w.heap.size ≤ b2 from by have := H2.out.kp.size; omega)
  have HL2 := Lib.hid (lt_of_block k3)
  have HK3 := Lib.hid k3
  clear hw2b hb2 k3
  refine (pickA (n := 0) (now := 0) H2b.out HI2.out HV2.out.le rfl (by decide)).mono ?_; rintro e w3 ⟨hq, _⟩
  obtain ⟨rfl, s3, h3, hs3, hA3, hv3, _⟩ := hq (by rw [HA2.out]; exact eB_none _ _ _ _)
  rw [HA2.out] at hA3
  have hq3 := hs3.kp.keep HK3.out HBF.out
  have HBF3 := Lib.hid (show s3.col b2 = none from hs3.none HL2.out (by cases h : s2.col b2 with | none => rfl | some c => exact absurd (by rw [h]; rfl) HBF.out))
  have H3 := Lib.hid h3; have HA3 := Lib.hid hA3; have HV3 := Lib.hid hv3; have HQ3 := Lib.hid hq3
  clear hq h3 hs3 hA3 hv3 hq3
  unfold z3
  go_wp2_with fail
  have hk4 : Kp (fun _ => False) w3 (w3.alloc (.cells #[.int .i64 0, .int .i64 0, .string ByteArray.empty] 66)) := (by repeat (first | exact Kp.refl _ _ | apply Kp.drew | apply Kp.drewN | refine Kp.setCell ?_ _ _ (Or.inl rfl) | apply Kp.alloc))
  have H4 := Lib.hid (H3.out.calm hk4); have HQ4 := Lib.hid (hk4.keep HQ3.out (fun h => h))
  clear hk4
  refine (endA (i := 0) (n := 0) (now := 0) (good := true) (stays := false) H4.out HV3.out.le (by decide) (by decide) (by decide)).mono ?_; rintro e w5 ⟨_, hq⟩
  have hG : (ab s3).G = [(1, 0)] := by rw [HA3.out, aBegin_G]; rfl
  obtain ⟨x, s5, hx, hgx, rfl, h5, hs5, hA5, _⟩ := hq (by rw [hG]; decide)
  have hx1 : (x.id, x.rc) = (1, 0) := by rw [hG] at hgx; exact (Option.some.inj hgx).symm
  rw [HA3.out] at hA5
  have hlen : (ab s5).W.length = 0 := by rw [hA5]; exact congrArg List.length (eE_len s0.c.lv _ _ hx1)
  have hxd : x.dom = ⟨#[100]⟩ := by
    have hW : (ab s3).W = [{ eX with go := true }] := by rw [HA3.out]; generalize LcA (ab s1) (fr s1 0) 0 = l; cases l <;> rfl
    rw [hW] at hx
    obtain rfl := List.mem_singleton.1 hx
    rfl
  obtain ⟨xi, xr, xs, xd, xl, xg, xn⟩ := x
  simp only [Prod.mk.injEq] at hx1 hxd
  obtain ⟨rfl, rfl⟩ := hx1
  subst hxd
  have hq5 := hs5.kp.keep HQ4.out (by rw [HBF3.out]; exact fun h => by cases h)
  have c0 : w5.cell? ⟨b2, 0, none⟩ = some (.int .i64 1) := (cell_of hq5 0).trans rfl
  have c1 : w5.cell? ⟨b2, 1, none⟩ = some (.int .i64 0) := (cell_of hq5 1).trans rfl
  have c2 : w5.cell? ⟨b2, 2, none⟩ = some (.string ⟨#[100]⟩) := (cell_of hq5 2).trans rfl
  have H5 := Lib.hid h5; have HLn := Lib.hid hlen
  have L5 := lt_of_block hq5
  clear hq hG hx hgx h5 hs5 hA5 hlen hq5
  go_wp2_with fail
  have hk6 : Kp (fun _ => False) w5 (w5.alloc (.cells #[.int .i64 1, .int .i64 0, .string ⟨#[100]⟩] 66)) := (by repeat (first | exact Kp.refl _ _ | apply Kp.drew | apply Kp.drewN | refine Kp.setCell ?_ _ _ (Or.inl rfl) | apply Kp.alloc))
  refine (slen_any p _ s5 _ (H5.out.calm hk6).si).mono ?_; rintro e w7 ⟨rfl, rfl⟩
  rw [HLn.out]
  go_wp2_with fail
  go_ret
  exact ⟨rfl, (H5.out.calm hk6).kp⟩
end Go.Proofs.Ytbiahndpfbmoeaa
