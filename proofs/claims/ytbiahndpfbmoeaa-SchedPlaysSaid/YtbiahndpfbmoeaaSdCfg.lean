/- The fixed example of law 22. No condition. -/
import Derived.Test.YtbiahndpfbmoeaaSd22
import Derived.Test.YtbiahndpfbmoeaaRingWaits
namespace Go.Proofs.Ytbiahndpfbmoeaa
open Go.RowKit SatAid

def eC : Cf := ⟨⟨#[]⟩, .slice none 0 0, [], 0, 1, 1, 1, 0, 0, 0, 0, 0, 0⟩
def eX : Wx := ⟨1, 0, ⟨#[115]⟩, ⟨#[100]⟩, false, false, 0⟩
def eA (lv : Value) : Ab := aPut ⟨{ eC with lv := lv }, [], [], [], [], false⟩ eX
theorem eA_inv (lv : Value) : InvA (eA lv) := InvA.put (fun z hz => by cases hz)
theorem eA_any (lv : Value) {f : ByteArray → Bool} (hf : ∀ d, f d = true) : AnyA (eA lv) f 0 := by
  refine ⟨eX, List.mem_singleton.2 rfl, ?_⟩
  unfold rdA
  simp [eX, hf]
theorem eA_best (lv : Value) {f : ByteArray → Bool} {x : Wx} (h : BestA (eA lv) f 0 x) : x = eX := List.mem_singleton.1 h.mem
theorem eB_none (lv : Value) (l : Bool) (i : Nat) (f : ByteArray → Bool) : ¬ AnyA (aBegin (eA lv) l i (1, 0)) f 0 := by
  rintro ⟨z, hz, hr⟩
  have hz' : z ∈ [{ eX with go := true }] := by
    have : (aBegin (eA lv) l i (1, 0)).W = [{ eX with go := true }] := by cases l <;> rfl
    rw [this] at hz; exact hz
  obtain rfl := List.mem_singleton.1 hz'
  unfold rdA at hr
  simp at hr
theorem eE_len (lv : Value) (l : Bool) (i : Nat) {x : Wx} (h : (x.id, x.rc) = (1, 0)) : (aEnd (aBegin (eA lv) l i (1, 0)) 0 x false 0).W = [] := by
  have h1 : x.id = 1 := congrArg Prod.fst h
  have h2 : x.rc = 0 := congrArg Prod.snd h
  obtain ⟨id, rc, s, d, lc, g, n⟩ := x
  simp only at h1 h2
  subst h1 h2
  have hw : (aDel (aGo { aBegin (eA lv) l i (1, 0) with G := CutG 0 (aBegin (eA lv) l i (1, 0)).G } (1, 0) false (fun _ => 0)) (1, 0)).W = [] := by cases l <;> rfl
  exact (aGone_W _ _).trans hw
set_option maxRecDepth 100000 in
theorem r22ans_any (w : World) : Calls Try.prog 23 #[] w fun e w' => e = .returned (.bool true) ∧ Kp (fun _ => False) w w' := by
  go_enter Try.func23, Try.ntmps23
  go_wp2_with fail
  refine (newA eC none 0 w w (Kp.refl _ _) rfl (fun i hi => absurd hi (Nat.not_lt_zero _)) (by decide) (fun _ => rfl)).mono ?_; rintro e w0 ⟨p, s0, rfl, h0, hA0, hP0⟩
  have H0 := Lib.hid h0; have HA0 := Lib.hid hA0; have HP0 := Lib.hid hP0; clear h0 hA0 hP0
  go_wp2_with fail
  refine (putA 1 0 0 ⟨#[115]⟩ ⟨#[100]⟩ H0.out rfl rfl (by decide) (by decide)).mono ?_; rintro e w1 ⟨_, hq⟩
  obtain ⟨rfl, s1, h1, _, hA1, hP1⟩ := hq (by rw [HA0.out]; rintro ⟨z, hz, _⟩; cases hz)
  rw [HA0.out] at hA1
  have hcL : s0.c.L = [] := by have := congrArg (fun A => A.c.L) HA0.out; exact this
  rw [hcL] at hA1
  rw [HP0.out] at hP1
  have HA1 := Lib.hid (show ab s1 = eA s0.c.lv from hA1); have H1 := Lib.hid h1; have HP1 := Lib.hid hP1
  clear hq h1 hA1 hP1 hcL
  go_wp2_with fail
  refine (pickA (n := 0) (now := 0) H1.out (by rw [HA1.out]; exact eA_inv _) (tik_new HP1.out 0) rfl (by decide)).mono ?_; rintro e w2 ⟨_, hq⟩
  have hany := eA_any s0.c.lv (fr_new HP1.out 0)
  rw [← HA1.out] at hany
  obtain ⟨x, s2, hb, hi, rfl, h2, _, hA2, hv2, _⟩ := hq hany
  have hx : x = eX := eA_best s0.c.lv (by rw [← HA1.out]; exact hb)
  subst hx
  have H2 := Lib.hid h2; have HV2 := Lib.hid hv2
  have HI2 := Lib.hid (show InvA (ab s2) from by rw [hA2]; exact InvA.begin (by rw [HA1.out]; exact eA_inv _) hi)
  rw [HA1.out] at hA2
  have HA2 := Lib.hid hA2
  clear hq hany hb hi h2 hA2 hv2
  go_wp2_with fail
  have H2b := Lib.hid (H2.out.calm (w' := w2.alloc (.cells #[.int .i64 eX.id, .int .i64 eX.rc, .string eX.dom] 66)) (by repeat (first | exact Kp.refl _ _ | apply Kp.drew | apply Kp.drewN | refine Kp.setCell ?_ _ _ (Or.inl rfl) | apply Kp.alloc)))
  have k3 : (w2.alloc (.cells #[.int .i64 eX.id, .int .i64 eX.rc, .string eX.dom] 66)).heap[w2.heap.size]? = some (.cells #[.int .i64 eX.id, .int .i64 eX.rc, .string eX.dom] 66 (0, 0)) := heap_new _
  obtain ⟨b2, hb2⟩ : ∃ b2, b2 = w2.heap.size := ⟨_, rfl⟩
  have HBF := Lib.hid (show ¬ (s2.col b2).isSome from fun e => by have := H2.out.si.lt _ e; omega)
  obtain ⟨w2b, hw2b⟩ : ∃ w2b, w2b = w2.alloc (.cells #[.int .i64 eX.id, .int .i64 eX.rc, .string eX.dom] 66) := ⟨_, rfl⟩
  rw [← hw2b] at H2b k3 ⊢
  rw [← hb2] at k3 ⊢
  have HW := Lib.hid H2b.out.kp.size
  have HB2 := Lib.hid (show w.heap.size ≤ b2 from by have := H2.out.kp.size; omega)
  have HL2 := Lib.hid (lt_of_block k3)
  have HK3 := Lib.hid k3
  clear hw2b hb2 k3
  refine (pickA (n := 0) (now := 0) H2b.out HI2.out HV2.out.le rfl (by decide)).mono ?_; rintro e w3 ⟨hq, _⟩
  obtain ⟨rfl, s3, h3, hs3, hA3, hv3, _⟩ := hq (by rw [HA2.out]; exact eB_none _ _ _ _)
  rw [HA2.out] at hA3
  have hq3 := hs3.kp.keep HK3.out HBF.out
  have HBF3 := Lib.hid (show s3.col b2 = none from hs3.none HL2.out (by cases h : s2.col b2 with | none => rfl | some c => exact absurd (by rw [h]; rfl) HBF.out))
  have H3 := Lib.hid h3; have HA3 := Lib.hid hA3; have HV3 := Lib.hid hv3; have HQ3 := Lib.hid hq3
  clear hq h3 hs3 hA3 hv3 hq3
  unfold z3
  go_wp2_with fail
  have hk4 : Kp (fun _ => False) w3 (w3.alloc (.cells #[.int .i64 0, .int .i64 0, .string ByteArray.empty] 66)) := (by repeat (first | exact Kp.refl _ _ | apply Kp.drew | apply Kp.drewN | refine Kp.setCell ?_ _ _ (Or.inl rfl) | apply Kp.alloc))
  have H4 := Lib.hid (H3.out.calm hk4); have HQ4 := Lib.hid (hk4.keep HQ3.out (fun h => h))
  clear hk4
  refine (endA (i := 0) (n := 0) (now := 0) (good := true) (stays := false) H4.out HV3.out.le (by decide) (by decide) (by decide)).mono ?_; rintro e w5 ⟨_, hq⟩
  have hG : (ab s3).G = [(1, 0)] := by rw [HA3.out, aBegin_G]; rfl
  obtain ⟨x, s5, hx, hgx, rfl, h5, hs5, hA5, _⟩ := hq (by rw [hG]; decide)
  have hx1 : (x.id, x.rc) = (1, 0) := by rw [hG] at hgx; exact (Option.some.inj hgx).symm
  rw [HA3.out] at hA5
  have hlen : (ab s5).W.length = 0 := by rw [hA5]; exact congrArg List.length (eE_len s0.c.lv _ _ hx1)
  have hxd : x.dom = ⟨#[100]⟩ := by
    have hW : (ab s3).W = [{ eX with go := true }] := by rw [HA3.out]; generalize LcA (ab s1) (fr s1 0) 0 = l; cases l <;> rfl
    rw [hW] at hx
    obtain rfl := List.mem_singleton.1 hx
    rfl
  obtain ⟨xi, xr, xs, xd, xl, xg, xn⟩ := x
  simp only [Prod.mk.injEq] at hx1 hxd
  obtain ⟨rfl, rfl⟩ := hx1
  subst hxd
  have hq5 := hs5.kp.keep HQ4.out (by rw [HBF3.out]; exact fun h => by cases h)
  have c0 : w5.cell? ⟨b2, 0, none⟩ = some (.int .i64 1) := (cell_of hq5 0).trans rfl
  have c1 : w5.cell? ⟨b2, 1, none⟩ = some (.int .i64 0) := (cell_of hq5 1).trans rfl
  have c2 : w5.cell? ⟨b2, 2, none⟩ = some (.string ⟨#[100]⟩) := (cell_of hq5 2).trans rfl
  have H5 := Lib.hid h5; have HLn := Lib.hid hlen
  have L5 := lt_of_block hq5
  clear hq hG hx hgx h5 hs5 hA5 hlen hq5
  go_wp2_with fail
  have hk6 : Kp (fun _ => False) w5 (w5.alloc (.cells #[.int .i64 1, .int .i64 0, .string ⟨#[100]⟩] 66)) := (by repeat (first | exact Kp.refl _ _ | apply Kp.drew | apply Kp.drewN | refine Kp.setCell ?_ _ _ (Or.inl rfl) | apply Kp.alloc))
  refine (slen_any p _ s5 _ (H5.out.calm hk6).si).mono ?_; rintro e w7 ⟨rfl, rfl⟩
  rw [HLn.out]
  go_wp2_with fail
  go_ret
  exact ⟨rfl, (H5.out.calm hk6).kp⟩
end Go.Proofs.Ytbiahndpfbmoeaa

/- The operations that law 22's statements are given. No condition. -/
namespace Go.Proofs.Ytbiahndpfbmoeaa
open Go.RowKit Go.ChangeShapes Go.WideShapes Go.Deep

set_option maxRecDepth 100000 in
theorem cells_sop : Try.prog.cellsOf 58 = 8 := by kernel_rfl
set_option maxRecDepth 100000 in
theorem cells_sint : Try.prog.cellsOf 3 = 1 := by kernel_rfl
set_option maxRecDepth 100000 in
theorem cells_sbool : Try.prog.cellsOf 4 = 1 := by kernel_rfl
set_option maxRecDepth 100000 in
theorem cells_sstr : Try.prog.cellsOf 9 = 1 := by kernel_rfl
structure SOp where
  (k id rc nx : Int) (snd dom : ByteArray) (good stays : Bool)
  deriving Inhabited
def So (r : SOp) : List Value := [.int .i64 r.k, .int .i64 r.id, .int .i64 r.rc, .int .i64 r.nx, .string r.snd, .string r.dom, .bool r.good, .bool r.stays]
/-- what is known of an operation -/
def SOk (r : SOp) : Prop := (Lit.int .i64 r.id).wf = true ∧ (Lit.int .i64 r.rc).wf = true ∧ (Lit.int .i64 r.nx).wf = true ∧ r.snd.size ≤ maxLen ∧ r.dom.size ≤ maxLen
set_option maxRecDepth 100000 in
theorem sop_of_trod {H : Type} {enc : TypeId × Value → H} {W : World} {fuel : Nat} {cs : List Value} {y : DataW H × List MemPlace} (hV : cs.length = 8)
    (hy : DataW.trod enc Try.prog W 0 (fun _ => true) true fuel 58 cs = some y) : ∃ r, cs = So r ∧ SOk r := by
  obtain ⟨xs, n', rfl, _, hl, hxl, hx⟩ := DataW.trod_struct Try.underlying58 hy
  have e0 : DataW.trod enc Try.prog W 0 (fun _ => true) true n' 3 ((cs.drop 0).take (Try.prog.cellsOf 3)) = xs[0]? := hx 0 _ rfl
  have e1 : DataW.trod enc Try.prog W 0 (fun _ => true) true n' 3 ((cs.drop 1).take (Try.prog.cellsOf 3)) = xs[1]? := hx 1 _ rfl
  have e2 : DataW.trod enc Try.prog W 0 (fun _ => true) true n' 3 ((cs.drop 2).take (Try.prog.cellsOf 3)) = xs[2]? := hx 2 _ rfl
  have e3 : DataW.trod enc Try.prog W 0 (fun _ => true) true n' 3 ((cs.drop 3).take (Try.prog.cellsOf 3)) = xs[3]? := hx 3 _ rfl
  have e4 : DataW.trod enc Try.prog W 0 (fun _ => true) true n' 9 ((cs.drop 4).take (Try.prog.cellsOf 9)) = xs[4]? := hx 4 _ rfl
  have e5 : DataW.trod enc Try.prog W 0 (fun _ => true) true n' 9 ((cs.drop 5).take (Try.prog.cellsOf 9)) = xs[5]? := hx 5 _ rfl
  have e6 : DataW.trod enc Try.prog W 0 (fun _ => true) true n' 4 ((cs.drop 6).take (Try.prog.cellsOf 4)) = xs[6]? := hx 6 _ rfl
  have e7 : DataW.trod enc Try.prog W 0 (fun _ => true) true n' 4 ((cs.drop 7).take (Try.prog.cellsOf 4)) = xs[7]? := hx 7 _ rfl
  rw [cells_sint] at e0 e1 e2 e3
  rw [cells_sstr] at e4 e5
  rw [cells_sbool] at e6 e7
  match cs, hV with
  | [a, b, c, d, e, f, g, h], _ =>
    have l3 : xs.length = 8 := hxl
    rw [List.getElem?_eq_getElem (by omega)] at e0 e1 e2 e3 e4 e5 e6 e7
    obtain ⟨z0, h0, _⟩ := DataW.trod_int Try.underlying3 e0
    obtain ⟨z1, h1, _, w1⟩ := DataW.trod_int Try.underlying3 e1
    obtain ⟨z2, h2, _, w2⟩ := DataW.trod_int Try.underlying3 e2
    obtain ⟨z3, h3, _, w3⟩ := DataW.trod_int Try.underlying3 e3
    obtain ⟨z4, h4, _, w4⟩ := DataW.trod_string Try.underlying9 e4
    obtain ⟨z5, h5, _, w5⟩ := DataW.trod_string Try.underlying9 e5
    obtain ⟨z6, h6, _⟩ := DataW.trod_bool Try.underlying4 e6
    obtain ⟨z7, h7, _⟩ := DataW.trod_bool Try.underlying4 e7
    simp at h0 h1 h2 h3 h4 h5 h6 h7
    exact ⟨⟨z0, z1, z2, z3, z4, z5, z6, z7⟩, by rw [h0, h1, h2, h3, h4, h5, h6, h7]; rfl, w1, w2, w3, w4, w5⟩

set_option maxRecDepth 100000 in
theorem open_sop {H : Type} {enc : TypeId × Value → H} {W : World} {base : Nat} {v : Value} {d : DataW H} {ps : List MemPlace} (k : Value.okWide Try.prog W .any base 58 v) (h : DataW.Trod enc Try.prog W 0 (fun _ => true) true 58 v d ps) :
    ∃ r, v = .agg (So r).toArray ∧ SOk r := by
  obtain ⟨cs, rfl, hs⟩ := okWide_struct Try.underlying58 k
  obtain ⟨fuel, hf⟩ := h
  rw [cells_sop] at hs
  obtain ⟨r, h1, h2⟩ := sop_of_trod (cs := cs.toList) (by simpa using hs) (by simpa [Value.cells] using hf)
  exact ⟨r, by rw [← h1], h2⟩
end Go.Proofs.Ytbiahndpfbmoeaa

/- The configuration that law 22's statements are given; what is light. No condition. -/
namespace Go.Proofs.Ytbiahndpfbmoeaa
open Go.RowKit Go.ChangeShapes Go.WideShapes Go.Deep

theorem cells_cfg : Try.prog.cellsOf 45 = 12 := by kernel_rfl
set_option maxRecDepth 100000 in
theorem cells_sstrs : Try.prog.cellsOf 24 = 1 := by kernel_rfl
/-- what is known of a configuration -/
def CfOk (W : World) (c : Cf) : Prop := ∃ ao cap, c.lv = .slice ao c.L.length cap ∧ Hs W ao cap c.L
set_option maxRecDepth 100000 in
theorem cfg_of_trod {H : Type} {enc : TypeId × Value → H} {W : World} {fuel : Nat} {cs : List Value} {y : DataW H × List MemPlace} (hV : cs.length = 12)
    (hy : DataW.trod enc Try.prog W 0 (fun _ => true) true fuel 45 cs = some y) : ∃ c, cs = Cc c ∧ CfOk W c := by
  obtain ⟨xs, n', rfl, _, hl, hxl, hx⟩ := DataW.trod_struct Try.underlying45 hy
  have e0 : DataW.trod enc Try.prog W 0 (fun _ => true) true n' 9 ((cs.drop 0).take (Try.prog.cellsOf 9)) = xs[0]? := hx 0 _ rfl
  have e1 : DataW.trod enc Try.prog W 0 (fun _ => true) true n' 24 ((cs.drop 1).take (Try.prog.cellsOf 24)) = xs[1]? := hx 1 _ rfl
  have e2 : DataW.trod enc Try.prog W 0 (fun _ => true) true n' 3 ((cs.drop 2).take (Try.prog.cellsOf 3)) = xs[2]? := hx 2 _ rfl
  have e3 : DataW.trod enc Try.prog W 0 (fun _ => true) true n' 3 ((cs.drop 3).take (Try.prog.cellsOf 3)) = xs[3]? := hx 3 _ rfl
  have e4 : DataW.trod enc Try.prog W 0 (fun _ => true) true n' 3 ((cs.drop 4).take (Try.prog.cellsOf 3)) = xs[4]? := hx 4 _ rfl
  have e5 : DataW.trod enc Try.prog W 0 (fun _ => true) true n' 3 ((cs.drop 5).take (Try.prog.cellsOf 3)) = xs[5]? := hx 5 _ rfl
  have e6 : DataW.trod enc Try.prog W 0 (fun _ => true) true n' 3 ((cs.drop 6).take (Try.prog.cellsOf 3)) = xs[6]? := hx 6 _ rfl
  have e7 : DataW.trod enc Try.prog W 0 (fun _ => true) true n' 3 ((cs.drop 7).take (Try.prog.cellsOf 3)) = xs[7]? := hx 7 _ rfl
  have e8 : DataW.trod enc Try.prog W 0 (fun _ => true) true n' 3 ((cs.drop 8).take (Try.prog.cellsOf 3)) = xs[8]? := hx 8 _ rfl
  have e9 : DataW.trod enc Try.prog W 0 (fun _ => true) true n' 3 ((cs.drop 9).take (Try.prog.cellsOf 3)) = xs[9]? := hx 9 _ rfl
  have e10 : DataW.trod enc Try.prog W 0 (fun _ => true) true n' 3 ((cs.drop 10).take (Try.prog.cellsOf 3)) = xs[10]? := hx 10 _ rfl
  have e11 : DataW.trod enc Try.prog W 0 (fun _ => true) true n' 3 ((cs.drop 11).take (Try.prog.cellsOf 3)) = xs[11]? := hx 11 _ rfl
  rw [cells_sint] at e2 e3 e4 e5 e6 e7 e8 e9 e10 e11
  rw [cells_sstr] at e0
  rw [cells_sstrs] at e1
  match cs, hV with
  | [a0, a1, a2, a3, a4, a5, a6, a7, a8, a9, a10, a11], _ =>
    have l3 : xs.length = 12 := hxl
    rw [List.getElem?_eq_getElem (by omega)] at e0 e1 e2 e3 e4 e5 e6 e7 e8 e9 e10 e11
    obtain ⟨z0, h0, _⟩ := DataW.trod_string Try.underlying9 e0
    obtain ⟨bo, N, cc, h1, _, _, hs⟩ := strs_of_trod e1
    obtain ⟨z2, h2, _⟩ := DataW.trod_int Try.underlying3 e2
    obtain ⟨z3, h3, _⟩ := DataW.trod_int Try.underlying3 e3
    obtain ⟨z4, h4, _⟩ := DataW.trod_int Try.underlying3 e4
    obtain ⟨z5, h5, _⟩ := DataW.trod_int Try.underlying3 e5
    obtain ⟨z6, h6, _⟩ := DataW.trod_int Try.underlying3 e6
    obtain ⟨z7, h7, _⟩ := DataW.trod_int Try.underlying3 e7
    obtain ⟨z8, h8, _⟩ := DataW.trod_int Try.underlying3 e8
    obtain ⟨z9, h9, _⟩ := DataW.trod_int Try.underlying3 e9
    obtain ⟨z10, h10, _⟩ := DataW.trod_int Try.underlying3 e10
    obtain ⟨z11, h11, _⟩ := DataW.trod_int Try.underlying3 e11
    simp at h0 h1 h2 h3 h4 h5 h6 h7 h8 h9 h10 h11
    exact ⟨⟨z0, .slice bo N.length cc, N, z2, z3, z4, z5, z6, z7, z8, z9, z10, z11⟩, by rw [h0, h1, h2, h3, h4, h5, h6, h7, h8, h9, h10, h11]; rfl, bo, cc, rfl, hs⟩
set_option maxRecDepth 100000 in
theorem open_cfg {H : Type} {enc : TypeId × Value → H} {W : World} {base : Nat} {v : Value} {d : DataW H} {ps : List MemPlace} (k : Value.okWide Try.prog W .any base 45 v) (h : DataW.Trod enc Try.prog W 0 (fun _ => true) true 45 v d ps) :
    ∃ c, v = .agg (Cc c).toArray ∧ CfOk W c := by
  obtain ⟨cs, rfl, hs⟩ := okWide_struct Try.underlying45 k
  obtain ⟨fuel, hf⟩ := h
  rw [cells_cfg] at hs
  obtain ⟨r, h1, h2⟩ := cfg_of_trod (cs := cs.toList) (by simpa using hs) (by simpa [Value.cells] using hf)
  exact ⟨r, by rw [← h1], h2⟩
set_option maxRecDepth 100000 in
theorem light_any (c : Cf) (ar ao : Option Addr) (n cap cc : Nat) (w : World) (hl : c.lv = .slice ar c.L.length cc) :
    Calls Try.prog 22 #[.agg (Cc c).toArray, .slice ao n cap] w fun e w' => e = .returned (.bool (decide (c.L.length ≤ 20) && decide (n ≤ 150))) ∧ Kp (fun _ => False) w w' := by
  obtain ⟨host, lv, L, i1, i2, i3, i4, i5, i6, i7, i8, i9, i10⟩ := c
  simp only at hl
  subst hl
  by_cases h1 : L.length ≤ 20
  · have q1 : (L.length : Int) ≤ 20 := by omega
    by_cases h2 : n ≤ 150
    · have q2 : (n : Int) ≤ 150 := by omega
      rw [decide_eq_true h1, decide_eq_true h2]
      go_enter Try.func22, Try.ntmps22
      unfold Cc
      go_wp2_with fail
      go_ret
      exact ⟨rfl, (by repeat (first | exact Kp.refl _ _ | apply Kp.drew | apply Kp.drewN | refine Kp.setCell ?_ _ _ (Or.inl rfl) | apply Kp.alloc))⟩
    · have q2 : ¬ (n : Int) ≤ 150 := by omega
      rw [decide_eq_true h1, decide_eq_false h2]
      go_enter Try.func22, Try.ntmps22
      unfold Cc
      go_wp2_with fail
      go_ret
      exact ⟨rfl, (by repeat (first | exact Kp.refl _ _ | apply Kp.drew | apply Kp.drewN | refine Kp.setCell ?_ _ _ (Or.inl rfl) | apply Kp.alloc))⟩
  · have q1 : ¬ (L.length : Int) ≤ 20 := by omega
    rw [decide_eq_false h1]
    go_enter Try.func22, Try.ntmps22
    unfold Cc
    go_wp2_with fail
    go_ret
    exact ⟨rfl, (by repeat (first | exact Kp.refl _ _ | apply Kp.drew | apply Kp.drewN | refine Kp.setCell ?_ _ _ (Or.inl rfl) | apply Kp.alloc))⟩
end Go.Proofs.Ytbiahndpfbmoeaa
