/- WordReads: the law returns true for every input. No condition. -/
import Derived.Test.YtihndplkkpglcaaWordOps
import Derived.Deep.QuietTactic
import Derived.BigQuiet
namespace Go.Proofs.Ytihndplkkpglcaa
open Go.RowKit Go.ChangeShapes Go.WideShapes Go.Deep

theorem src_row {w : World} {bo : Option Addr} {c : Nat} {N : List Int} (h : Src w bo c N) : Row1 w bo N.length (fun i => .int .u8 (N.getD i 0)) := by
  intro i hi
  have e : ∀ j, j < N.length → (Bc N)[j]? = some (.int .u8 (N.getD j 0)) := fun j hj => by simp [Bc, List.getElem?_eq_getElem hj, List.getD]
  cases bo with
  | none => rw [(h.1 rfl).1] at hi; cases hi
  | some ad =>
    have h0 := h.2 ad rfl 0 _ (e 0 (by omega))
    have h0' : w.cell? ad = _ := h0
    obtain ⟨hs, hb⟩ := spot_of_cell h0'
    have hi' := h.2 ad rfl i _ (e i hi)
    obtain ⟨b, off, sp⟩ := ad
    simp only at hs hb
    subst hs
    rw [Addr.add_lit] at hi'
    exact ⟨b, off, rfl, hb, hi'⟩

/-- the reader and the Eye, side by side -/
structure RI (W w : World) (r g x : Nat) (b : Bool) (o cap : Nat) (L : List Int) (ao : Option Addr) (cap2 : Nat) (L2 : List Int) : Prop where
  rd : RdAt w r g o cap b L
  ey : EyAt w x ao cap2 b L2
  same : b = false → L = L2
  b1 : Byt L
  b2 : Byt L2
  l2 : L2.length ≤ 2000
  r0 : W.heap.size ≤ r
  g0 : W.heap.size ≤ g
  x0 : W.heap.size ≤ x
  rx : r ≠ x
  gx : 0 < cap → g ≠ x
  a0 : L2 ≠ [] → ∀ bb off, ao = some ⟨bb, off, none⟩ → bb < W.heap.size
  kp : Kp (fun _ => False) W w
theorem RI.calm {W w w1 : World} {r g x : Nat} {b : Bool} {o cap : Nat} {L : List Int} {ao : Option Addr} {cap2 : Nat} {L2 : List Int} (h : RI W w r g x b o cap L ao cap2 L2) (hk : Kp (fun _ => False) w w1) : RI W w1 r g x b o cap L ao cap2 L2 :=
  ⟨h.rd.keep hk (fun h => h) (fun _ h => h), h.ey.keep hk (fun h => h) (fun _ _ _ _ h => h), h.same, h.b1, h.b2, h.l2, h.r0, h.g0, h.x0, h.rx, h.gx, h.a0, h.kp.trans hk⟩

/-- what the reader did, ahead of the Eye -/
structure Mid (W w : World) (r g x : Nat) (ok : Bool) (ao : Option Addr) (cap2 : Nat) (b : Bool) (L2 L' : List Int) : Prop where
  rd : ∃ o' cap', RdAt w r g o' cap' (!ok) L' ∧ (0 < cap' → g ≠ x)
  ey : EyAt w x ao cap2 b L2
  b1 : Byt L'
  b2 : Byt L2
  l2 : L2.length ≤ 2000
  r0 : W.heap.size ≤ r
  g0 : W.heap.size ≤ g
  x0 : W.heap.size ≤ x
  rx : r ≠ x
  a0 : L2 ≠ [] → ∀ bb off, ao = some ⟨bb, off, none⟩ → bb < W.heap.size
  kp : Kp (fun _ => False) W w
theorem RI.mid {W w w1 : World} {r g x : Nat} {b ok : Bool} {o cap : Nat} {L L' : List Int} {ao : Option Addr} {cap2 : Nat} {L2 : List Int} (h : RI W w r g x b o cap L ao cap2 L2) (hk : Kp (· = r) w w1)
    (hr : ∃ o' cap', RdAt w1 r g o' cap' (!ok) L' ∧ cap' ≤ cap) (hb : Byt L') : Mid W w1 r g x ok ao cap2 b L2 L' :=
  ⟨hr.imp fun _ ⟨c, h1, h2⟩ => ⟨c, h1, fun h0 => h.gx (by omega)⟩, h.ey.keep hk (fun e => h.rx e.symm) (fun hne bb off e e2 => by have := h.a0 hne bb off e; have := h.r0; omega), hb, h.b2, h.l2, h.r0, h.g0, h.x0, h.rx, h.a0, h.kp.trans_new hk (fun k h1 h2 => by have := h.r0; omega)⟩
theorem Mid.back {W w w1 : World} {r g x : Nat} {b ok : Bool} {L' : List Int} {ao ao' : Option Addr} {cap2 cap3 : Nat} {L2 L3 : List Int} (h : Mid W w r g x ok ao cap2 b L2 L') (hk : Kp (· = x) w w1)
    (he : EyAt w1 x ao' cap3 (!ok) L3) (hs : ok = true → L' = L3) (hb : Byt L3) (hl : L3.length ≤ 2000) (ha : L3 ≠ [] → ∀ bb off, ao' = some ⟨bb, off, none⟩ → bb < W.heap.size) : ∃ o' cap', RI W w1 r g x (!ok) o' cap' L' ao' cap3 L3 := by
  obtain ⟨o', cap', hr, hgx⟩ := h.rd
  exact ⟨o', cap', hr.keep hk h.rx (fun hne => hgx (by have := List.length_pos_iff.2 hne; have := hr.fit; omega)), he, (fun e => hs (by simpa using e)), h.b1, hb, hl, h.r0, h.g0, h.x0, h.rx, hgx, ha, h.kp.trans_new hk (fun k h1 h2 => by have := h.x0; omega)⟩

/-- what the Eye's number must be -/
def Mn (b ok : Bool) (m : Int) (L2 L' : List Int) : Prop :=
  (ok = true ∧ b = false ∧ 8 ≤ L2.length ∧ dec (L2.take 8) ≤ 4611686018427387904 ∧ m = dec (L2.take 8) ∧ L' = L2.drop 8) ∨ (ok = false ∧ m = 0 ∧ ((b = true ∨ L2.length < 8) ∨ (b = false ∧ 8 ≤ L2.length ∧ ¬ dec (L2.take 8) ≤ 4611686018427387904)))
def RnPost (W : World) (r g x : Nat) (b : Bool) (ao : Option Addr) (cap2 : Nat) (L2 : List Int) (e : Ending) (w1 : World) : Prop :=
  ∃ m ok L', e = .returned (.tuple #[.int .i64 m, .bool ok]) ∧ Mn b ok m L2 L' ∧ Mid W w1 r g x ok ao cap2 b L2 L'
theorem rnum_ri {W w : World} {r g x : Nat} {b : Bool} {o cap : Nat} {L : List Int} {ao : Option Addr} {cap2 : Nat} {L2 : List Int} (h : RI W w r g x b o cap L ao cap2 L2) :
    Calls Try.prog 37 #[.pointer (some ⟨r, 0, none⟩)] w (RnPost W r g x b ao cap2 L2) := by
  by_cases h1 : b = true ∨ L.length < 8
  · refine (rnum_no r g o cap b L w h.rd h1).mono ?_; rintro e w1 ⟨rfl, hr, hk⟩
    refine ⟨0, false, L, rfl, Or.inr ⟨rfl, rfl, Or.inl (h1.elim Or.inl (fun hl => ?_))⟩, h.mid hk ⟨_, _, hr, by omega⟩ h.b1⟩
    cases b with
    | true => exact Or.inl rfl
    | false => rw [← h.same rfl]; exact Or.inr hl
  · obtain rfl : b = false := by cases b with | false => rfl | true => exact absurd (Or.inl rfl) h1
    have hL : 8 ≤ L.length := by omega
    have hs := h.same rfl
    refine (rnum_any r g o cap L w h.rd hL h.b1).mono ?_; rintro e w1 ⟨hd, hk⟩
    by_cases h62 : dec (L.take 8) ≤ 4611686018427387904
    · rw [if_pos h62] at hd
      obtain ⟨rfl, o1, hr, _⟩ := hd
      rw [hs] at h62 hL
      exact ⟨_, true, L.drop 8, rfl, Or.inl ⟨rfl, rfl, hL, h62, by rw [hs], by rw [hs]⟩, h.mid hk ⟨_, _, hr, by omega⟩ (h.b1.drop 8)⟩
    · rw [if_neg h62] at hd
      obtain ⟨rfl, o1, hr⟩ := hd
      rw [hs] at h62 hL
      exact ⟨_, false, L.drop 8, rfl, Or.inr ⟨rfl, rfl, Or.inr ⟨rfl, hL, h62⟩⟩, h.mid hk ⟨_, _, hr, by omega⟩ (h.b1.drop 8)⟩
def EnPost (W : World) (r g x : Nat) (ok : Bool) (m : Int) (e : Ending) (w1 : World) : Prop :=
  e = .returned (.int .i64 m) ∧ ∃ o' cap' L' ao' cap3 L3, RI W w1 r g x (!ok) o' cap' L' ao' cap3 L3
theorem eyenum_ri {W w : World} {r g x : Nat} {b ok : Bool} {m : Int} {L' : List Int} {ao : Option Addr} {cap2 : Nat} {L2 : List Int} (hm : Mn b ok m L2 L') (h : Mid W w r g x ok ao cap2 b L2 L') :
    Calls Try.prog 38 #[.pointer (some ⟨x, 0, none⟩)] w (EnPost W r g x ok m) := by
  rcases hm with ⟨rfl, rfl, h8, h62, rfl, rfl⟩ | ⟨rfl, rfl, h1 | ⟨rfl, h8, h62⟩⟩
  · refine (eyenum_any x ao cap2 L2 w h.ey h8 h.b2).mono ?_; rintro e w1 ⟨hd, hk⟩
    rw [if_pos h62] at hd
    obtain ⟨rfl, gg, o, o', rfl, he⟩ := hd
    obtain ⟨o1, c1, hr⟩ := h.back hk he (fun _ => rfl) (h.b2.drop 8) (by rw [List.length_drop]; have := h.l2; omega) (fun hne bb off e => by cases e; exact h.a0 (by intro e2; rw [e2] at hne; simp at hne) _ o rfl)
    exact ⟨rfl, _, _, _, _, _, _, hr⟩
  · refine (eyenum_no x ao cap2 b L2 w h.ey h1).mono ?_; rintro e w1 ⟨rfl, he, hk⟩
    obtain ⟨o1, c1, hr⟩ := h.back hk he (fun e => by cases e) h.b2 h.l2 h.a0
    exact ⟨rfl, _, _, _, _, _, _, hr⟩
  · refine (eyenum_any x ao cap2 L2 w h.ey h8 h.b2).mono ?_; rintro e w1 ⟨hd, hk⟩
    rw [if_neg h62] at hd
    obtain ⟨rfl, he⟩ := hd
    obtain ⟨o1, c1, hr⟩ := h.back hk he (fun e => by cases e) h.b2 h.l2 h.a0
    exact ⟨rfl, _, _, _, _, _, _, hr⟩

/-- what the Eye's bytes must be -/
def Mb (b ok : Bool) (N L2 L' : List Int) : Prop :=
  (ok = true ∧ b = false ∧ Rok L2 ∧ dec (L2.take 8) = N.length ∧ (L2.drop 8).take N.length = N ∧ L' = L2.drop (8 + N.length)) ∨ (ok = false ∧ N = [] ∧ (b = true ∨ ¬ Rok L2))
def RbPost (W : World) (r g x : Nat) (b : Bool) (ao : Option Addr) (cap2 : Nat) (L2 : List Int) (e : Ending) (w1 : World) : Prop :=
  ∃ uo c N ok L', e = .returned (.tuple #[.slice uo N.length c, .bool ok]) ∧ Src w1 uo c N ∧ (∀ ad, uo = some ad → ad.block ≠ x) ∧ Mb b ok N L2 L' ∧ Mid W w1 r g x ok ao cap2 b L2 L'
theorem rbytes_ri {W w : World} {r g x : Nat} {b : Bool} {o cap : Nat} {L : List Int} {ao : Option Addr} {cap2 : Nat} {L2 : List Int} (h : RI W w r g x b o cap L ao cap2 L2) :
    Calls Try.prog 39 #[.pointer (some ⟨r, 0, none⟩)] w (RbPost W r g x b ao cap2 L2) := by
  by_cases h1 : b = true ∨ ¬ Rok L
  · refine (rbytes_no r g o cap b L w h.rd h.b1 h1).mono ?_; rintro e w1 ⟨rfl, ⟨o1, c1, L', hr, hb, hc1⟩, hk⟩
    refine ⟨none, 0, [], false, L', rfl, ⟨fun _ => ⟨rfl, rfl⟩, (fun ad e => by cases e)⟩, (fun ad e => by cases e), Or.inr ⟨rfl, rfl, h1.elim Or.inl (fun hl => ?_)⟩, h.mid hk ⟨_, _, hr, by omega⟩ hb⟩
    cases b with
    | true => exact Or.inl rfl
    | false => rw [← h.same rfl]; exact Or.inr hl
  · obtain rfl : b = false := by cases b with | false => rfl | true => exact absurd (Or.inl rfl) h1
    have hL : Rok L := by
      by_cases hr : Rok L
      · exact hr
      · exact absurd (Or.inr hr) h1
    obtain rfl := h.same rfl
    have d0 := (dec_bounds (h.b1.take 8)).1
    obtain ⟨n, hn⟩ := Int.eq_ofNat_of_zero_le d0
    have hnl : ((L.drop 8).take n).length = n := by
      have := hL.2.2
      rw [List.length_take, List.length_drop]; omega
    refine (rbytes_any r g o cap n L w h.rd h.b1 hL hn).mono ?_; rintro e w1 ⟨o1, o2, rfl, hc, hr, hk⟩
    refine ⟨some ⟨g, o1, none⟩, n, (L.drop 8).take n, true, L.drop (8 + n), by rw [hnl], Src.of_row (fun j hj => hc j (by omega)), (fun ad e => by cases e; exact h.gx (by have := hL.1; have := h.rd.fit; omega)), Or.inl ⟨rfl, rfl, hL, by rw [hnl]; exact hn, by rw [hnl], by rw [hnl]⟩, h.mid hk ⟨_, _, hr, by omega⟩ (h.b1.drop _)⟩
def EbPost (W w : World) (r g x : Nat) (ok : Bool) (N : List Int) (e : Ending) (w1 : World) : Prop :=
  ∃ uo c, e = .returned (.slice uo N.length c) ∧ Src w1 uo c N ∧ Kp (· = x) w w1 ∧ ∃ o' cap' L' ao' cap3 L3, RI W w1 r g x (!ok) o' cap' L' ao' cap3 L3
theorem eyebytes_ri {W w : World} {r g x : Nat} {b ok : Bool} {N L' : List Int} {ao : Option Addr} {cap2 : Nat} {L2 : List Int} (hm : Mb b ok N L2 L') (h : Mid W w r g x ok ao cap2 b L2 L') :
    Calls Try.prog 40 #[.pointer (some ⟨x, 0, none⟩)] w (EbPost W w r g x ok N) := by
  rcases hm with ⟨rfl, rfl, hok, hn, hN, rfl⟩ | ⟨rfl, rfl, h1⟩
  · refine (eyebytes_any x ao cap2 N.length L2 w h.ey h.b2 hok hn (by have := h.l2; omega)).mono ?_; rintro e w1 ⟨v, ao', rfl, hown, he, ha, hk⟩
    rw [hN] at hown
    obtain ⟨au, cu, rfl⟩ := (own_weaken hown).slice
    obtain ⟨o1, c1, hr⟩ := h.back hk he (fun _ => rfl) (h.b2.drop _) (by rw [List.length_drop]; have := h.l2; omega) (fun hne bb off e => by
      obtain ⟨off', e'⟩ := ha bb off e
      exact h.a0 (by intro e2; rw [e2] at hne; simp at hne) bb off' e')
    exact ⟨au, cu, rfl, Src.own (own_weaken hown) rfl, hk, _, _, _, _, _, _, hr⟩
  · refine (eyebytes_no x ao cap2 b L2 w h.ey h.b2 h1).mono ?_; rintro e w1 ⟨rfl, he, hk⟩
    obtain ⟨o1, c1, hr⟩ := h.back hk he (fun e => by cases e) h.b2 h.l2 h.a0
    exact ⟨none, 0, rfl, ⟨fun _ => ⟨rfl, rfl⟩, (fun ad e => by cases e)⟩, hk, _, _, _, _, _, _, hr⟩

theorem rdone_as {w0 w : World} {r g o cap : Nat} {b : Bool} {L : List Int} {d : Bool} (hr : RdAt w0 r g o cap b L) (hd : Dn b L = d) (hk : Kp (fun _ => False) w0 w) :
    Calls Try.prog 41 #[.pointer (some ⟨r, 0, none⟩)] w fun e w' => e = .returned (.bool d) ∧ w = w' := by
  rw [← hd]
  exact rdone_any r g o cap b L w (hr.keep hk (fun h => h) (fun _ h => h))

set_option maxRecDepth 100000 in
set_option maxHeartbeats 1600000 in
theorem wordReads_law {H : Type} {enc' : TypeId × Value → H} (W : World) {base : Nat} (v0 v1 : Value) (d0 d1 : DataW H) (p0 p1 : List MemPlace)
    (k0 : Value.okWide Try.prog W .any base 22 v0) (k1 : Value.okWide Try.prog W .any base 46 v1)
    (h0 : DataW.Trod enc' Try.prog W 0 (fun _ => true) true 22 v0 d0 p0) (h1 : DataW.Trod enc' Try.prog W 0 (fun _ => true) true 46 v1 d1 p1) :
    Calls Try.prog 10 #[v0, v1] W fun e W' => e = .returned (.bool true) ∧ Below W.heap.size W W' := by
  obtain ⟨ao, M, cap, rfl, hMc, hcap, hrow, hok⟩ := open_ops k1 h1
  obtain ⟨fuel, hf⟩ := slice_trod Try.underlying22 k0 h0
  obtain ⟨bo, B, bc, hB, hBc, hbc, hsrc, hbyt⟩ := bytes_of_trod (hf _ rfl)
  obtain rfl : v0 = .slice bo B.length bc := by simpa using hB
  clear h0 k0 h1 k1 hok hf hB
  have HR := Lib.hid hrow; have HS := Lib.hid hsrc; have HB := Lib.hid hbyt; clear hrow hsrc hbyt
  by_cases hbig : 2000 < B.length ∨ 100 < M.length
  · by_cases h5 : 2000 < B.length
    · clear hbig
      go_enter Try.func10, Try.ntmps10
      go_wp2_with fail
      refine (w3ans_any _).mono ?_; rintro e w1 ⟨rfl, hk1⟩
      go_wp2_with fail
      go_ret
      exact ⟨rfl, hk1.below (fun _ _ h => h)⟩
    · have h50 : 100 < M.length := by omega
      clear hbig
      go_enter Try.func10, Try.ntmps10
      go_wp2_with fail
      refine (w3ans_any _).mono ?_; rintro e w1 ⟨rfl, hk1⟩
      go_wp2_with fail
      go_ret
      exact ⟨rfl, hk1.below (fun _ _ h => h)⟩
  have hB2 : B.length ≤ 2000 := by omega
  have hM1 : M.length ≤ 100 := by omega
  clear hbig
  go_enter Try.func10, Try.ntmps10
  go_wp2_with fail
  refine (read_any bo bc B _ HS.out (by omega)).mono ?_; rintro e w1 ⟨r, g, rfl, hr0, hg0, hrd, hk1⟩
  have hri : RI W (w1.alloc (.cells #[.slice bo B.length bc, .bool false] 64)) r g w1.heap.size false 0 B.length B bo bc B := by
    have hrl := lt_of_block hrd.head
    have hka := (Kp.refl (fun _ => False) w1).alloc (.cells #[.slice bo B.length bc, .bool false] 64)
    have hb := src_row HS.out
    refine ⟨hrd.keep hka (fun h => h) (fun _ h => h), ⟨heap_new _, hb.keep (hk1.trans hka) (fun _ _ h => h), hBc, fun hne b2 o2 e2 => ?_⟩, fun _ => rfl, HB.out, HB.out, hB2, hr0, hg0, hk1.size, by omega, fun hne e => ?_, fun hne b2 o2 e2 => ?_, hk1.trans hka⟩
    · obtain ⟨bb, off, e, hbb, _⟩ := hb 0 (List.length_pos_iff.2 hne)
      rw [e2] at e; cases e
      have := hk1.size; omega
    · have := cell_lt (hrd.cell 0 hne); rw [e] at this; simp at this
    · obtain ⟨bb, off, e, hbb, _⟩ := hb 0 (List.length_pos_iff.2 hne)
      rw [e2] at e; cases e
      exact hbb
  have HRI0 := Lib.hid hri; clear hri hrd hk1
  go_wp2_with fail
  go_loopg [7] M.length (fun k i wr => ∃ (j : Nat) (b : Bool) (o cp : Nat) (L : List Int) (ae : Option Addr) (cp2 : Nat) (L2 : List Int), k = M.length - j ∧ j ≤ M.length ∧ i = .int .i64 j ∧ RI W wr r g w1.heap.size b o cp L ae cp2 L2)
  case atStart => exact ⟨0, false, 0, B.length, B, bo, bc, B, rfl, Nat.zero_le _, rfl, HRI0.out⟩
  case round =>
    obtain ⟨j, b, o, cp, L, ae, cp2, L2, hk, hj, rfl, hri⟩ := hrel
    have HKk := Lib.hid hk; have HRI := Lib.hid hri; clear hk hri
    by_cases hlt : j < M.length
    · obtain ⟨bb, off, rfl, hb, hcell⟩ := HR.out.get hlt
      obtain ⟨q, hr⟩ : ∃ q, q = M.getD j op0 := ⟨_, rfl⟩
      obtain ⟨kd, n, ob, c, N0⟩ := q
      have c0 := (HRI.out.kp.cell (off + j * 3 + 0) hb (fun h => h)).trans (hcell j hlt 0 (.int .i64 kd) (by rw [← hr]; rfl))
      rw [Nat.add_zero] at c0
      clear hr hcell
      by_cases hkd : kd = 1
      · subst hkd
        go_wp2_with fail
        refine (rnum_ri HRI.out).mono ?_; rintro e w2 ⟨m, ok, L', rfl, hm, hmid⟩
        have HM := Lib.hid hm; have HMID := Lib.hid hmid; clear hm hmid
        go_wp2_with fail
        refine (eyenum_ri HM.out HMID.out).mono ?_; rintro e w3 ⟨rfl, o', cp', L1, ae', cp3, L3, hri3⟩
        have HR3 := Lib.hid hri3; clear hri3
        have y0 := cell_of HR3.out.ey.head 0
        have y1 := cell_of HR3.out.ey.head 1
        simp only [List.getElem?_toArray, List.getElem?_cons_zero, List.getElem?_cons_succ] at y0 y1
        have hxl := lt_of_block HR3.out.ey.head
        cases ok with
        | false =>
          simp only [Bool.not_false] at y1
          go_wp2_with fail
          go_quiet (first | (go_at_call 41; exact Calls.quiet_of_same ((rdone_as (d := false) HR3.out.rd rfl (by first | exact Kp.refl _ _ | exact (Kp.refl _ _).drew | exact (Kp.refl _ _).drewN _)).flip)))
          go_wp2_with fail
          go_roundg (M.length - (j + 1))
          case measure => rw [HKk.out]; omega
          case rel => exact ⟨j + 1, true, _, _, _, _, _, _, rfl, by omega, by go_num, HR3.out.calm (by first | exact Kp.refl _ _ | exact (Kp.refl _ _).drew | exact (Kp.refl _ _).drewN _)⟩
        | true =>
          simp only [Bool.not_true] at y1
          have hs := HR3.out.same rfl
          by_cases hL3 : L3 = []
          · subst hL3
            subst hs
            go_wp2_with fail
            go_quiet (first | (go_at_call 41; exact Calls.quiet_of_same ((rdone_as (d := true) HR3.out.rd rfl (by first | exact Kp.refl _ _ | exact (Kp.refl _ _).drew | exact (Kp.refl _ _).drewN _)).flip)))
            go_wp2_with fail
            go_roundg (M.length - (j + 1))
            case measure => rw [HKk.out]; omega
            case rel => exact ⟨j + 1, false, _, _, _, _, _, _, rfl, by omega, by go_num, HR3.out.calm (by first | exact Kp.refl _ _ | exact (Kp.refl _ _).drew | exact (Kp.refl _ _).drewN _)⟩
          · have hDn := Lib.hid (show Dn false L1 = false by rw [hs]; cases L3 with | nil => exact absurd rfl hL3 | cons a l => rfl)
            have hL3p : 0 < L3.length := List.length_pos_iff.2 hL3
            clear hs
            go_wp2_with fail
            go_quiet (first | (go_at_call 41; exact Calls.quiet_of_same ((rdone_as (d := false) HR3.out.rd hDn.out (by first | exact Kp.refl _ _ | exact (Kp.refl _ _).drew | exact (Kp.refl _ _).drewN _)).flip)))
            go_wp2_with fail
            go_roundg (M.length - (j + 1))
            case measure => rw [HKk.out]; omega
            case rel => exact ⟨j + 1, false, _, _, _, _, _, _, rfl, by omega, by go_num, HR3.out.calm (by first | exact Kp.refl _ _ | exact (Kp.refl _ _).drew | exact (Kp.refl _ _).drewN _)⟩
      · go_wp2_with fail
        refine (rbytes_ri HRI.out).mono ?_; rintro e w2 ⟨uo, uc, N, ok, L', rfl, hsu, hux, hm, hmid⟩
        have HM := Lib.hid hm; have HMID := Lib.hid hmid; have HSU := Lib.hid hsu; have HUX := Lib.hid hux; clear hm hmid hsu hux
        go_wp2_with fail
        refine (eyebytes_ri HM.out HMID.out).mono ?_; rintro e w3 ⟨xo, xc, rfl, hsx, hkx, o', cp', L1, ae', cp3, L3, hri3⟩
        obtain ⟨S, hS⟩ : ∃ S, S = Str N := ⟨_, rfl⟩
        have hv1 : (convert 22 9 (.slice uo N.length uc)).run Try.prog w3 = .ok (.string S) w3 := by rw [hS]; exact run_str (HSU.out.keep hkx (fun ad ha _ => HUX.out ad ha))
        have hv2 : (convert 22 9 (.slice xo N.length xc)).run Try.prog w3 = .ok (.string S) w3 := by rw [hS]; exact run_str hsx
        clear hS hsx hkx
        have HR3 := Lib.hid hri3; clear hri3
        have y0 := cell_of HR3.out.ey.head 0
        have y1 := cell_of HR3.out.ey.head 1
        simp only [List.getElem?_toArray, List.getElem?_cons_zero, List.getElem?_cons_succ] at y0 y1
        have hxl := lt_of_block HR3.out.ey.head
        cases ok with
        | false =>
          simp only [Bool.not_false] at y1
          go_wp2_with fail
          go_quiet (first | (go_at_call 41; exact Calls.quiet_of_same ((rdone_as (d := false) HR3.out.rd rfl (by first | exact Kp.refl _ _ | exact (Kp.refl _ _).drew | exact (Kp.refl _ _).drewN _)).flip)))
          go_wp2_with fail
          go_roundg (M.length - (j + 1))
          case measure => rw [HKk.out]; omega
          case rel => exact ⟨j + 1, true, _, _, _, _, _, _, rfl, by omega, by go_num, HR3.out.calm (by first | exact Kp.refl _ _ | exact (Kp.refl _ _).drew | exact (Kp.refl _ _).drewN _)⟩
        | true =>
          simp only [Bool.not_true] at y1
          have hs := HR3.out.same rfl
          by_cases hL3 : L3 = []
          · subst hL3
            subst hs
            go_wp2_with fail
            go_quiet (first | (go_at_call 41; exact Calls.quiet_of_same ((rdone_as (d := true) HR3.out.rd rfl (by first | exact Kp.refl _ _ | exact (Kp.refl _ _).drew | exact (Kp.refl _ _).drewN _)).flip)))
            go_wp2_with fail
            go_roundg (M.length - (j + 1))
            case measure => rw [HKk.out]; omega
            case rel => exact ⟨j + 1, false, _, _, _, _, _, _, rfl, by omega, by go_num, HR3.out.calm (by first | exact Kp.refl _ _ | exact (Kp.refl _ _).drew | exact (Kp.refl _ _).drewN _)⟩
          · have hDn := Lib.hid (show Dn false L1 = false by rw [hs]; cases L3 with | nil => exact absurd rfl hL3 | cons a l => rfl)
            have hL3p : 0 < L3.length := List.length_pos_iff.2 hL3
            clear hs
            go_wp2_with fail
            go_quiet (first | (go_at_call 41; exact Calls.quiet_of_same ((rdone_as (d := false) HR3.out.rd hDn.out (by first | exact Kp.refl _ _ | exact (Kp.refl _ _).drew | exact (Kp.refl _ _).drewN _)).flip)))
            go_wp2_with fail
            go_roundg (M.length - (j + 1))
            case measure => rw [HKk.out]; omega
            case rel => exact ⟨j + 1, false, _, _, _, _, _, _, rfl, by omega, by go_num, HR3.out.calm (by first | exact Kp.refl _ _ | exact (Kp.refl _ _).drew | exact (Kp.refl _ _).drewN _)⟩
    · go_wp2_with fail
      refine (w3ans_any _).mono ?_; rintro e w2 ⟨rfl, hk2⟩
      go_wp2_with fail
      go_ret
      exact ⟨rfl, (HRI.out.kp.trans hk2).below (fun _ _ h => h)⟩
end Go.Proofs.Ytihndplkkpglcaa
