/- What the reference's Eye does, the rest. Condition: bytes are bytes. -/
import Derived.Test.YtihndplkkpglcaaEye
namespace Go.Proofs.Ytihndplkkpglcaa
open Go.RowKit

theorem EyAt.copy {w : World} {x : Nat} {ao : Option Addr} {cap : Nat} {b : Bool} {L : List Int} (h : EyAt w x ao cap b L) :
    EyAt (w.alloc (.cells #[.slice ao L.length cap, .bool b] 64)) w.heap.size ao cap b L := by
  refine ⟨heap_new _, (h.keep ((Kp.refl (fun _ => False) w).alloc _) (fun h => h) (fun _ _ _ _ h => h)).row, h.fit, fun hne bb off e => ?_⟩
  cases L with
  | nil => exact absurd rfl hne
  | cons a L =>
    obtain ⟨b', off', e', hb', _⟩ := h.row 0 (by simp)
    rw [e] at e'
    cases e'
    omega
theorem eyebytes_no (x : Nat) (ao : Option Addr) (cap : Nat) (b : Bool) (L : List Int) (w : World) (hx : EyAt w x ao cap b L) (hb : Byt L) (hok : b = true ∨ ¬ Rok L) :
    Calls Try.prog 40 #[.pointer (some ⟨x, 0, none⟩)] w fun e w' => e = .returned (.slice none 0 0) ∧ EyAt w' x ao cap true L ∧ Kp (· = x) w w' := by
  have c0 := cell_of hx.head 0
  have c1 := cell_of hx.head 1
  simp only [List.getElem?_toArray, List.getElem?_cons_zero, List.getElem?_cons_succ] at c0 c1
  have f1 := frozen_of hx.head 1
  have hlt := lt_of_block hx.head
  have HX := Lib.hid hx; have HB := Lib.hid hb; clear hx hb
  -- the copy
  have hy := Lib.hid (EyAt.copy HX.out)
  by_cases h1 : b = true ∨ L.length < 8
  · have H1 := Lib.hid h1; clear hok h1
    go_enter Try.func40, Try.ntmps40
    go_wp2_with fail
    refine (eyenum_no w.heap.size ao cap b L _ hy.out H1.out).mono ?_; rintro e w1 ⟨rfl, hy1, hk⟩
    have hx1 := (hk.cell 1 (show x < (w.alloc _).heap.size by simp; omega) (show ¬ x = w.heap.size by omega)).trans ((World.cell?_alloc_past _ _ _ hlt).trans c1)
    have e1 := (hk.frozen 1 (show x < (w.alloc _).heap.size by simp; omega) (show ¬ x = w.heap.size by omega)).trans ((World.frozen?_alloc_past _ _ _ hlt).trans f1)
    have y0 := cell_of hy1.head 0
    have y1 := cell_of hy1.head 1
    simp only [List.getElem?_toArray, List.getElem?_cons_zero, List.getElem?_cons_succ] at y0 y1
    have HKW := Lib.hid (((Kp.refl (fun _ => False) w).alloc _).trans_new hk (S := fun _ => False) (fun k h1 h2 => by have h3 : k = w.heap.size := h2; omega))
    have HX1 := Lib.hid ((HX.out.keep HKW.out (fun h => h) (fun _ _ _ _ h => h)).spoil)
    clear hk hy1
    go_wp2_with fail
    go_ret
    exact ⟨rfl, HX1.out, (HKW.out.mono (fun k _ h => h.elim)).setCell _ _ (Or.inl rfl)⟩
  · obtain rfl : b = false := by cases b with | false => rfl | true => exact absurd (Or.inl rfl) h1
    have h8 : 8 ≤ L.length := by omega
    have hnr : ¬ Rok L := by simpa using hok
    by_cases h62 : dec (L.take 8) ≤ 4611686018427387904
    · have hbig : (L.length : Int) - 8 < dec (L.take 8) := by unfold Rok at hnr; omega
      obtain ⟨n, hn⟩ : ∃ n, n = dec (L.take 8) := ⟨_, rfl⟩
      rw [← hn] at hbig h62
      have HN := Lib.hid hn; have H62 := Lib.hid h62
      clear hok hnr h1 hn h62
      go_enter Try.func40, Try.ntmps40
      go_wp2_with fail
      refine (eyenum_any w.heap.size ao cap L _ hy.out h8 HB.out).mono ?_; rintro e w1 ⟨hd, hk⟩
      rw [← HN.out, if_pos H62.out] at hd
      obtain ⟨rfl, g, o, o', rfl, hy1⟩ := hd
      have hl := List.length_drop (i := 8) (l := L)
      have hl2 : ((L.drop 8).length : Int) < n := by omega
      clear hl
      have hx1 := (hk.cell 1 (show x < (w.alloc _).heap.size by simp; omega) (show ¬ x = w.heap.size by omega)).trans ((World.cell?_alloc_past _ _ _ hlt).trans c1)
      have e1 := (hk.frozen 1 (show x < (w.alloc _).heap.size by simp; omega) (show ¬ x = w.heap.size by omega)).trans ((World.frozen?_alloc_past _ _ _ hlt).trans f1)
      have y0 := cell_of hy1.head 0
      have y1 := cell_of hy1.head 1
      simp only [List.getElem?_toArray, List.getElem?_cons_zero, List.getElem?_cons_succ] at y0 y1
      have HKW := Lib.hid (((Kp.refl (fun _ => False) w).alloc _).trans_new hk (S := fun _ => False) (fun k h1 h2 => by have h3 : k = w.heap.size := h2; omega))
      have HX1 := Lib.hid ((HX.out.keep HKW.out (fun h => h) (fun _ _ _ _ h => h)).spoil)
      clear hk hy1
      go_wp2_with fail
      go_ret
      exact ⟨rfl, HX1.out, (HKW.out.mono (fun k _ h => h.elim)).setCell _ _ (Or.inl rfl)⟩
    · have H62 := Lib.hid h62
      clear hok hnr h1 h62
      go_enter Try.func40, Try.ntmps40
      go_wp2_with fail
      refine (eyenum_any w.heap.size ao cap L _ hy.out h8 HB.out).mono ?_; rintro e w1 ⟨hd, hk⟩
      rw [if_neg (by have := H62.out; omega)] at hd
      obtain ⟨rfl, hy1⟩ := hd
      have hx1 := (hk.cell 1 (show x < (w.alloc _).heap.size by simp; omega) (show ¬ x = w.heap.size by omega)).trans ((World.cell?_alloc_past _ _ _ hlt).trans c1)
      have e1 := (hk.frozen 1 (show x < (w.alloc _).heap.size by simp; omega) (show ¬ x = w.heap.size by omega)).trans ((World.frozen?_alloc_past _ _ _ hlt).trans f1)
      have y0 := cell_of hy1.head 0
      have y1 := cell_of hy1.head 1
      simp only [List.getElem?_toArray, List.getElem?_cons_zero, List.getElem?_cons_succ] at y0 y1
      have HKW := Lib.hid (((Kp.refl (fun _ => False) w).alloc _).trans_new hk (S := fun _ => False) (fun k h1 h2 => by have h3 : k = w.heap.size := h2; omega))
      have HX1 := Lib.hid ((HX.out.keep HKW.out (fun h => h) (fun _ _ _ _ h => h)).spoil)
      clear hk hy1
      go_wp2_with fail
      go_ret
      exact ⟨rfl, HX1.out, (HKW.out.mono (fun k _ h => h.elim)).setCell _ _ (Or.inl rfl)⟩

/-- the bytes that the Eye reads, and what is left -/
def Eyeb (x : Nat) (ao : Option Addr) (cap n : Nat) (L : List Int) (w : World) (e : Ending) (w' : World) : Prop :=
  ∃ v ao', e = .returned v ∧ w'.ownsRow w.heap.size 5 1 v n (Bc ((L.drop 8).take n)) ∧ EyAt w' x ao' (cap - 8 - n) false (L.drop (8 + n)) ∧ (∀ b off, ao' = some ⟨b, off, none⟩ → ∃ off', ao = some ⟨b, off', none⟩) ∧ Kp (· = x) w w'
theorem eyeb_close {x g o o' off cp n cap : Nat} {L M : List Int} {w w1 w2 : World} {v2 : Value} (HX1 : EyAt w1 x (some ⟨g, o, none⟩) cap false L)
    (HROW : ∀ j, j < M.length → w1.cell? ⟨g, o' + j, none⟩ = some (.int .u8 (M.getD j 0))) (HM : M = L.drop 8) (HCP : cp = cap - 8) (hgx : g ≠ x) (hn : n ≤ M.length) (hoff : n < M.length → off = o' + n)
    (HO2 : w2.ownsRow w1.heap.size 5 1 v2 (0 + n) ([] ++ Bc (M.take n))) (HK2 : Kp (fun _ => False) w1 w2) (HKW : Kp (fun _ => False) w w1) (hxlt : x < w.heap.size) :
    Eyeb x (some ⟨g, o, none⟩) cap n L w (.returned v2) (w2.setCell ⟨x, 0, none⟩ (.slice (some ⟨g, off, none⟩) (M.length - n) (cp - n))) := by
  have hk := (Kp.refl (· = x) w2).setCell ⟨x, 0, none⟩ (.slice (some ⟨g, off, none⟩) (M.length - n) (cp - n)) (Or.inl rfl)
  have hl : (L.drop (8 + n)).length = M.length - n := by rw [HM, List.length_drop, List.length_drop]; omega
  have hML : M.length = L.length - 8 := by rw [HM, List.length_drop]
  have hf := HX1.fit
  subst HCP
  refine ⟨v2, some ⟨g, off, none⟩, rfl, ?_, ⟨?_, fun i hi => ?_, ?_, fun _ b of e => by cases e; exact hgx⟩, fun b of e => by cases e; exact ⟨o, rfl⟩, ?_⟩
  · rw [Nat.zero_add, List.nil_append] at HO2
    rw [← HM]
    exact own_keep (B := w.heap.size) ⟨HO2.1, HO2.2.imp id (fun ⟨gg, c, cu, h1, h2, h3⟩ => ⟨gg, c, cu, h1, Nat.le_trans HKW.size h2, h3⟩)⟩ hk (fun k h1 h2 => by omega)
  · rw [hl]; exact heap_set (HK2.keep HX1.head (fun h => h)) _
  · rw [hl] at hi
    have hc := HROW (n + i) (by omega)
    have hb : g < w1.heap.size := cell_lt hc
    refine ⟨g, off, rfl, Nat.lt_of_lt_of_le hb (Nat.le_trans HK2.size hk.size), (hk.cell _ (Nat.lt_of_lt_of_le hb HK2.size) hgx).trans ((HK2.cell _ hb (fun h => h)).trans ?_)⟩
    rw [hoff (by omega), show o' + n + i = o' + (n + i) by omega, hc, HM]
    simp [List.getD, List.getElem?_drop, Nat.add_assoc]
  · rw [hl]; omega
  · exact ((HKW.trans HK2).mono (fun k _ h => h.elim)).setCell _ _ (Or.inl rfl)

set_option maxHeartbeats 800000 in
theorem eyebytes_any (x : Nat) (ao : Option Addr) (cap n : Nat) (L : List Int) (w : World) (hx : EyAt w x ao cap false L) (hb : Byt L) (hok : Rok L) (hn : dec (L.take 8) = n) (hL : L.length ≤ 1000000) :
    Calls Try.prog 40 #[.pointer (some ⟨x, 0, none⟩)] w (Eyeb x ao cap n L w) := by
  obtain ⟨h8, h62, hfit⟩ := hok
  have c0 := cell_of hx.head 0
  have c1 := cell_of hx.head 1
  simp only [List.getElem?_toArray, List.getElem?_cons_zero, List.getElem?_cons_succ] at c0 c1
  have f0 := frozen_of hx.head 0
  have hlt := lt_of_block hx.head
  obtain ⟨i0, hi, hz0, hz1, hz2⟩ := info_parts u8_info
  have HX := Lib.hid hx; have HB := Lib.hid hb; have HN := Lib.hid hn; have H62 := Lib.hid h62
  rw [hn] at hfit
  clear hx hb hn h62
  have hy := Lib.hid (EyAt.copy HX.out)
  have hl := List.length_drop (i := 8) (l := L)
  go_enter Try.func40, Try.ntmps40
  go_wp2_with fail
  refine (eyenum_any w.heap.size ao cap L _ hy.out h8 HB.out).mono ?_; rintro e w1 ⟨hd, hk⟩
  rw [if_pos H62.out, HN.out] at hd
  obtain ⟨rfl, g, o, o', rfl, hy1⟩ := hd
  have hle : (n : Int) ≤ (L.drop 8).length := by omega
  have hfit1 := hy1.fit
  have y0 := cell_of hy1.head 0
  have y1 := cell_of hy1.head 1
  simp only [List.getElem?_toArray, List.getElem?_cons_zero, List.getElem?_cons_succ] at y0 y1
  have hylt := lt_of_block hy1.head
  have HKW := Lib.hid (((Kp.refl (fun _ => False) w).alloc _).trans_new hk (S := fun _ => False) (fun k h1 h2 => by have h3 : k = w.heap.size := h2; omega))
  have HX1 := Lib.hid (HX.out.keep HKW.out (fun h => h) (fun _ _ _ _ h => h))
  have HY1 := Lib.hid hy1
  have hglt : g < w.heap.size := by
    obtain ⟨b', o2, e', hb', _⟩ := HX.out.row 0 (by omega)
    cases e'
    exact hb'
  have hgx := HX.out.apart (by intro e; subst e; simp at h8) g o rfl
  obtain ⟨M, hM⟩ : ∃ M, M = L.drop 8 := ⟨_, rfl⟩
  obtain ⟨cp, hcp⟩ : ∃ cp, cp = cap - 8 := ⟨_, rfl⟩
  rw [← hM] at y0 HY1 hle hfit1
  rw [← hcp] at y0 HY1 hfit1
  have HM := Lib.hid hM; have HCP := Lib.hid hcp
  have hMl : M.length ≤ 1000000 := by rw [HM.out]; omega
  have HROW := Lib.hid (show ∀ j, j < M.length → w1.cell? ⟨g, o' + j, none⟩ = some (.int .u8 (M.getD j 0)) from fun j hj => by
    obtain ⟨b', o2, e', _, hc⟩ := HY1.out.row j hj
    cases e'
    exact hc)
  have x0 := cell_of HX1.out.head 0
  simp only [List.getElem?_toArray, List.getElem?_cons_zero] at x0
  have fx0 := frozen_of HX1.out.head 0
  have hx1lt := lt_of_block HX1.out.head
  have HSRC := Lib.hid (clone_news (.cells #[] 5) (Src.of_row (c := cp) (N := M.take n) (w := w1) (b := g) (off := o') (fun j hj => by
    rw [List.length_take] at hj
    rw [HROW.out j (by omega)]
    simp [List.getD, show j < n by omega])|>.2 _ rfl))
  have htl : (M.take n).length = n := by rw [List.length_take]; omega
  have HTL := Lib.hid htl
  clear hl hM hcp hy1 hk htl c0 c1 f0 hfit
  have hnM : n ≤ M.length := by omega
  by_cases hcn : cp = n
  · by_cases hn0 : n = 0
    · subst hn0
      subst hcn
      have hlM : M.length = 0 := by omega
      have hlM2 : M.length - 0 = 0 := by omega
      go_wp2_with (at_builtin; refine wpList_append_own _ rfl _ _ 22 rfl w1.heap.size 5 i0 _ 1 1 Try.underlying22 hi hz0 hz1 hz2 rfl (by decide) _ 0 [] rfl (World.ownsRow_lit w1 #[] 0 (Nat.le_refl _) (by unfold maxLen; omega) rfl) ⟨g, o', none⟩ 0 0 (Bc (M.take 0)) rfl (by rw [Bc_len1, HTL.out]) HSRC.out (Bc_one _) (by unfold maxLen; omega) (by omega) (by simp) ?_; intro v2 w2 hown2 hgrow2 _; have hk2 : Kp (fun _ => False) w1 w2 := ((Kp.refl (fun _ => False) w1).alloc _).trans_new (Kp.of_grown hgrow2) (fun k hk h => by have h' : some k = some w1.heap.size := h; cases h'; omega); have y0' := (hk2.cell 0 hylt (fun h => h)).trans y0; have x0' := (hk2.cell 0 hx1lt (fun h => h)).trans x0; have fx0' := (hk2.frozen 0 hx1lt (fun h => h)).trans fx0; have HO2 := Lib.hid hown2; have HK2 := Lib.hid hk2; clear hown2 hgrow2 hk2)
      go_ret
      have hfin := eyeb_close (o' := o') (off := o') HX1.out HROW.out HM.out HCP.out hgx hnM (fun h => absurd h (by omega)) HO2.out HK2.out HKW.out hlt
      rw [hlM2] at hfin
      exact hfin
    · subst hcn
      have hlM : M.length = cp := by omega
      go_wp2_with (at_builtin; refine wpList_append_own _ rfl _ _ 22 rfl w1.heap.size 5 i0 _ 1 1 Try.underlying22 hi hz0 hz1 hz2 rfl (by decide) _ 0 [] rfl (World.ownsRow_lit w1 #[] 0 (Nat.le_refl _) (by unfold maxLen; omega) rfl) ⟨g, o', none⟩ cp cp (Bc (M.take cp)) rfl (by rw [Bc_len1, HTL.out]) HSRC.out (Bc_one _) (by unfold maxLen; omega) (by omega) (by simp) ?_; intro v2 w2 hown2 hgrow2 _; have hk2 : Kp (fun _ => False) w1 w2 := ((Kp.refl (fun _ => False) w1).alloc _).trans_new (Kp.of_grown hgrow2) (fun k hk h => by have h' : some k = some w1.heap.size := h; cases h'; omega); have y0' := (hk2.cell 0 hylt (fun h => h)).trans y0; have x0' := (hk2.cell 0 hx1lt (fun h => h)).trans x0; have fx0' := (hk2.frozen 0 hx1lt (fun h => h)).trans fx0; have HO2 := Lib.hid hown2; have HK2 := Lib.hid hk2; clear hown2 hgrow2 hk2)
      go_ret
      have hfin := eyeb_close (o' := o') (off := o') HX1.out HROW.out HM.out HCP.out hgx hnM (fun h => absurd h (by omega)) HO2.out HK2.out HKW.out hlt
      rw [hlM, Nat.sub_self] at hfin
      exact hfin
  · have hdm : 0 ≤ n := Nat.zero_le n
    go_wp2_with (at_builtin; refine wpList_append_own _ rfl _ _ 22 rfl w1.heap.size 5 i0 _ 1 1 Try.underlying22 hi hz0 hz1 hz2 rfl (by decide) _ 0 [] rfl (World.ownsRow_lit w1 #[] 0 (Nat.le_refl _) (by unfold maxLen; omega) rfl) ⟨g, o', none⟩ n cp (Bc (M.take n)) rfl (by rw [Bc_len1, HTL.out]) HSRC.out (Bc_one _) (by unfold maxLen; omega) (by omega) (by simp) ?_; intro v2 w2 hown2 hgrow2 _; have hk2 : Kp (fun _ => False) w1 w2 := ((Kp.refl (fun _ => False) w1).alloc _).trans_new (Kp.of_grown hgrow2) (fun k hk h => by have h' : some k = some w1.heap.size := h; cases h'; omega); have y0' := (hk2.cell 0 hylt (fun h => h)).trans y0; have x0' := (hk2.cell 0 hx1lt (fun h => h)).trans x0; have fx0' := (hk2.frozen 0 hx1lt (fun h => h)).trans fx0; have HO2 := Lib.hid hown2; have HK2 := Lib.hid hk2; clear hown2 hgrow2 hk2)
    go_ret
    exact eyeb_close (o' := o') HX1.out HROW.out HM.out HCP.out hgx hnM (fun _ => rfl) HO2.out HK2.out HKW.out hlt
end Go.Proofs.Ytihndplkkpglcaa
