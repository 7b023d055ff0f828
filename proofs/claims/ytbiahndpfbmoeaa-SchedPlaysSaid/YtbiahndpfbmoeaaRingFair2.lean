/- RingFair: the law returns true for every input. No condition. -/
import Derived.Test.YtbiahndpfbmoeaaRingFair
namespace Go.Proofs.Ytbiahndpfbmoeaa
open Go.RowKit Go.ChangeShapes Go.WideShapes Go.Deep

theorem cells_rop : Try.prog.cellsOf 31 = 3 := by kernel_rfl
theorem cells_rint : Try.prog.cellsOf 3 = 1 := by kernel_rfl
structure ROp where
  (k : Int) (s : ByteArray) (bo : Option Addr) (c : Nat) (N : List ByteArray)
  deriving Inhabited
def Rc (r : ROp) : List Value := [.int .i64 r.k, .string r.s, .slice r.bo r.N.length r.c]
set_option maxRecDepth 100000 in
theorem open_rops {H : Type} {enc : TypeId × Value → H} {W : World} {base : Nat} {v : Value} {d : DataW H} {ps : List MemPlace} (k : Value.okWide Try.prog W .any base 22 v) (h : DataW.Trod enc Try.prog W 0 (fun _ => true) true 22 v d ps) :
    ∃ (ao : Option Addr) (n cap : Nat) (f : Nat → ROp), v = .slice ao n cap ∧ n ≤ cap ∧ cap ≤ 9223372036854775807 ∧ SRow W ao n 3 (fun i => Rc (f i)) ∧ ∀ i, i < n → Hs W (f i).bo (f i).c (f i).N := by
  obtain ⟨ao, len, cap, V, rfl, h1, h2, h3, h4⟩ := open_srow Try.underlying22 cells_rop (by omega) k h
  obtain ⟨f, hf⟩ := choose_lt (α := ROp) (p := fun i r => V i = Rc r ∧ Hs W r.bo r.c r.N) (fun i hi => by
    obtain ⟨n, y, hy⟩ := h4 i hi
    obtain ⟨xs, n', rfl, _, hl, hxl, hx⟩ := DataW.trod_struct Try.underlying31 hy
    obtain ⟨hV, _⟩ := h3 i hi
    have e0 : DataW.trod enc Try.prog W 0 (fun _ => true) true n' 3 (((V i).drop 0).take (Try.prog.cellsOf 3)) = xs[0]? := hx 0 _ rfl
    have e1 : DataW.trod enc Try.prog W 0 (fun _ => true) true n' 9 (((V i).drop 1).take (Try.prog.cellsOf 9)) = xs[1]? := hx 1 _ rfl
    have e2 : DataW.trod enc Try.prog W 0 (fun _ => true) true n' 24 (((V i).drop 2).take (Try.prog.cellsOf 24)) = xs[2]? := hx 2 _ rfl
    rw [cells_rint] at e0
    rw [cells_str] at e1
    rw [cells_strs] at e2
    match hVi : V i, hV with
    | [a, b, c], _ =>
      rw [hVi] at e0 e1 e2
      have l3 : xs.length = 3 := hxl
      rw [List.getElem?_eq_getElem (by omega)] at e0 e1 e2
      obtain ⟨x, hx0, _⟩ := DataW.trod_int Try.underlying3 e0
      obtain ⟨s, hx1, _⟩ := DataW.trod_string Try.underlying9 e1
      obtain ⟨bo, N, c', hx2, _, _, hs⟩ := strs_of_trod e2
      simp at hx0 hx1 hx2
      exact ⟨⟨x, s, bo, c', N⟩, by rw [hx0, hx1, hx2]; rfl, hs⟩)
  exact ⟨ao, len, cap, f, rfl, h2, h1, h3.congr (fun i hi => (hf i hi).1.symm), fun i hi => (hf i hi).2⟩

set_option maxRecDepth 100000 in
set_option maxHeartbeats 1600000 in
theorem ringFair_law {H : Type} {enc' : TypeId × Value → H} (W : World) {base : Nat} (v0 v1 v2 : Value) (d0 d1 d2 : DataW H) (p0 p1 p2 : List MemPlace)
    (k0 : Value.okWide Try.prog W .any base 9 v0) (k1 : Value.okWide Try.prog W .any base 9 v1) (k2 : Value.okWide Try.prog W .any base 22 v2)
    (h0 : DataW.Trod enc' Try.prog W 0 (fun _ => true) true 9 v0 d0 p0) (h1 : DataW.Trod enc' Try.prog W 0 (fun _ => true) true 9 v1 d1 p1) (h2 : DataW.Trod enc' Try.prog W 0 (fun _ => true) true 22 v2 d2 p2) :
    Calls Try.prog 4 #[v0, v1, v2] W fun e W' => e = .returned (.bool true) ∧ Below W.heap.size W W' := by
  obtain ⟨a, rfl, _, rfl, _⟩ := Go.ChangeMaps.open_string Try.underlying9 k0 h0
  obtain ⟨x, rfl, _, rfl, _⟩ := Go.ChangeMaps.open_string Try.underlying9 k1 h1
  obtain ⟨ar, n, cap, f, rfl, hnc, hcap, hrow, hhs⟩ := open_rops k2 h2
  clear h0 k0 h1 k1 h2 k2
  obtain ⟨i0, hi, hz0, hz1, hz2⟩ := info_parts str_info
  have HR := Lib.hid hrow; have HHS := Lib.hid hhs; clear hrow hhs
  have H0 := Lib.hid (RI.new W W (Kp.refl _ _))
  by_cases hax : a = x
  · subst hax
    have haa : (a.toList == a.toList) = true := by simp
    go_enter Try.func4, Try.ntmps4
    go_wp2_with fail
    refine (r21ans_any _).mono ?_; rintro e w3 ⟨rfl, hk3⟩
    go_wp2_with fail
    go_ret
    exact ⟨rfl, (H0.out.kp.trans hk3).below (fun _ _ h => h)⟩
  have s1 := toList_ne hax
  have s2 := toList_ne (fun h => hax h.symm)
  have s3 : (a.toList == x.toList) = false := by rw [beq_eq_false_iff_ne]; exact s1
  have s4 : (x.toList == a.toList) = false := by rw [beq_eq_false_iff_ne]; exact s2
  have HAX := Lib.hid hax
  go_enter Try.func4, Try.ntmps4
  go_wp2_with fail
  refine (radd_ri a H0.out (by simp)).mono ?_; rintro e w1 ⟨rfl, va, hria⟩
  have HRA := Lib.hid hria; clear hria
  have hP1 : Plus a [] = [a] := rfl
  rw [hP1] at HRA
  go_wp2_with fail
  refine (radd_ri x HRA.out (by simp)).mono ?_; rintro e w2 ⟨rfl, vb, hrib⟩
  have hP2 : Plus x [a] = [a, x] := by
    unfold Plus
    rw [if_neg (by rw [Has_mem]; simp; exact fun e => hax e.symm)]; rfl
  rw [hP2] at hrib
  have HRB := Lib.hid hrib; clear hrib hP1 hP2
  have HF0 := Lib.hid (show Fr a x [a, x] 0 0 from ⟨by simp [hax], Or.inl ⟨List.Sublist.refl _, rfl⟩⟩)
  clear hax
  go_wp2_with fail
  go_loopg [10, 8, 9] n (fun k i cn cm wr => ∃ (j p q : Nat) (v : Value) (L : List ByteArray), k = n - j ∧ j ≤ n ∧ i = .int .i64 j ∧ cn = .int .i64 p ∧ cm = .int .i64 q ∧ RI W wr W.heap.size v L ∧ Fr a x L p q ∧ L.length ≤ j + 2 ∧ p ≤ j ∧ j ≤ 300)
  case atStart => exact ⟨0, 0, 0, vb, [a, x], rfl, Nat.zero_le _, rfl, rfl, rfl, HRB.out, HF0.out, Nat.le_refl _, Nat.le_refl _, by omega⟩
  case round =>
    obtain ⟨j, p, q, v, L, hk, hj, rfl, rfl, rfl, hri, hfr, hL, hpj, hj3⟩ := hrel
    have HKk := Lib.hid hk; have HRI := Lib.hid hri; have HFR := Lib.hid hfr; clear hk hri hfr
    by_cases hlt : j < n ∧ j < 300
    · obtain ⟨hl1, hl2⟩ := hlt
      obtain ⟨bb, off, rfl, hb, hcell⟩ := HR.out.get hl1
      have hhq := HHS.out j hl1
      obtain ⟨r, hr⟩ : ∃ r, r = f j := ⟨_, rfl⟩
      obtain ⟨kd, s, bo, c, N⟩ := r
      rw [← hr] at hhq
      have c0 := (HRI.out.kp.cell (off + j * 3 + 0) hb (fun h => h)).trans (hcell j hl1 0 (.int .i64 kd) (by rw [← hr]; rfl))
      have c1 := (HRI.out.kp.cell (off + j * 3 + 1) hb (fun h => h)).trans (hcell j hl1 1 (.string s) (by rw [← hr]; rfl))
      have c2 := (HRI.out.kp.cell (off + j * 3 + 2) hb (fun h => h)).trans (hcell j hl1 2 (.slice bo N.length c) (by rw [← hr]; rfl))
      rw [Nat.add_zero] at c0
      have HHQ := Lib.hid hhq
      clear hr hcell hhq
      have HRI' := Lib.hid (HRI.out.calm ((Kp.refl _ _).alloc (.cells #[.int .i64 kd, .string s, .slice bo N.length c] 31)))
      by_cases hsa : s = a
      · subst hsa
        have haa : (s.toList == s.toList) = true := by simp
        go_wp2_with fail
        go_roundg (n - (j + 1))
        case measure => rw [HKk.out]; omega
        case rel => exact ⟨j + 1, p, q, v, L, rfl, by omega, by go_num, by go_num, by go_num, HRI'.out, HFR.out, by omega, by omega, by omega⟩
      have t1 := toList_ne hsa
      have t2 := toList_ne (fun h => hsa h.symm)
      have t3 : (s.toList == a.toList) = false := by rw [beq_eq_false_iff_ne]; exact t1
      have t4 : (a.toList == s.toList) = false := by rw [beq_eq_false_iff_ne]; exact t2
      by_cases hsx : s = x
      · subst hsx
        have haa : (s.toList == s.toList) = true := by simp
        go_wp2_with fail
        go_roundg (n - (j + 1))
        case measure => rw [HKk.out]; omega
        case rel => exact ⟨j + 1, p, q, v, L, rfl, by omega, by go_num, by go_num, by go_num, HRI'.out, HFR.out, by omega, by omega, by omega⟩
      have r1 := toList_ne hsx
      have r2 := toList_ne (fun h => hsx h.symm)
      have r3 : (s.toList == x.toList) = false := by rw [beq_eq_false_iff_ne]; exact r1
      have r4 : (x.toList == s.toList) = false := by rw [beq_eq_false_iff_ne]; exact r2
      by_cases hbig : 50 < N.length
      · go_wp2_with fail
        go_roundg (n - (j + 1))
        case measure => rw [HKk.out]; omega
        case rel => exact ⟨j + 1, p, q, v, L, rfl, by omega, by go_num, by go_num, by go_num, HRI'.out, HFR.out, by omega, by omega, by omega⟩
      have hN50 : N.length ≤ 50 := by omega
      have HSA := Lib.hid hsa; have HSX := Lib.hid hsx
      clear hbig hsa hsx
      by_cases hk1 : kd = 1
      · subst hk1
        go_wp2_with fail
        refine (radd_ri s HRI'.out (by omega)).mono ?_; rintro e w3 ⟨rfl, v3, hri3⟩
        have HR3 := Lib.hid hri3; clear hri3
        have HPL := Lib.hid (Plus_len s L); have HF3 := Lib.hid (HFR.out.plus (c := s))
        go_wp2_with fail
        go_roundg (n - (j + 1))
        case measure => rw [HKk.out]; omega
        case rel => exact ⟨j + 1, p, q, v3, (Plus s L), rfl, by omega, by go_num, by go_num, by go_num, HR3.out, HF3.out, by (exact Nat.le_trans HPL.out (by omega)), by omega, by omega⟩
      by_cases hk2 : kd = 2
      · subst hk2
        go_wp2_with fail
        refine (rdrop_ri s HRI'.out (by omega)).mono ?_; rintro e w3 ⟨rfl, v3, hri3⟩
        have HR3 := Lib.hid hri3; clear hri3
        have HF3 := Lib.hid (show Fr a x (if Has s L then Cut (Ix s L) L else L) p q ∧ (if Has s L then Cut (Ix s L) L else L).length ≤ L.length by
          by_cases hs : Has s L = true
          · rw [if_pos hs]
            have hi := Has_ix hs
            have hg := Ix_get hi
            exact ⟨HFR.out.cut hi (by rw [hg]; exact HSA.out) (by rw [hg]; exact HSX.out), by rw [Cut_len hi]; omega⟩
          · rw [if_neg hs]; exact ⟨HFR.out, Nat.le_refl _⟩)
        go_wp2_with fail
        go_roundg (n - (j + 1))
        case measure => rw [HKk.out]; omega
        case rel => exact ⟨j + 1, p, q, v3, _, rfl, by omega, by go_num, by go_num, by go_num, HR3.out, HF3.out.1, by (exact Nat.le_trans HF3.out.2 (by omega)), by omega, by omega⟩
      by_cases hk3 : kd = 3
      · subst hk3
        have HSN := Lib.hid (fun (h : bo = none) => HHQ.out.emp h)
        have HSC := Lib.hid (HHQ.out.news (HRI'.out.kp.alloc (.cells #[] 9)))
        have hE := own_weaken (World.ownsRow_lit (base := (wr.alloc (.cells #[.int .i64 3, .string s, .slice bo N.length c] 31)).heap.size) (e := 9) (size := 1) (wr.alloc (.cells #[.int .i64 3, .string s, .slice bo N.length c] 31)) #[] 0 (Nat.le_refl _) (by unfold maxLen; omega) rfl)
        rw [World.size_alloc] at hE
        have HE := Lib.hid hE; clear hE
        go_wp2_with (first | (at_builtin; refine wpList_append_prec _ rfl _ _ 24 rfl 9 i0 _ 1 16 Try.underlying24 hi hz0 hz1 hz2 rfl (by decide) _ 0 [] rfl HE.out bo N.length c (Sc N) rfl HSN.out (Sc_len1 _) HSC.out (Sc_one _) (by unfold maxLen; omega) (by omega) ?_; intro v2 w3 hown3 hk3 hsn3 _; rw [Nat.zero_add, List.nil_append] at hown3; have hk4 : Kp (In (.slice (some ⟨wr.heap.size + 1, 0, none⟩) 0 0)) ((wr.alloc (.cells #[.int .i64 3, .string s, .slice bo N.length c] 31)).alloc (.cells #[] 9)) w3 := hk3; have hsn4 : SameOrNew ((wr.alloc (.cells #[.int .i64 3, .string s, .slice bo N.length c] 31)).alloc (.cells #[] 9)) (.slice (some ⟨wr.heap.size + 1, 0, none⟩) 0 0) v2 := hsn3; have HO3 := Lib.hid hown3; have HSN3 := Lib.hid hsn4; have HK3 := Lib.hid hk4; obtain ⟨a3, c3, rfl⟩ := HO3.out.slice; clear hown3 hk3 hsn3 hk4 hsn4) | (at_builtin; refine wpList_append_prec _ rfl _ _ 24 rfl 9 i0 _ 1 16 Try.underlying24 hi hz0 hz1 hz2 rfl (by decide) _ N.length (Sc N) rfl (by exact HO3.out.alloc _) _ 2 2 [.string x, .string a] rfl (fun h => by cases h) rfl lit_news (Sc_one [x, a]) (by unfold maxLen; omega) (by omega) ?_; intro v5 w5 hown5 hk5 hsn5 _; have hk6 : Kp (In (.slice a3 N.length c3)) (w3.alloc (.cells #[.string x, .string a] 9)) w5 := hk5; have HO5 := Lib.hid hown5; have HK5 := Lib.hid hk6; obtain ⟨a5, c5, rfl⟩ := HO5.out.slice; clear hown5 hk5 hsn5 hk6))
        obtain ⟨R, hR⟩ : ∃ R, R = N ++ [x, a] := ⟨_, rfl⟩
        have hRl : R.length = N.length + 2 := by rw [hR]; simp
        have hRo : Own w5 9 1 (.slice a5 R.length c5) R.length (Sc R) := by
          have h := HO5.out
          rw [hRl, show Sc R = Sc N ++ [.string x, .string a] by rw [hR]; simp [Sc]]
          exact h
        have hRx : Has x R = true := by rw [Has_mem, hR]; simp
        have hRa : Has a R = true := by rw [Has_mem, hR]; simp
        have hw0 := World.size_alloc wr (.cells #[.int .i64 3, .string s, .slice bo N.length c] 31)
        have hk3a : Kp (fun _ => False) (wr.alloc (.cells #[.int .i64 3, .string s, .slice bo N.length c] 31)) w3 := ((Kp.refl _ _).alloc (.cells #[] 9)).trans_new HK3.out (fun k h1 h2 => by
          have : wr.heap.size + 1 = k := by simpa [In, Value.ownBlock] using h2
          omega)
        have hk5a : Kp (fun _ => False) (wr.alloc (.cells #[.int .i64 3, .string s, .slice bo N.length c] 31)) w5 := (hk3a.alloc (.cells #[.string x, .string a] 9)).trans_new HK5.out (fun k h1 h2 => by
          rcases HSN3.out with h | h
          · have e : (Value.slice (some ⟨wr.heap.size + 1, 0, none⟩) 0 0).ownBlock = some k := h ▸ h2
            have : wr.heap.size + 1 = k := by simpa [Value.ownBlock] using e
            omega
          · have := h k h2; simp at this; omega)
        have HR5 := Lib.hid (HRI'.out.calm hk5a)
        have hmem := HFR.out.mem
        have hfx := Fx_le_Ix hRa L
        have hia := Has_ix ((Has_mem a L).2 hmem.1)
        obtain ⟨i, hI⟩ : ∃ i, i = Fx R L := ⟨_, rfl⟩
        rw [← hI] at hfx
        have hil : i < L.length := by omega
        have hnext := rnext_any W.heap.size v L R a5 c5 i _ HR5.out.rg (SRd.own hRo rfl) (by omega) (by omega) hI.symm hil
        rw [hRl] at hnext
        have HTL := Lib.hid (Turn_len hil)
        have HTN := Lib.hid (HFR.out.turn HAX.out hRa hRx hI hil)
        clear hR hRl hRo hRx hRa hw0 hk3a hk5a hmem hfx hia hI hil
        refine hnext.mono ?_; rintro e w6 ⟨rfl, ⟨v6, hr6, hs6⟩, hk6⟩
        clear hnext
        have HR6 := Lib.hid (HR5.out.next hr6 hs6 hk6); clear hr6 hs6 hk6
        obtain ⟨y, hy⟩ : ∃ y, y = L.getD i ByteArray.empty := ⟨_, rfl⟩
        rw [← hy]
        rw [← hy] at HTN
        clear hy
        by_cases hya : y = a
        · subst hya
          have hyy : (y.toList == y.toList) = true := by simp
          have HF6 := Lib.hid (HTN.out.1 rfl)
          have hb1 : ¬ (1 : Int) < (p : Int) + 1 - q := by have h := HF6.out.2; omega
          have hb2 : ¬ (1 : Int) < (q : Int) - (p + 1) := by have h := HF6.out.2; omega
          go_wp2_with fail
          go_roundg (n - (j + 1))
          case measure => rw [HKk.out]; omega
          case rel => exact ⟨j + 1, (p + 1), q, v6, (Turn i L), rfl, by omega, by go_num, by go_num, by go_num, HR6.out, HF6.out, by exact Nat.le_trans (Nat.le_of_eq HTL.out) (by omega), by omega, by omega⟩
        have u1 := toList_ne hya
        have u2 := toList_ne (fun h => hya h.symm)
        have u3 : (y.toList == a.toList) = false := by rw [beq_eq_false_iff_ne]; exact u1
        have u4 : (a.toList == y.toList) = false := by rw [beq_eq_false_iff_ne]; exact u2
        by_cases hyx : y = x
        · subst hyx
          have hyy : (y.toList == y.toList) = true := by simp
          have HF6 := Lib.hid (HTN.out.2.1 rfl)
          have hb1 : ¬ (1 : Int) < (p : Int) - (q + 1) := by have h := HF6.out.2; omega
          have hb2 : ¬ (1 : Int) < (q : Int) + 1 - p := by have h := HF6.out.2; omega
          have hqp : q ≤ p := by have h := HF6.out.2; omega
          go_wp2_with fail
          go_roundg (n - (j + 1))
          case measure => rw [HKk.out]; omega
          case rel => exact ⟨j + 1, p, (q + 1), v6, (Turn i L), rfl, by omega, by go_num, by go_num, by go_num, HR6.out, HF6.out, by exact Nat.le_trans (Nat.le_of_eq HTL.out) (by omega), by omega, by omega⟩
        have y1 := toList_ne hyx
        have y2 := toList_ne (fun h => hyx h.symm)
        have y3 : (y.toList == x.toList) = false := by rw [beq_eq_false_iff_ne]; exact y1
        have y4 : (x.toList == y.toList) = false := by rw [beq_eq_false_iff_ne]; exact y2
        have HF6 := Lib.hid (HTN.out.2.2 hya hyx)
        have hb1 : ¬ (1 : Int) < (p : Int) - q := by have h := HF6.out.2; omega
        have hb2 : ¬ (1 : Int) < (q : Int) - p := by have h := HF6.out.2; omega
        clear hya hyx
        go_wp2_with fail
        go_roundg (n - (j + 1))
        case measure => rw [HKk.out]; omega
        case rel => exact ⟨j + 1, p, q, v6, (Turn i L), rfl, by omega, by go_num, by go_num, by go_num, HR6.out, HF6.out, by exact Nat.le_trans (Nat.le_of_eq HTL.out) (by omega), by omega, by omega⟩
      · go_wp2_with fail
        go_roundg (n - (j + 1))
        case measure => rw [HKk.out]; omega
        case rel => exact ⟨j + 1, p, q, v, L, rfl, by omega, by go_num, by go_num, by go_num, HRI'.out, HFR.out, by omega, by omega, by omega⟩
    · by_cases hjn : j < n
      · have hj4 : ¬ j < 300 := by omega
        go_wp2_with fail
        refine (r21ans_any _).mono ?_; rintro e w3 ⟨rfl, hk3⟩
        go_wp2_with fail
        go_ret
        exact ⟨rfl, (HRI.out.kp.trans hk3).below (fun _ _ h => h)⟩
      · go_wp2_with fail
        refine (r21ans_any _).mono ?_; rintro e w3 ⟨rfl, hk3⟩
        go_wp2_with fail
        go_ret
        exact ⟨rfl, (HRI.out.kp.trans hk3).below (fun _ _ h => h)⟩
end Go.Proofs.Ytbiahndpfbmoeaa
