/- WordCut: the law returns true for every input. No condition. -/
import Derived.Test.YtihndplkkpglcaaWordBack
import Derived.SizedLaws
namespace Go.Proofs.Ytihndplkkpglcaa
open Go.RowKit Go.ChangeShapes Go.WideShapes Go.Deep

theorem src_zero {w : World} {bo : Option Addr} {c : Nat} {N : List Int} (hs : Src w bo c N) (h : bo = none) : N.length = 0 := by rw [(hs.1 h).1]; rfl
theorem u8_bytes : Try.prog.bytesOf 5 = 1 := by kernel_rfl
theorem bytes_sized {H : Type} {enc : TypeId × Value → H} {W : World} {fuel n c : Nat} {bo : Option Addr} {d : DataW H} {ps : List MemPlace}
    (h : DataW.trod enc Try.prog W 0 (fun _ => true) true fuel 22 [.slice bo n c] = some (d, ps)) (hs : ∀ m ∈ d.weights Try.prog 22, m ≤ reachBytes) : n ≤ 140737488355328 := by
  rcases DataW.trod_slice Try.underlying22 h with ⟨e, _⟩ | ⟨a, len, cap, elems, rest, n', _, hcs, hx, _, hl, _, hlen, _⟩
  · simp at e; omega
  · simp only [List.cons.injEq, Value.slice.injEq, and_true] at hcs
    obtain ⟨_, rfl, _⟩ := hcs
    simp only [Prod.mk.injEq] at hx
    obtain ⟨rfl, _⟩ := hx
    have := hs (((elems.map (·.1)).length + (rest.map (·.1)).length) * Try.prog.bytesOf 5) (by simp [DataW.weights, Try.underlying22])
    rw [u8_bytes, List.length_map, hlen] at this
    have hr := reachBytes_lt
    omega

theorem own_cap {w : World} {e : TypeId} {sz n c : Nat} {ao : Option Addr} {xs : List Value} (h : Own w e sz (.slice ao n c) n xs) : n ≤ c := by
  rcases h.shape with ⟨e, h0, _⟩ | ⟨g, cap, e, hc, _⟩
  · omega
  · cases e; exact hc
theorem Src.take {w : World} {ao : Option Addr} {c : Nat} {N : List Int} (h : Src w ao c N) (n : Nat) : Src w ao c (N.take n) := by
  refine ⟨fun e => ⟨by rw [(h.1 e).1]; exact List.take_nil, (h.1 e).2⟩, fun ad ha j u hu => h.2 ad ha j u ?_⟩
  rw [Bc, List.map_take, List.getElem?_take] at hu
  split at hu
  · exact hu
  · cases hu
theorem not_rok {N : List Int} {k : Nat} (hk : k < 8 + N.length) (hN : N.length ≤ 1000) : ¬ Rok ((enc N.length ++ N).take k) := by
  rintro ⟨h8, _, h⟩
  rw [List.length_take, List.length_append, enc_len] at h8 h
  have e : ((enc (N.length : Int) ++ N).take k).take 8 = enc N.length := by
    rw [List.take_take, Nat.min_eq_left (by omega)]; rfl
  rw [e, dec_enc (by omega) (by omega)] at h
  omega
theorem yes_rok {N R : List Int} (hN : N.length ≤ 1000) : Rok (enc N.length ++ N ++ R) := by
  have hde := dec_enc (n := N.length) (by omega) (by omega)
  rw [List.append_assoc]
  exact ⟨by rw [List.length_append, enc_len]; omega, by rw [take8_enc, hde]; omega, by rw [take8_enc, hde, List.length_append, List.length_append, enc_len]; omega⟩
theorem dec_head {N R : List Int} (hN : N.length ≤ 1000) : dec ((enc N.length ++ N ++ R).take 8) = N.length := by
  rw [List.append_assoc, take8_enc, dec_enc (by omega) (by omega)]

set_option maxRecDepth 100000 in
set_option maxHeartbeats 1600000 in
theorem wordCut_law {H : Type} {enc' : TypeId × Value → H} (W : World) {base : Nat} (v0 v1 v2 : Value) (d0 d1 d2 : DataW H) (p0 p1 p2 : List MemPlace)
    (k0 : Value.okWide Try.prog W .any base 22 v0) (k1 : Value.okWide Try.prog W .any base 22 v1) (k2 : Value.okWide Try.prog W .any base 70 v2)
    (h0 : DataW.Trod enc' Try.prog W 0 (fun _ => true) true 22 v0 d0 p0) (h1 : DataW.Trod enc' Try.prog W 0 (fun _ => true) true 22 v1 d1 p1) (h2 : DataW.Trod enc' Try.prog W 0 (fun _ => true) true 70 v2 d2 p2)
    (hsz : ∀ (j : Nat) t d, [22, 22, 70][j]? = some t → [d0, d1, d2][j]? = some d → ∀ n ∈ d.weights Try.prog t, n ≤ reachBytes) :
    Calls Try.prog 13 #[v0, v1, v2] W fun e W' => e = .returned (.bool true) ∧ Below W.heap.size W W' := by
  obtain ⟨z, rfl, rfl, rfl, wz⟩ := open_int Try.underlying70 k2 h2
  obtain ⟨f0, hf0⟩ := slice_trod Try.underlying22 k0 h0
  obtain ⟨ba, A, ca, hA, hAc, hca, hAs, hAb⟩ := bytes_of_trod (hf0 _ rfl)
  obtain rfl : v0 = .slice ba A.length ca := by simpa using hA
  obtain ⟨f1, hf1⟩ := slice_trod Try.underlying22 k1 h1
  obtain ⟨bb, B, cb, hB, hBc, hcb, hBs, hBb⟩ := bytes_of_trod (hf1 _ rfl)
  obtain rfl : v1 = .slice bb B.length cb := by simpa using hB
  have hAz := bytes_sized (hf0 _ rfl) (hsz 0 _ _ rfl rfl)
  have hBz := bytes_sized (hf1 _ rfl) (hsz 1 _ _ rfl rfl)
  clear hsz
  have hz : 0 ≤ z ∧ z ≤ 65535 := by
    have e0 : IntKind.u16.min = 0 := by decide
    have e1 : IntKind.u16.max = 65535 := by decide
    simp [Lit.wf, e0, e1] at wz
    exact wz
  obtain ⟨z0, z1⟩ := hz
  obtain ⟨cut, rfl⟩ := Int.eq_ofNat_of_zero_le z0
  clear h0 k0 h1 k1 hf0 hf1 hA hB h2 k2 wz
  have HAs := Lib.hid hAs; have HBs := Lib.hid hBs; have HAb := Lib.hid hAb; have HBb := Lib.hid hBb; clear hAs hBs hAb hBb
  obtain ⟨i0, hi, hz0, hz1, hz2⟩ := info_parts u8_info
  by_cases hbig : 500 < A.length + B.length
  · go_enter Try.func13, Try.ntmps13
    go_wp2_with fail
    refine (w3ans_any _).mono ?_; rintro e w1 ⟨rfl, hk1⟩
    go_wp2_with fail
    go_ret
    exact ⟨rfl, hk1.below (fun _ _ h => h)⟩
  have hsmall : A.length + B.length ≤ 500 := by omega
  clear hbig
  go_enter Try.func13, Try.ntmps13
  go_wp2_with fail
  refine (refbytes_any ba ca A _ HAs.out (by omega)).mono ?_; rintro e w1 ⟨u, rfl, hu, hub, hk1⟩
  obtain ⟨YA, hYA⟩ : ∃ Y, Y = enc A.length ++ A := ⟨_, rfl⟩
  obtain ⟨la, hla⟩ : ∃ l, l = 8 + A.length := ⟨_, rfl⟩
  rw [← hYA, show YA.length = la by rw [hYA, hla, List.length_append, enc_len]] at hu
  have HYA := Lib.hid hYA; have HLA := Lib.hid hla; have HU := Lib.hid hu; have HK1 := Lib.hid hk1
  have hla2 : la ≤ 508 := by omega
  obtain ⟨au, cu, rfl⟩ := hu.slice
  have HUB := Lib.hid hub; clear hub
  clear hYA hla hu
  go_wp2_with fail
  refine (refbytes_any bb cb B _ (HBs.out.keep hk1 (fun _ _ _ h => h)) (by omega)).mono ?_; rintro e w2 ⟨u2, rfl, hu2, _, hk2⟩
  obtain ⟨YB, hYB⟩ : ∃ Y, Y = enc B.length ++ B := ⟨_, rfl⟩
  obtain ⟨lb, hlb⟩ : ∃ l, l = 8 + B.length := ⟨_, rfl⟩
  have hYBl : YB.length = lb := by rw [hYB, hlb, List.length_append, enc_len]
  rw [← hYB] at hu2
  have HYB := Lib.hid hYB; have HLB := Lib.hid hlb; have HYBl := Lib.hid hYBl; have HK2 := Lib.hid hk2
  have hlb2 : YB.length ≤ 508 := by omega
  obtain ⟨au2, cu2, rfl⟩ := hu2.slice
  have HS2 := Lib.hid (Src.own hu2 rfl)
  have HU2 := Lib.hid (HU.out.keepF hk2)
  clear hYB hlb hu2 hYBl hk1 hk2
  obtain ⟨len, hlen⟩ : ∃ len, len = la + YB.length := ⟨_, rfl⟩
  obtain ⟨n, hn⟩ : ∃ n : Nat, n = cut % (len + 1) := ⟨_, rfl⟩
  have hnl : n ≤ len := by have := Nat.mod_lt cut (show 0 < len + 1 by omega); omega
  have hmod : Int.tmod (cut : Int) ((len : Int) + 1) = n := by
    rw [Int.tmod_eq_emod_of_nonneg (by omega), hn, Int.natCast_emod, Int.natCast_add]; rfl
  have hmod2 : (cut : Int) % ((len : Int) + 1) = n := by rw [hn, Int.natCast_emod, Int.natCast_add]; rfl
  have hln : len ≤ 1016 := by omega
  have HLEN := Lib.hid hlen; have HN := Lib.hid hn; clear hlen hn
  go_wp2_with (at_builtin; refine wpList_append_prec _ rfl _ _ 22 rfl 5 i0 _ 1 1 Try.underlying22 hi hz0 hz1 hz2 rfl (by decide) _ la (Bc YA) rfl HU2.out au2 YB.length cu2 (Bc YB) rfl (fun h => ⟨src_zero HS2.out h, (HS2.out.1 h).2⟩) (Bc_len1 _) HS2.out.2 (Bc_one _) (by unfold maxLen; omega) (by omega) ?_; intro v2 w3 hown3 hk3 hsn3 _; have hsn4 : SameOrNew w2 (.slice au la cu) v2 := hsn3; have hk4 : Kp (In (.slice au la cu)) w2 w3 := hk3; rw [← HLEN.out] at hown3; have HO3 := Lib.hid hown3; have HSN3 := Lib.hid hsn4; have HK3 := Lib.hid hk4; obtain ⟨av, cv, rfl⟩ := HO3.out.slice; have hcv : len ≤ cv := own_cap HO3.out; clear hown3 hk3 hsn3 hk4 hsn4)
  have hYYl : (YA ++ YB).length = len := by rw [HLEN.out, List.length_append, HYA.out, HLA.out, List.length_append, enc_len]
  have hsrc : Src w3 av cv ((YA ++ YB).take n) := by
    refine Src.take (Src.own (v := .slice av len cv) ?_ (by rw [hYYl])) n
    have := HO3.out
    rw [Bc_app] at this
    rw [hYYl]; exact this
  obtain ⟨T, hT⟩ : ∃ T, T = (YA ++ YB).take n := ⟨_, rfl⟩
  have hTl : T.length = n := by rw [hT, List.length_take, hYYl]; omega
  rw [← hT] at hsrc
  have hread := read_any av cv T w3 hsrc (by omega)
  rw [hTl] at hread
  have HT := Lib.hid hT; have HTl := Lib.hid hTl
  have hTb : Byt T := by
    rw [hT]
    refine Byt.take (Byt.app ?_ ?_) n
    · rw [HYA.out]; exact (enc_byt _).app HAb.out
    · rw [HYB.out]; exact (enc_byt _).app HBb.out
  have HTB := Lib.hid hTb
  have HKW := Lib.hid ((HK1.out.trans HK2.out).trans_new HK3.out (S := fun _ => False) (fun k h1 h2 => by
    have := HUB.out k h2
    omega))
  clear hT hTl hsrc hYYl hTb
  refine hread.mono ?_; rintro e w3b ⟨r, g, rfl, hr0, hg0, hrd, hk3⟩
  clear hread
  have hgr := hrd.apart
  obtain ⟨SA, hSA⟩ : ∃ S, S = Str A := ⟨_, rfl⟩
  obtain ⟨SB, hSB⟩ : ∃ S, S = Str B := ⟨_, rfl⟩
  have HSA := Lib.hid hSA; have HSB := Lib.hid hSB; have HRD := Lib.hid hrd; clear hSA hSB hrd
  by_cases hA : n < 8 + A.length
  · have hno : ¬ Rok T := by
      have := not_rok (N := A) (k := n) hA (by omega)
      rw [HT.out, HYA.out, List.take_append_of_le_length (by rw [List.length_append, enc_len]; omega)]
      exact this
    have hne : ¬ n = len := by have := HLEN.out; have := HLA.out; omega
    go_wp2_with fail
    refine (rbytes_no r g 0 T.length false T _ HRD.out HTB.out (Or.inr hno)).mono ?_; rintro e w4 ⟨rfl, ⟨o4, c4, L4, hr4, hb4, _⟩, hk4⟩
    clear hno
    have HR4 := Lib.hid hr4; have HB4 := Lib.hid hb4; have HK4 := Lib.hid hk4; clear hr4 hb4 hk4
    go_wp2_with fail
    refine (rbytes_no r g o4 c4 true L4 _ HR4.out HB4.out (Or.inl rfl)).mono ?_; rintro e w5 ⟨rfl, ⟨o5, c5, L5, hr5, hb5, _⟩, hk5⟩
    have HR5 := Lib.hid hr5; have HK34 := Lib.hid (HK4.out.trans hk5); clear hr5 hb5 hk5
    go_wp2_with fail
    refine (rnum_no r g o5 c5 true L5 _ HR5.out (Or.inl rfl)).mono ?_; rintro e w5b ⟨rfl, hr5, hk5⟩
    clear HR5
    have HR5 := Lib.hid hr5; have HK5 := Lib.hid hk5; clear hr5 hk5
    go_wp2_with fail
    refine (w3ans_any _).mono ?_; rintro e w6 ⟨rfl, hk6⟩
    have HK36 := Lib.hid ((HK34.out.trans HK5.out).trans (hk6.mono (fun _ _ h => h.elim)))
    have HR6 := Lib.hid (HR5.out.keep hk6 (fun h => h) (fun _ h => h))
    have HKF := Lib.hid (((HKW.out.trans hk3).trans_new HK36.out (S := fun _ => False) (fun k h1 h2 => by have h3 : k = r := h2; have := HKW.out.size; omega)))
    have hva : (convert 22 9 (.slice ba A.length ca)).run Try.prog w6 = .ok (.string SA) w6 := by rw [HSA.out]; exact run_str (HAs.out.keep HKF.out (fun _ _ _ h => h))
    have hvb : (convert 22 9 (.slice bb B.length cb)).run Try.prog w6 = .ok (.string SB) w6 := by rw [HSB.out]; exact run_str (HBs.out.keep HKF.out (fun _ _ _ h => h))
    have HKX := Lib.hid hk6; clear hk6
    go_wp2_with fail
    refine (rdone_any _ _ _ _ _ _ _ HR6.out).mono ?_; rintro e w' ⟨rfl, rfl⟩
    rw [show Dn true _ = false from rfl]
    go_wp2_with fail
    go_ret
    exact ⟨by simp <;> omega, HKF.out.below (fun _ _ h => h)⟩
  · have hTA : T = enc A.length ++ A ++ YB.take (n - (8 + A.length)) := by
      rw [HT.out, HYA.out, List.take_append, List.take_of_length_le (by rw [List.length_append, enc_len]; omega)]
      rw [List.length_append, enc_len]
    have hok : Rok T := by rw [hTA]; exact yes_rok (by omega)
    have hde : dec (T.take 8) = A.length := by rw [hTA]; exact dec_head (by omega)
    have hL1 : T.drop (8 + A.length) = YB.take (n - (8 + A.length)) := by
      rw [hTA, List.drop_append_of_le_length (by rw [List.length_append, enc_len]; omega), List.drop_eq_nil_of_le (by rw [List.length_append, enc_len]; omega), List.nil_append]
    have hA8 : (T.drop 8).take A.length = A := by
      rw [hTA, List.append_assoc, drop8_enc, List.take_left]
    have HOK := Lib.hid hok; have HDE := Lib.hid hde; have HL1 := Lib.hid hL1; have HA8 := Lib.hid hA8; clear hTA hok hde hL1 hA8
    go_wp2_with fail
    refine (rbytes_any r g 0 T.length A.length T _ HRD.out HTB.out HOK.out HDE.out).mono ?_; rintro e w4 ⟨o4, o4b, rfl, hc4, hr4, hk4⟩
    rw [HA8.out] at hc4
    rw [HL1.out] at hr4
    have HR4 := Lib.hid hr4; have HK4 := Lib.hid hk4
    have HX4 := Lib.hid (Src.of_row (c := A.length) hc4)
    clear hr4 hk4 hc4
    have hLb : Byt (YB.take (n - (8 + A.length))) := by rw [HYB.out]; exact ((enc_byt _).app HBb.out).take _
    have HLB1 := Lib.hid hLb; clear hLb
    by_cases hB : n = len
    · have hYB : YB.take (n - (8 + A.length)) = YB := List.take_of_length_le (by have := HLEN.out; have := HLA.out; omega)
      rw [hYB] at HR4 HLB1
      have hBe : enc B.length ++ B = YB := HYB.out.symm
      have hok : Rok YB := by have := yes_rok (N := B) (R := []) (by omega); rwa [List.append_nil, hBe] at this
      have hde : dec (YB.take 8) = B.length := by have := dec_head (N := B) (R := []) (by omega); rwa [List.append_nil, hBe] at this
      have hB8 : (YB.drop 8).take B.length = B := by rw [HYB.out, drop8_enc, List.take_length]
      have hBd : YB.drop (8 + B.length) = [] := List.drop_eq_nil_of_le (by have := HYBl.out; have := HLB.out; omega)
      have HOK2 := Lib.hid hok; have HDE2 := Lib.hid hde; have HB8 := Lib.hid hB8; have HBd := Lib.hid hBd
      clear hYB hBe hok hde hB8 hBd
      go_wp2_with fail
      refine (rbytes_any r g o4b _ B.length YB _ HR4.out HLB1.out HOK2.out HDE2.out).mono ?_; rintro e w5 ⟨o5, o5b, rfl, hc5, hr5, hk5⟩
      rw [HB8.out] at hc5
      rw [HBd.out] at hr5
      have HR5 := Lib.hid hr5; have HK45 := Lib.hid hk5; have HK34 := Lib.hid (HK4.out.trans hk5)
      have HY5 := Lib.hid (Src.of_row (c := B.length) hc5)
      clear hr5 hc5 hk5
      go_wp2_with fail
      refine (rnum_no r g o5b _ false [] _ HR5.out (Or.inr (by simp))).mono ?_; rintro e w5b ⟨rfl, hr5, hk5⟩
      clear HR5
      have HX5 := Lib.hid (HX4.out.keep (HK45.out.trans hk5) (fun ad ha _ e => hgr (by cases ha; exact e)))
      have HY5b := Lib.hid (HY5.out.keep hk5 (fun ad ha _ e => hgr (by cases ha; exact e)))
      have HR5 := Lib.hid hr5; have HK5 := Lib.hid hk5; clear hr5 hk5
      go_wp2_with fail
      refine (w3ans_any _).mono ?_; rintro e w6 ⟨rfl, hk6⟩
      have HK36 := Lib.hid ((HK34.out.trans HK5.out).trans (hk6.mono (fun _ _ h => h.elim)))
      have HR6 := Lib.hid (HR5.out.keep hk6 (fun h => h) (fun _ h => h))
      have HKF := Lib.hid (((HKW.out.trans hk3).trans_new HK36.out (S := fun _ => False) (fun k h1 h2 => by have h3 : k = r := h2; have := HKW.out.size; omega)))
      have hva : (convert 22 9 (.slice ba A.length ca)).run Try.prog w6 = .ok (.string SA) w6 := by rw [HSA.out]; exact run_str (HAs.out.keep HKF.out (fun _ _ _ h => h))
      have hvb : (convert 22 9 (.slice bb B.length cb)).run Try.prog w6 = .ok (.string SB) w6 := by rw [HSB.out]; exact run_str (HBs.out.keep HKF.out (fun _ _ _ h => h))
      have HKX := Lib.hid hk6; clear hk6
      have hvx : (convert 22 9 (.slice (some ⟨g, o4, none⟩) A.length A.length)).run Try.prog w6 = .ok (.string SA) w6 := by rw [HSA.out]; exact run_str (HX5.out.keep HKX.out (fun _ _ _ h => h))
      have hvy : (convert 22 9 (.slice (some ⟨g, o5, none⟩) B.length B.length)).run Try.prog w6 = .ok (.string SB) w6 := by rw [HSB.out]; exact run_str (HY5b.out.keep HKX.out (fun _ _ _ h => h))
      go_wp2_with fail
      refine (rdone_any _ _ _ _ _ _ _ HR6.out).mono ?_; rintro e w' ⟨rfl, rfl⟩
      rw [show Dn true _ = false from rfl]
      go_wp2_with fail
      go_ret
      exact ⟨by simp <;> omega, HKF.out.below (fun _ _ h => h)⟩
    · have hno : ¬ Rok (YB.take (n - (8 + A.length))) := by
        rw [HYB.out]
        exact not_rok (by have := HLEN.out; have := HLA.out; have := HYBl.out; have := HLB.out; omega) (by omega)
      go_wp2_with fail
      refine (rbytes_no r g o4b _ false _ _ HR4.out HLB1.out (Or.inr hno)).mono ?_; rintro e w5 ⟨rfl, ⟨o5, c5, L5, hr5, hb5, _⟩, hk5⟩
      clear hno
      have HR5 := Lib.hid hr5; have HK45 := Lib.hid hk5; have HK34 := Lib.hid (HK4.out.trans hk5); clear hr5 hb5 hk5
      go_wp2_with fail
      refine (rnum_no r g o5 c5 true L5 _ HR5.out (Or.inl rfl)).mono ?_; rintro e w5b ⟨rfl, hr5, hk5⟩
      clear HR5
      have HX5 := Lib.hid (HX4.out.keep (HK45.out.trans hk5) (fun ad ha _ e => hgr (by cases ha; exact e)))
      have HR5 := Lib.hid hr5; have HK5 := Lib.hid hk5; clear hr5 hk5
      go_wp2_with fail
      refine (w3ans_any _).mono ?_; rintro e w6 ⟨rfl, hk6⟩
      have HK36 := Lib.hid ((HK34.out.trans HK5.out).trans (hk6.mono (fun _ _ h => h.elim)))
      have HR6 := Lib.hid (HR5.out.keep hk6 (fun h => h) (fun _ h => h))
      have HKF := Lib.hid (((HKW.out.trans hk3).trans_new HK36.out (S := fun _ => False) (fun k h1 h2 => by have h3 : k = r := h2; have := HKW.out.size; omega)))
      have hva : (convert 22 9 (.slice ba A.length ca)).run Try.prog w6 = .ok (.string SA) w6 := by rw [HSA.out]; exact run_str (HAs.out.keep HKF.out (fun _ _ _ h => h))
      have hvb : (convert 22 9 (.slice bb B.length cb)).run Try.prog w6 = .ok (.string SB) w6 := by rw [HSB.out]; exact run_str (HBs.out.keep HKF.out (fun _ _ _ h => h))
      have HKX := Lib.hid hk6; clear hk6
      have hvx : (convert 22 9 (.slice (some ⟨g, o4, none⟩) A.length A.length)).run Try.prog w6 = .ok (.string SA) w6 := by rw [HSA.out]; exact run_str (HX5.out.keep HKX.out (fun _ _ _ h => h))
      go_wp2_with fail
      refine (rdone_any _ _ _ _ _ _ _ HR6.out).mono ?_; rintro e w' ⟨rfl, rfl⟩
      rw [show Dn true _ = false from rfl]
      go_wp2_with fail
      go_ret
      exact ⟨by simp <;> omega, HKF.out.below (fun _ _ h => h)⟩
end Go.Proofs.Ytihndplkkpglcaa
