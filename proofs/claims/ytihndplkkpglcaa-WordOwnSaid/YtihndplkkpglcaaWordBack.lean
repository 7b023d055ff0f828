/- WordBack: the law returns true for every input. No condition. -/
import Derived.Test.YtihndplkkpglcaaWordOps
import Derived.Deep.QuietTactic
import Derived.BigQuiet
namespace Go.Proofs.Ytihndplkkpglcaa
open Go.RowKit Go.ChangeShapes Go.WideShapes Go.Deep

theorem dec_enc {n : Int} (h0 : 0 ≤ n) (h1 : n ≤ 4611686018427387904) : dec (enc n) = n := by
  simp only [dec, enc, List.foldl_cons, List.foldl_nil]
  omega
theorem enc_byt (n : Int) : Byt (enc n) := by
  intro z hz
  simp only [enc, List.mem_cons, List.not_mem_nil, or_false] at hz
  omega
theorem Byt.app {L M : List Int} (h : Byt L) (g : Byt M) : Byt (L ++ M) := fun z hz => (List.mem_append.1 hz).elim (h z) (g z)
theorem take8_enc (n : Int) (R : List Int) : (enc n ++ R).take 8 = enc n := rfl
theorem drop8_enc (n : Int) (R : List Int) : (enc n ++ R).drop 8 = R := rfl

/-- what an operation writes -/
def E1 (r : OpR) : List Int := if r.k = 1 then enc r.n else enc r.N.length ++ r.N
def Cat : List OpR → List Int
  | [] => []
  | r :: M => E1 r ++ Cat M
theorem cat_app (A B : List OpR) : Cat (A ++ B) = Cat A ++ Cat B := by
  induction A with
  | nil => rfl
  | cons a A ih => simp [Cat, ih]
theorem cat_take (M : List OpR) {j : Nat} (hj : j < M.length) : Cat (M.take (j + 1)) = Cat (M.take j) ++ E1 (M.getD j op0) := by
  rw [List.take_succ_eq_append_getElem hj, cat_app]
  simp [Cat, List.getD, hj]
theorem cat_drop (M : List OpR) {j : Nat} (hj : j < M.length) : Cat (M.drop j) = E1 (M.getD j op0) ++ Cat (M.drop (j + 1)) := by
  rw [List.drop_eq_getElem_cons hj]
  simp [Cat, List.getD, hj]
theorem cat_byt (M : List OpR) (h : ∀ i, i < M.length → Byt (M.getD i op0).N) : Byt (Cat M) := by
  induction M with
  | nil => intro z hz; cases hz
  | cons a M ih =>
    have ha : Byt a.N := h 0 (Nat.succ_pos _)
    refine Byt.app ?_ (ih (fun i hi => h (i + 1) (Nat.succ_lt_succ hi)))
    unfold E1
    split
    · exact enc_byt _
    · exact (enc_byt _).app ha

set_option maxRecDepth 100000 in
set_option maxHeartbeats 1600000 in
theorem wordBack_law {H : Type} {enc' : TypeId × Value → H} (W : World) {base : Nat} (v0 : Value) (d0 : DataW H) (p0 : List MemPlace)
    (k0 : Value.okWide Try.prog W .any base 46 v0) (h0 : DataW.Trod enc' Try.prog W 0 (fun _ => true) true 46 v0 d0 p0) :
    Calls Try.prog 11 #[v0] W fun e W' => e = .returned (.bool true) ∧ Below W.heap.size W W' := by
  obtain ⟨ao, M, cap, rfl, hMc, hcap, hrow, hok⟩ := open_ops k0 h0
  clear h0 k0
  have HR := Lib.hid hrow; have HOP := Lib.hid hok; clear hrow hok
  have hwi0 : WI W (W.alloc (.cells #[.slice none 0 0, .bool false] 49)) (.slice none 0 0) false [] (.slice none 0 0) [] :=
    ⟨⟨heap_new _, Own.nil _ _ _, by simp [Value.ownBlock]⟩, Own.nil _ _ _, fun k hk => by simp [Value.ownBlock] at hk, fun k hk => by simp [Value.ownBlock] at hk, (Kp.refl _ _).alloc _⟩
  have HW0 := Lib.hid hwi0; clear hwi0
  go_enter Try.func11, Try.ntmps11
  go_wp2_with fail
  go_loopg [4] M.length (fun k i wr => ∃ (j : Nat) (b : Bool) (v : Value) (X : List Int), k = M.length - j ∧ j ≤ M.length ∧ i = .int .i64 j ∧ WI W wr v b X (.slice none 0 0) [] ∧ (b = false → X = Cat (M.take j) ∧ ∀ i, i < j → (M.getD i op0).k = 1 → May (M.getD i op0).n = true) ∧ X.length ≤ 508 * j ∧ (0 < j → M.length ≤ 50) ∧ (∀ i, i < j → (M.getD i op0).N.length ≤ 500))
  case atStart => exact ⟨0, false, _, [], rfl, Nat.zero_le _, rfl, HW0.out, fun _ => ⟨rfl, fun i hi => absurd hi (Nat.not_lt_zero _)⟩, Nat.zero_le _, fun h => absurd h (by omega), fun i hi => absurd hi (Nat.not_lt_zero _)⟩
  case round =>
    obtain ⟨j, b, v, X, hk, hj, rfl, hwi, hsame, hX, hM50, hNs⟩ := hrel
    have HKk := Lib.hid hk; have HWI := Lib.hid hwi; have HSAME := Lib.hid hsame; have HNS := Lib.hid hNs; clear hk hwi hsame hNs
    by_cases hlt : j < M.length
    · obtain ⟨bb, off, rfl, hb, hcell⟩ := HR.out.get hlt
      have hopj := HOP.out j hlt
      have HC := Lib.hid (cat_take M hlt)
      obtain ⟨r, hr⟩ : ∃ r, r = M.getD j op0 := ⟨_, rfl⟩
      have HRr := Lib.hid hr
      rw [← hr] at HC
      obtain ⟨kd, n, bo, c, N⟩ := r
      rw [← hr] at hopj
      obtain ⟨hsrc, hbyt, hNc, hcc⟩ := hopj
      simp only at hsrc hbyt hNc hcc
      have c0 := (HWI.out.kp.cell (off + j * 3 + 0) hb (fun h => h)).trans (hcell j hlt 0 (.int .i64 kd) (by rw [← hr]; rfl))
      have c1 := (HWI.out.kp.cell (off + j * 3 + 1) hb (fun h => h)).trans (hcell j hlt 1 (.int .i64 n) (by rw [← hr]; rfl))
      have c2 := (HWI.out.kp.cell (off + j * 3 + 2) hb (fun h => h)).trans (hcell j hlt 2 (.slice bo N.length c) (by rw [← hr]; rfl))
      rw [Nat.add_zero] at c0
      have HSRC := Lib.hid hsrc
      clear hr hcell hbyt hsrc
      have lW := HWI.out.kp.size
      by_cases hbig : 500 < N.length ∨ 50 < M.length
      · have fin : ∀ w1, Kp (fun _ => False) wr w1 → Below W.heap.size W w1 := fun w1 hk => (HWI.out.kp.trans hk).below (fun _ _ h => h)
        have FIN := Lib.hid fin; clear fin
        by_cases h5 : 500 < N.length
        · clear hbig
          go_wp2_with fail
          refine (w3ans_any _).mono ?_; rintro e w1 ⟨rfl, hk1⟩
          go_wp2_with fail
          go_ret
          exact ⟨rfl, FIN.out _ hk1⟩
        · have h50 : 50 < M.length := by omega
          clear hbig
          go_wp2_with fail
          refine (w3ans_any _).mono ?_; rintro e w1 ⟨rfl, hk1⟩
          go_wp2_with fail
          go_ret
          exact ⟨rfl, FIN.out _ hk1⟩
      have hN5 : N.length ≤ 500 := by omega
      have hM5 : M.length ≤ 50 := by omega
      clear hbig
      have HNS1 := Lib.hid (show ∀ i, i < j + 1 → (M.getD i op0).N.length ≤ 500 from fun i hi => by
        by_cases e : i = j
        · subst e; rw [← HRr.out]; exact hN5
        · exact HNS.out i (by omega))
      have hXl : X.length ≤ 1000000 := by omega
      by_cases hkd : kd = 1
      · subst hkd
        cases hm : May n with
        | true =>
          have HMAY := Lib.hid hm; clear hm
          go_wp2_with fail
          refine (wnum_any W.heap.size v _ X n _ HMAY.out HWI.out.wr (by omega)).mono ?_; rintro e w1 ⟨rfl, ⟨v', hp1, hsn⟩, hkr⟩
          have HWI1 := Lib.hid (HWI.out.put hp1 hsn hkr); clear hp1 hsn hkr
          go_wp2_with fail
          go_roundg (M.length - (j + 1))
          case measure => rw [HKk.out]; omega
          case rel =>
            refine ⟨j + 1, b, v', X ++ enc n, rfl, by omega, by go_num, HWI1.out, fun hb0 => ⟨?_, fun i hi => ?_⟩, by rw [List.length_append, enc_len]; omega, fun _ => hM5, HNS1.out⟩
            · rw [HC.out, (HSAME.out hb0).1]; rfl
            · by_cases e : i = j
              · subst e; rw [← HRr.out]; intro _; exact HMAY.out
              · exact (HSAME.out hb0).2 i (by omega)
        | false =>
          have HMAY := Lib.hid hm; clear hm
          go_wp2_with fail
          refine (wnum_bad W.heap.size v _ X n _ HMAY.out HWI.out.wr).mono ?_; rintro e w1 ⟨rfl, hp1, hkr⟩
          have HWI1 := Lib.hid (HWI.out.put (b' := true) hp1 (Or.inl rfl) (hkr.mono (fun k _ h => Or.inl h))); clear hp1 hkr
          go_wp2_with fail
          go_roundg (M.length - (j + 1))
          case measure => rw [HKk.out]; omega
          case rel => exact ⟨j + 1, true, v, X, rfl, by omega, by go_num, HWI1.out, (fun h => by cases h), by omega, fun _ => hM5, HNS1.out⟩
      · have HSR := Lib.hid (HSRC.out.keep HWI.out.kp (fun _ _ _ h => h))
        have HAP := Lib.hid (show ∀ ad, bo = some ad → N ≠ [] → ad.block < W.heap.size from fun ad ha hne => by
          have h0 : 0 < N.length := List.length_pos_iff.2 hne
          have := HSRC.out.2 ad ha 0 (.int .u8 N[0]) (by simp [Bc, List.getElem?_eq_getElem h0])
          have hbk : (ad.add 0).block = ad.block := by unfold Addr.add; split <;> rfl
          rw [← hbk]
          exact cell_lt this)
        go_wp2_with fail
        refine (wbytes_any W.heap.size v _ X N bo c _ HWI.out.wr hXl (by omega) HSR.out (fun ad ha hne => ⟨by have := HAP.out ad ha hne; omega, fun h => by have := HAP.out ad ha hne; have := HWI.out.v1 _ h; omega⟩)).mono ?_; rintro e w1 ⟨rfl, ⟨v', hp1, hsn⟩, hkr⟩
        have HWI1 := Lib.hid (HWI.out.put hp1 hsn hkr)
        clear hp1 hsn hkr
        go_wp2_with fail
        go_roundg (M.length - (j + 1))
        case measure => rw [HKk.out]; omega
        case rel =>
          refine ⟨j + 1, b, v', X ++ enc N.length ++ N, rfl, by omega, by go_num, HWI1.out, fun hb0 => ⟨?_, fun i hi => ?_⟩, by simp only [List.length_append, enc_len]; omega, fun _ => hM5, HNS1.out⟩
          · rw [HC.out, (HSAME.out hb0).1, E1, if_neg hkd, List.append_assoc]
          · by_cases e : i = j
            · subst e; rw [← HRr.out]; exact fun h => absurd h hkd
            · exact (HSAME.out hb0).2 i (by omega)
    · obtain rfl : j = M.length := by omega
      have hXl : X.length ≤ 1000000 := by
        rcases Nat.eq_zero_or_pos M.length with h0 | h0
        · rw [h0] at hX; omega
        · have := hM50 h0; omega
      cases b with
      | true =>
        go_wp2_with fail
        refine (wout_bad W.heap.size v X _ HWI.out.wr).mono ?_; rintro e w1 ⟨rfl, rfl⟩
        go_wp2_with fail
        refine (w3ans_any _).mono ?_; rintro e w2 ⟨rfl, hk2⟩
        go_wp2_with fail
        go_ret
        exact ⟨rfl, (HWI.out.kp.trans hk2).below (fun _ _ h => h)⟩
      | false =>
        have HALL := Lib.hid (HSAME.out rfl).2
        have HX := Lib.hid (show X = Cat (M.drop 0) by rw [(HSAME.out rfl).1, List.take_length]; rfl)
        go_wp2_with fail
        refine (wout_any W.heap.size v X _ HWI.out.wr (by omega)).mono ?_; rintro e w1 ⟨u, rfl, hu, hk1⟩
        have HU := Lib.hid (own_weaken hu)
        have HK1 := Lib.hid (HWI.out.kp.trans hk1); clear hu hk1
        obtain ⟨au, cu, rfl⟩ := HU.out.slice
        go_wp2_with fail
        refine (read_any au cu X _ (Src.own HU.out rfl) hXl).mono ?_; rintro e w2 ⟨r, g, rfl, hr0, hg0, hrd, hk2⟩
        have HK2 := Lib.hid (HK1.out.trans hk2); have hrW := Nat.le_trans HK1.out.size hr0
        rw [HX.out] at hrd
        have HRD := Lib.hid hrd; clear hk2 hrd
        go_wp2_with fail
        go_loopg [8] M.length (fun k i wi => ∃ (q o cp : Nat), k = M.length - q ∧ q ≤ M.length ∧ i = .int .i64 q ∧ RdAt wi r g o cp false (Cat (M.drop q)) ∧ Kp (fun _ => False) W wi)
        case atStart => exact ⟨0, 0, _, rfl, Nat.zero_le _, rfl, HRD.out, HK2.out⟩
        case round =>
          obtain ⟨q, o, cp, hk, hq, rfl, hrd, hkp⟩ := hrel
          have HKq := Lib.hid hk; have HRQ := Lib.hid hrd; have HKP := Lib.hid hkp; clear hk hrd hkp
          by_cases hlt : q < M.length
          · obtain ⟨bb, off, rfl, hb, hcell⟩ := HR.out.get hlt
            have hopj := HOP.out q hlt
            have hmay := HALL.out q hlt
            have HC := Lib.hid (cat_drop M hlt)
            have HBY := Lib.hid (cat_byt (M.drop q) (fun i hi => by
              rw [List.length_drop] at hi
              have := (HOP.out (q + i) (by omega)).2.1
              simpa [List.getD, List.getElem?_drop] using this))
            obtain ⟨s, hr⟩ : ∃ s, s = M.getD q op0 := ⟨_, rfl⟩
            have HRq := Lib.hid hr
            rw [← hr] at HC hopj hmay
            obtain ⟨kd, n, bo, c, N⟩ := s
            obtain ⟨hsrc, _, _, _⟩ := hopj
            simp only at hsrc hmay
            have c0 := (HKP.out.cell (off + q * 3 + 0) hb (fun h => h)).trans (hcell q hlt 0 (.int .i64 kd) (by rw [← hr]; rfl))
            have c1 := hcell q hlt 1 (.int .i64 n) (by rw [← hr]; rfl)
            have c2 := hcell q hlt 2 (.slice bo N.length c) (by rw [← hr]; rfl)
            rw [Nat.add_zero] at c0
            have HSRC := Lib.hid hsrc
            clear hr hcell hsrc
            obtain ⟨R, hR⟩ : ∃ R, R = Cat (M.drop (q + 1)) := ⟨_, rfl⟩
            rw [HC.out, ← hR] at HRQ HBY
            have HRe := Lib.hid hR; clear hR HC
            by_cases hkd : kd = 1
            · subst hkd
              have hm := hmay rfl
              have hn : 0 ≤ n ∧ n ≤ 4611686018427387904 := by
                unfold May at hm
                simpa using hm
              have hde := dec_enc hn.1 hn.2
              rw [show E1 ⟨1, n, bo, c, N⟩ = enc n from rfl] at HRQ HBY
              clear hm hmay
              go_wp2_with fail
              refine (rnum_any r g o cp _ _ HRQ.out (by rw [List.length_append, enc_len]; omega) HBY.out).mono ?_; rintro e w3 ⟨hd, hk3⟩
              rw [take8_enc, hde, drop8_enc, if_pos hn.2] at hd
              obtain ⟨rfl, o1, hr1, _⟩ := hd
              have HKP3 := Lib.hid (HKP.out.trans_new hk3 (S := fun _ => False) (fun k h1 h2 => by have h3 : k = r := h2; omega))
              have d1 := (HKP3.out.cell (off + q * 3 + 1) hb (fun h => h)).trans c1
              rw [HRe.out] at hr1
              have HR1 := Lib.hid hr1; clear hr1 hk3 hde
              go_wp2_with fail
              go_roundg (M.length - (q + 1))
              case measure => rw [HKq.out]; omega
              case rel => exact ⟨q + 1, o1, cp - 8, rfl, by omega, by go_num, HR1.out, HKP3.out⟩
            · rw [show E1 ⟨kd, n, bo, c, N⟩ = enc N.length ++ N by rw [E1, if_neg hkd]] at HRQ HBY
              have hNl : N.length ≤ 500 := by have := HNS.out q hlt; rw [← HRq.out] at this; exact this
              have hde := dec_enc (n := N.length) (by omega) (by omega)
              rw [List.append_assoc] at HRQ HBY
              have hrok : Rok (enc N.length ++ (N ++ R)) := by
                refine ⟨by rw [List.length_append, enc_len]; omega, by rw [take8_enc, hde]; omega, by rw [take8_enc, hde, List.length_append, List.length_append, enc_len]; omega⟩
              have HROK := Lib.hid hrok; have HDE := Lib.hid hde; clear hrok hde hmay
              go_wp2_with fail
              refine (rbytes_any r g o cp N.length _ _ HRQ.out HBY.out HROK.out (by rw [take8_enc, HDE.out])).mono ?_; rintro e w3 ⟨o1, o2, rfl, hcl, hr1, hk3⟩
              have HKP3 := Lib.hid (HKP.out.trans_new hk3 (S := fun _ => False) (fun k h1 h2 => by have h3 : k = r := h2; omega))
              have d2 := (HKP3.out.cell (off + q * 3 + 2) hb (fun h => h)).trans c2
              rw [drop8_enc, List.take_left] at hcl
              rw [← List.drop_drop, drop8_enc, List.drop_left, HRe.out] at hr1
              have HR1 := Lib.hid hr1
              obtain ⟨S, hS⟩ : ∃ S, S = Str N := ⟨_, rfl⟩
              have hv1 : ∀ m, (convert 22 9 (.slice (some ⟨g, o1, none⟩) N.length N.length)).run Try.prog (w3.drewN m) = .ok (.string S) (w3.drewN m) := fun m => by rw [hS]; exact run_str ((Src.of_row (c := N.length) hcl).keep ((Kp.refl (fun _ => False) w3).drewN m) (fun _ _ _ h => h))
              have hv2 : ∀ m, (convert 22 9 (.slice bo N.length c)).run Try.prog (w3.drewN m) = .ok (.string S) (w3.drewN m) := fun m => by rw [hS]; exact run_str (HSRC.out.keep (HKP3.out.drewN m) (fun _ _ _ h => h))
              clear hr1 hk3 hS hcl
              go_wp2_with fail
              go_quiet (fail)
              go_wp2_with fail
              go_roundg (M.length - (q + 1))
              case measure => rw [HKq.out]; omega
              case rel => exact ⟨q + 1, o2, cp - 8 - N.length, rfl, by omega, by go_num, HR1.out.keep ((Kp.refl (fun _ => False) w3).drewN _) (fun h => h) (fun _ h => h), HKP3.out.drewN _⟩
          · rw [List.drop_eq_nil_of_le (by omega)] at HRQ
            go_wp2_with fail
            refine (rnum_no r g o cp false [] _ HRQ.out (Or.inr (by simp))).mono ?_; rintro e w3 ⟨rfl, hr1, hk3⟩
            have HKP3 := Lib.hid (HKP.out.trans_new hk3 (S := fun _ => False) (fun k h1 h2 => by have h3 : k = r := h2; omega))
            have HR1 := Lib.hid hr1; clear hr1 hk3
            go_wp2_with fail
            refine (w3ans_any _).mono ?_; rintro e w4 ⟨rfl, hk4⟩
            have HR4 := Lib.hid (HR1.out.keep hk4 (fun h => h) (fun _ h => h)); have HKP4 := Lib.hid (HKP3.out.trans hk4); clear hk4
            go_wp2_with fail
            refine (rdone_any r g o cp true [] _ HR4.out).mono ?_; rintro e w' ⟨rfl, rfl⟩
            rw [show Dn true [] = false from rfl]
            go_wp2_with fail
            go_ret
            exact ⟨rfl, HKP4.out.below (fun _ _ h => h)⟩
end Go.Proofs.Ytihndplkkpglcaa
