/- PipeRuns: whatever runs, all runs are told, in order: the law returns true for every input. No condition. -/
import Derived.Test.YtihndplkkpglcaaPipeLaws
namespace Go.Proofs.Ytihndplkkpglcaa
open Go.RowKit Go.ChangeShapes Go.WideShapes Go.Deep

theorem cells_run : Try.prog.cellsOf 40 = 3 := by kernel_rfl
theorem cells_int : Try.prog.cellsOf 3 = 1 := by kernel_rfl
theorem cells_string : Try.prog.cellsOf 9 = 1 := by kernel_rfl

/-- an argument of runs -/
theorem open_runs {H : Type} {enc : TypeId × Value → H} {W : World} {base : Nat} {v : Value} {d : DataW H} {ps : List MemPlace} (k : Value.okWide Try.prog W .any base 34 v) (h : DataW.Trod enc Try.prog W 0 (fun _ => true) true 34 v d ps) :
    ∃ (ao : Option Addr) (M : List (Int × ByteArray × Int)) (cap : Nat), v = .slice ao M.length cap ∧ cap ≤ 9223372036854775807 ∧ SRow W ao M.length 3 (fun i => Rc (M.getD i (0, ByteArray.empty, 0))) := by
  obtain ⟨ao, len, cap, V, rfl, h1, h2, h3, h4⟩ := open_srow Try.underlying34 cells_run (by omega) k h
  obtain ⟨f, hf⟩ := choose_lt (α := Int × ByteArray × Int) (p := fun i r => V i = Rc r) (fun i hi => by
    obtain ⟨n, y, hy⟩ := h4 i hi
    obtain ⟨xs, n', rfl, _, hl, hxl, hx⟩ := DataW.trod_struct Try.underlying40 hy
    obtain ⟨hV, _⟩ := h3 i hi
    have e0 : DataW.trod enc Try.prog W 0 (fun _ => true) true n' 3 (((V i).drop 0).take (Try.prog.cellsOf 3)) = xs[0]? := hx 0 _ rfl
    have e1 : DataW.trod enc Try.prog W 0 (fun _ => true) true n' 9 (((V i).drop 1).take (Try.prog.cellsOf 9)) = xs[1]? := hx 1 _ rfl
    have e2 : DataW.trod enc Try.prog W 0 (fun _ => true) true n' 3 (((V i).drop 2).take (Try.prog.cellsOf 3)) = xs[2]? := hx 2 _ rfl
    rw [cells_int] at e0 e2
    rw [cells_string] at e1
    match hVi : V i, hV with
    | [a, b, c], _ =>
      rw [hVi] at e0 e1 e2
      have l3 : xs.length = 3 := hxl
      rw [List.getElem?_eq_getElem (by omega)] at e0 e1 e2
      obtain ⟨x, hx0, _⟩ := DataW.trod_int Try.underlying3 e0
      obtain ⟨s, hx1, _⟩ := DataW.trod_string Try.underlying9 e1
      obtain ⟨z, hx2, _⟩ := DataW.trod_int Try.underlying3 e2
      simp at hx0 hx1 hx2
      exact ⟨(x, s, z), by rw [hx0, hx1, hx2]; rfl⟩)
  refine ⟨ao, (List.range len).map f, cap, by simp, h1, ?_⟩
  rw [List.length_map, List.length_range]
  refine h3.congr fun i hi => ?_
  have e : ((List.range len).map f).getD i (0, ByteArray.empty, 0) = f i := by simp [List.getD, hi]
  rw [e, hf i hi]

set_option maxRecDepth 100000 in
set_option maxHeartbeats 1600000 in
theorem pipeRuns_law {H : Type} {enc : TypeId × Value → H} (W : World) {base : Nat} (v0 : Value) (d0 : DataW H) (p0 : List MemPlace)
    (k0 : Value.okWide Try.prog W .any base 34 v0) (h0 : DataW.Trod enc Try.prog W 0 (fun _ => true) true 34 v0 d0 p0) :
    Calls Try.prog 7 #[v0] W fun e W' => e = .returned (.bool true) ∧ Below W.heap.size W W' := by
  obtain ⟨ao, M, cap, rfl, hcap, hrow⟩ := open_runs k0 h0
  clear h0 k0
  have HR := Lib.hid hrow; clear hrow
  have hn := Lib.hid (pipe_new (w := W))
  by_cases hmany : 100 < M.length
  · go_enter Try.func7, Try.ntmps7
    go_wp2_with fail
    refine (pans_any _).mono ?_; rintro e w2 ⟨rfl, hk2⟩
    go_wp2_with fail
    go_ret
    exact ⟨rfl, (((Kp.refl (fun _ => False) W).alloc _).trans hk2).below (fun _ _ h => h)⟩
  go_enter Try.func7, Try.ntmps7
  go_wp2_with fail
  go_loopg [4] M.length (fun k i wr => ∃ (j : Nat) (v : Value), k = M.length - j ∧ j ≤ M.length ∧ i = .int .i64 j ∧ PipeAt wr W.heap.size v (M.take j) ∧ (∀ k, v.ownBlock = some k → W.heap.size ≤ k) ∧ Kp (fun _ => False) W wr)
  case atStart => exact ⟨0, .slice none 0 0, rfl, Nat.zero_le _, rfl, hn.out, fun k hk => by simp [Value.ownBlock] at hk, (Kp.refl _ _).alloc _⟩
  case round =>
    obtain ⟨j, v, hk, hj, rfl, hp, hv, hkp⟩ := hrel
    have HKk := Lib.hid hk; have HP := Lib.hid hp; have HV := Lib.hid hv; have HKP := Lib.hid hkp; clear hk hp hv hkp
    by_cases hlt : j < M.length
    · obtain ⟨b, off, rfl, hb, hcell⟩ := HR.out.get hlt
      obtain ⟨r, hr⟩ : ∃ r, r = M[j] := ⟨_, rfl⟩
      obtain ⟨a, s, c⟩ := r
      have hd : M.getD j (0, ByteArray.empty, 0) = (a, s, c) := by rw [hr]; simp [List.getD, hlt]
      have C0 := Lib.hid (hcell j hlt 0 (.int .i64 a) (by rw [hd]; rfl))
      have C1 := Lib.hid (hcell j hlt 1 (.string s) (by rw [hd]; rfl))
      have C2 := Lib.hid (hcell j hlt 2 (.int .i64 c) (by rw [hd]; rfl))
      clear hcell hd
      have HT := Lib.hid (show M.take (j + 1) = M.take j ++ [(a, s, c)] by rw [List.take_succ_eq_append_getElem hlt, ← hr])
      clear hr
      have c0 := (HKP.out.cell (off + j * 3 + 0) hb (fun h => h)).trans C0.out
      have c1 := (HKP.out.cell (off + j * 3 + 1) hb (fun h => h)).trans C1.out
      have c2 := (HKP.out.cell (off + j * 3 + 2) hb (fun h => h)).trans C2.out
      rw [Nat.add_zero] at c0
      have lW := HKP.out.size
      have hlj : (M.take j).length ≤ 1000000 := by rw [List.length_take]; omega
      have HPd := Lib.hid (HP.out.keep ((Kp.refl (fun _ => False) wr).drew) (fun h => h) (fun _ _ h => h))
      go_wp2_with fail
      go_region_held3 (fun w' => w'.cell? ⟨b, off + j * 3, none⟩ = some (.int .i64 a) ∧ w'.cell? ⟨b, off + j * 3 + 1, none⟩ = some (.string s) ∧ w'.cell? ⟨b, off + j * 3 + 2, none⟩ = some (.int .i64 c)) (first | exact ⟨c0, c1, c2⟩ | exact ⟨(hkr.cell _ (Nat.lt_of_lt_of_le hb lW) hnb).trans c0, (hkr.cell _ (Nat.lt_of_lt_of_le hb lW) hnb).trans c1, (hkr.cell _ (Nat.lt_of_lt_of_le hb lW) hnb).trans c2⟩)
        (first | (go_at_call 24; refine (prun_any W.heap.size v (M.take j) a c s _ HPd.out hlj).mono ?_; rintro e w1 ⟨rfl, ⟨v', hp1, hsn⟩, hkr⟩; have hnb : ¬ (b = W.heap.size ∨ In v b) := (fun h => h.elim (fun h => by omega) (fun h => by have := HV.out b h; omega)); have HP1 := Lib.hid hp1; have HSN := Lib.hid hsn; clear hp1 hsn) | (go_at_call 25; refine (rkind_any _ _).mono ?_; rintro e w' ⟨rfl, rfl⟩))
      go_wp2_with fail
      go_roundg (M.length - (j + 1))
      case measure => rw [HKk.out]; omega
      case rel =>
        refine ⟨j + 1, v', rfl, by omega, by go_num, by rw [HT.out]; exact HP1.out, fun k hk => ?_, HKP.out.drew.trans_new hkr (fun k h1 h2 => ?_)⟩
        · rcases HSN.out with h | h
          · exact HV.out k (h ▸ hk)
          · have h3 : w1.heap.size = w1.heap.size := rfl
            have := h k hk
            exact Nat.le_trans lW this
        · rcases h2 with h2 | h2
          · omega
          · have := HV.out k h2; omega
    · have hM : M.take j = M := List.take_of_length_le (by omega)
      rw [hM] at HP
      clear hM
      have hlM : M.length ≤ 1000000 := by omega
      go_wp2_with fail
      refine (pruns_any W.heap.size v M _ HP.out hlM).mono ?_; rintro e w5 ⟨l, rfl, hl, hk5⟩
      have HP5 := Lib.hid (HP.out.keep hk5 (fun h => h) (fun _ _ h => h)); have HK5 := Lib.hid (HKP.out.trans hk5)
      have HOL := Lib.hid (own_weaken hl); clear hl hk5 HP HKP
      obtain ⟨ao2, cap2, rfl⟩ := HOL.out.slice
      go_wp2_with fail
      go_loopg [6] M.length (fun k i wi => ∃ q : Nat, k = M.length - q ∧ q ≤ M.length ∧ i = .int .i64 q ∧ Kp (fun _ => False) w5 wi)
      case atStart => exact ⟨0, rfl, Nat.zero_le _, rfl, Kp.refl _ _⟩
      case round =>
        obtain ⟨q, hk, hq, rfl, hkp⟩ := hrel
        have HKk2 := Lib.hid hk; have HKi := Lib.hid hkp; clear hk hkp
        by_cases hlt2 : q < M.length
        · rcases HOL.out.shape with ⟨_, h0, _⟩ | ⟨g, cap', he, hcap2, _, hg⟩
          · omega
          cases he
          obtain ⟨b, off, rfl, hb, hcell⟩ := HR.out.get hlt2
          obtain ⟨r, hr⟩ : ∃ r, r = M[q] := ⟨_, rfl⟩
          obtain ⟨a, s, c⟩ := r
          have hgg := Rs_get M hlt2
          rw [← hr] at hgg
          obtain ⟨g0, g1, g2⟩ := hgg
          have hd : M.getD q (0, ByteArray.empty, 0) = (a, s, c) := by rw [hr]; simp [List.getD, hlt2]
          have C0 := Lib.hid (hcell q hlt2 0 (.int .i64 a) (by rw [hd]; rfl))
          have C1 := Lib.hid (hcell q hlt2 1 (.string s) (by rw [hd]; rfl))
          have C2 := Lib.hid (hcell q hlt2 2 (.int .i64 c) (by rw [hd]; rfl))
          have L0 := Lib.hid (HOL.out.cell g0); have L1 := Lib.hid (HOL.out.cell g1); have L2 := Lib.hid (HOL.out.cell g2)
          have HCELL := Lib.hid hcell
          clear hd hr g0 g1 g2 hcell
          have HKW := Lib.hid (HK5.out.trans HKi.out)
          obtain ⟨wj, hwj⟩ : ∃ wj : World, wj = wr := ⟨_, rfl⟩
          rw [← hwj]
          rw [← hwj] at HKi HKW
          clear hwj
          go_wp2_with fail
          go_loopg [7, 8] M.length (fun k n i wi => ∃ t : Nat, k = M.length - t ∧ t ≤ M.length ∧ i = .int .i64 t ∧ n = .int .i64 (Cnt a s (M.take t)) ∧ Kp (fun _ => False) wj wi)
          case atStart => exact ⟨0, rfl, Nat.zero_le _, rfl, by simp [Cnt], Kp.refl _ _⟩
          case round =>
            obtain ⟨t, hk, ht, rfl, rfl, hkp⟩ := hrel
            have HKk3 := Lib.hid hk; have HKt := Lib.hid hkp; clear hk hkp
            have HK5t := Lib.hid (HKi.out.trans HKt.out)
            have HKWt := Lib.hid (HKW.out.trans HKt.out)
            have l0 := (HK5t.out.cell (q * 3) hg (fun h => h)).trans L0.out
            have l1 := (HK5t.out.cell (q * 3 + 1) hg (fun h => h)).trans L1.out
            have l2 := (HK5t.out.cell (q * 3 + 2) hg (fun h => h)).trans L2.out
            by_cases hlt3 : t < M.length
            · have hct := Cnt_take (id := a) (s := s) hlt3
              have hcl : Cnt a s (M.take t) ≤ 1000000 := by have := Cnt_le a s (M.take t); rw [List.length_take] at this; omega
              obtain ⟨r2, hr2⟩ : ∃ r2, r2 = M[t] := ⟨_, rfl⟩
              obtain ⟨a2, s2, c2⟩ := r2
              have hd2 : M.getD t (0, ByteArray.empty, 0) = (a2, s2, c2) := by rw [hr2]; simp [List.getD, hlt3]
              have e0 := (HKWt.out.cell (off + t * 3 + 0) hb (fun h => h)).trans (HCELL.out t hlt3 0 (.int .i64 a2) (by rw [hd2]; rfl))
              have e1 := (HKWt.out.cell (off + t * 3 + 1) hb (fun h => h)).trans (HCELL.out t hlt3 1 (.string s2) (by rw [hd2]; rfl))
              rw [Nat.add_zero] at e0
              rw [← hr2] at hct
              simp only at hct
              clear hd2 hr2
              obtain ⟨ct, hq2⟩ : ∃ ct, ct = Cnt a s (M.take t) := ⟨_, rfl⟩
              rw [← hq2] at hct hcl ⊢
              clear hq2
              by_cases h1 : a2 = a
              · subst h1
                by_cases h2 : s2 = s
                · subst h2
                  rw [if_pos ⟨rfl, rfl⟩] at hct
                  have HCT := Lib.hid hct; clear hct
                  go_wp2_with fail
                  go_quiet (fail)
                  go_wp2_with fail
                  go_roundg (M.length - (t + 1))
                  case measure => rw [HKk3.out]; omega
                  case rel => exact ⟨t + 1, rfl, by omega, by go_num, by rw [HCT.out]; go_num, HKt.out.trans ((by repeat (first | exact Kp.refl _ _ | apply Kp.drew | apply Kp.drewN | refine Kp.setCell ?_ _ _ (Or.inl rfl) | apply Kp.alloc)))⟩
                · rw [if_neg (fun h => h2 h.2)] at hct
                  have hs := toList_ne h2
                  have hsb : (s2.toList == s.toList) = false := by rw [beq_eq_false_iff_ne]; exact hs
                  have HCT := Lib.hid hct; clear hct h2
                  go_wp2_with fail
                  go_quiet (fail)
                  go_wp2_with fail
                  go_roundg (M.length - (t + 1))
                  case measure => rw [HKk3.out]; omega
                  case rel => exact ⟨t + 1, rfl, by omega, by go_num, by rw [HCT.out]; rfl, HKt.out.trans ((by repeat (first | exact Kp.refl _ _ | apply Kp.drew | apply Kp.drewN | refine Kp.setCell ?_ _ _ (Or.inl rfl) | apply Kp.alloc)))⟩
              · rw [if_neg (fun h => h1 h.1)] at hct
                have HCT := Lib.hid hct; clear hct
                have hb1 : (a2 == a) = false := by rw [beq_eq_false_iff_ne]; exact h1
                go_wp2_with fail
                go_quiet (fail)
                go_wp2_with fail
                go_roundg (M.length - (t + 1))
                case measure => rw [HKk3.out]; omega
                case rel => exact ⟨t + 1, rfl, by omega, by go_num, by rw [HCT.out]; rfl, HKt.out.trans ((by repeat (first | exact Kp.refl _ _ | apply Kp.drew | apply Kp.drewN | refine Kp.setCell ?_ _ _ (Or.inl rfl) | apply Kp.alloc)))⟩
            · have hjl := Lib.hid (show M.take t = M from List.take_of_length_le (by omega))
              rw [hjl.out]
              have m0 := (HKWt.out.cell (off + q * 3 + 0) hb (fun h => h)).trans C0.out
              have m1 := (HKWt.out.cell (off + q * 3 + 1) hb (fun h => h)).trans C1.out
              have m2 := (HKWt.out.cell (off + q * 3 + 2) hb (fun h => h)).trans C2.out
              rw [Nat.add_zero] at m0
              have HPt := Lib.hid (HP5.out.keep HK5t.out.drew (fun h => h) (fun _ _ h => h))
              have lg := Nat.lt_of_lt_of_le hg HK5t.out.size
              have lb := Nat.lt_of_lt_of_le hb HKWt.out.size
              clear hjl C0 C1 C2 L0 L1 L2
              go_wp2_with fail
              go_region_held3 (fun w' => (w'.cell? ⟨g, q * 3, none⟩ = some (.int .i64 a) ∧ w'.cell? ⟨g, q * 3 + 1, none⟩ = some (.string s) ∧ w'.cell? ⟨g, q * 3 + 2, none⟩ = some (.int .i64 c)) ∧ w'.cell? ⟨b, off + q * 3, none⟩ = some (.int .i64 a) ∧ w'.cell? ⟨b, off + q * 3 + 1, none⟩ = some (.string s) ∧ w'.cell? ⟨b, off + q * 3 + 2, none⟩ = some (.int .i64 c))
                (first | exact ⟨⟨l0, l1, l2⟩, m0, m1, m2⟩ | exact ⟨⟨(hkc.cell _ lg (fun h => h)).trans l0, (hkc.cell _ lg (fun h => h)).trans l1, (hkc.cell _ lg (fun h => h)).trans l2⟩, (hkc.cell _ lb (fun h => h)).trans m0, (hkc.cell _ lb (fun h => h)).trans m1, (hkc.cell _ lb (fun h => h)).trans m2⟩)
                (first | (go_at_call 27; refine (pcount_any W.heap.size v M a s _ HPt.out hlM).mono ?_; rintro e w6 ⟨rfl, hkc⟩))
              go_wp2_with fail
              go_roundg (M.length - (q + 1))
              case measure => rw [HKk2.out]; omega
              case rel => exact ⟨q + 1, rfl, by omega, by go_num, HK5t.out.drew.trans hkc⟩
        · go_wp2_with fail
          refine (pans_any _).mono ?_; rintro e w6 ⟨rfl, hk6⟩
          go_wp2_with fail
          go_ret
          exact ⟨rfl, ((HK5.out.trans HKi.out).trans hk6).below (fun _ _ h => h)⟩
end Go.Proofs.Ytihndplkkpglcaa
