/- WordOwn: the law returns true for every input. No condition. -/
import Derived.Test.YtihndplkkpglcaaWordBack
import Derived.Deep.RegionHeld3
namespace Go.Proofs.Ytihndplkkpglcaa
open Go.RowKit Go.ChangeShapes Go.WideShapes Go.Deep

theorem src_zero {w : World} {bo : Option Addr} {c : Nat} {N : List Int} (hs : Src w bo c N) (h : bo = none) : N.length = 0 := by rw [(hs.1 h).1]; rfl
theorem Bc_set (C : List Int) (i : Nat) (y : Int) : (Bc C).set i (.int .u8 y) = Bc (C.set i y) := by simp [Bc, List.map_set]

section
variable {P : Program} {l : List Oper} {Q : Exit → Act → World → Prop} {md : Region.Mode} {S S' : World → Prop}
theorem wpAnyH_mono {ops : Array Oper} (hS : ∀ w, S' w → S w) : ∀ (fuel : Nat) (listed : Array Bool) (a : Act) (w : World), wpAnyH P md ops Q S' fuel listed a w → wpAnyH P md ops Q S fuel listed a w
  | 0, _, _, _, h => h
  | fuel + 1, _, _, _, h => ⟨h.1, fun i hi => wpOp_mono (fun a' w' h' => ⟨hS _ h'.1, wpAnyH_mono hS fuel _ a' w' h'.2⟩) (h.2 i hi)⟩
theorem takeL {i : Nat} {oi : Oper} {v : Value} {fuel : Nat} {listed : Array Bool} {a : Act} {w : World} (hi : l[i]? = some oi)
    (hs : Region.noSelect l.toArray = true) (hf : Region.free md l.toArray listed i = true) (hr : (Region.ready md l.toArray listed).contains i = true)
    (hQ : ∀ c a w, Q (.panic c) (a.put oi.dst v) w → Q (.panic c) a w) (hy : YieldsIf P l.toArray S oi v a) (hS : S w)
    (h : wpAnyH P md l.toArray Q S fuel (listed.setIfInBounds i true) (a.put oi.dst v) w) : wpAnyH P md l.toArray Q S (fuel + 1) listed a w :=
  wpAnyH_take (by simpa using hi) hs hf hr hQ hy hS h
theorem consL {fuel : Nat} {listed : Array Bool} {a : Act} {w : World} {i : Nat} {o : Oper} {rs : List Nat} (ho : l[i]? = some o)
    (h : ∀ K' : Act → World → Prop, Shut (∀ a w, S w → (S w → wpAnyH P md l.toArray Q S fuel (listed.setIfInBounds i true) a w) → K' a w) → if Region.wanted o (yielded l.toArray a.tmps) = true then Oper.wp P o a w K' Q else K' (a.put o.dst undef) w)
    (hs : AllReadyH P md l.toArray Q S fuel listed a w rs) : AllReadyH P md l.toArray Q S fuel listed a w (i :: rs) := AllReadyH.cons (by simpa using ho) h hs
end
set_option maxRecDepth 100000 in
set_option maxHeartbeats 6400000 in
theorem wordOwn_law {H : Type} {enc' : TypeId × Value → H} (W : World) {base : Nat} (v0 v1 : Value) (d0 d1 : DataW H) (p0 p1 : List MemPlace)
    (k0 : Value.okWide Try.prog W .any base 22 v0) (k1 : Value.okWide Try.prog W .any base 3 v1)
    (h0 : DataW.Trod enc' Try.prog W 0 (fun _ => true) true 22 v0 d0 p0) (h1 : DataW.Trod enc' Try.prog W 0 (fun _ => true) true 3 v1 d1 p1) :
    Calls Try.prog 12 #[v0, v1] W fun e W' => e = .returned (.bool true) ∧ Below W.heap.size W W' := by
  obtain ⟨z, rfl, rfl, rfl, wz⟩ := open_int Try.underlying3 k1 h1
  obtain ⟨f0, hf0⟩ := slice_trod Try.underlying22 k0 h0
  obtain ⟨bo, B, cb, hB, hBc, hcb, hBs, hBb⟩ := bytes_of_trod (hf0 _ rfl)
  obtain rfl : v0 = .slice bo B.length cb := by simpa using hB
  clear h0 k0 hf0 hB h1 k1 wz
  have HBs := Lib.hid hBs; have HBb := Lib.hid hBb; clear hBs hBb
  obtain ⟨i0, hi, hz0, hz1, hz2⟩ := info_parts u8_info
  by_cases hbig : 500 < B.length
  · go_enter Try.func12, Try.ntmps12
    go_wp2_with fail
    refine (w3ans_any _).mono ?_; rintro e w1 ⟨rfl, hk1⟩
    go_wp2_with fail
    go_ret
    exact ⟨rfl, hk1.below (fun _ _ h => h)⟩
  have hB5 : B.length ≤ 500 := by omega
  clear hbig
  have HS0 := Lib.hid (HBs.out.keep ((Kp.refl (fun _ => False) W).alloc (.cells #[] 5)) (fun _ _ _ h => h))
  have HE := Lib.hid (own_weaken (World.ownsRow_lit (base := W.heap.size) (e := 5) (size := 1) W #[] 0 (Nat.le_refl _) (by unfold maxLen; omega) rfl))
  go_enter Try.func12, Try.ntmps12
  go_wp2_with (at_builtin; (refine wpList_append_prec _ rfl _ _ 22 rfl 5 i0 _ 1 1 Try.underlying22 hi hz0 hz1 hz2 rfl (by decide) _ 0 [] rfl HE.out bo B.length cb (Bc B) rfl (fun h => ⟨src_zero HS0.out h, (HS0.out.1 h).2⟩) (Bc_len1 _) HS0.out.2 (Bc_one _) (by unfold maxLen; omega) (by omega) ?_; intro v2 w3 hown3 hk3 hsn3 _; rw [Nat.zero_add, List.nil_append] at hown3; have hk4 : Kp (In (.slice (some ⟨W.heap.size, 0, none⟩) 0 0)) (W.alloc (.cells #[] 5)) w3 := hk3; have hsn4 : SameOrNew (W.alloc (.cells #[] 5)) (.slice (some ⟨W.heap.size, 0, none⟩) 0 0) v2 := hsn3; have HO3 := Lib.hid hown3; have HSN3 := Lib.hid hsn4; have HK3 := Lib.hid hk4; obtain ⟨ai, ci, rfl⟩ := HO3.out.slice; clear hown3 hk3 hsn3 hk4 hsn4))
  have HI := Lib.hid (show ∀ k, (Value.slice ai B.length ci).ownBlock = some k → W.heap.size ≤ k ∧ k < w3.heap.size from fun k hk => ⟨by
    rcases HSN3.out with h | h
    · have e : (Value.slice (some ⟨W.heap.size, 0, none⟩) 0 0).ownBlock = some k := h ▸ hk
      have : W.heap.size = k := by simpa [Value.ownBlock] using e
      omega
    · have := h k hk; simp at this; omega, HO3.out.lt hk⟩)
  have HKW3 := Lib.hid (((Kp.refl (fun _ => False) W).alloc (.cells #[] 5)).trans_new HK3.out (S := fun _ => False) (fun k h1 h2 => by
    have : W.heap.size = k := by simpa [In, Value.ownBlock] using h2
    omega))
  have HOa := Lib.hid (HO3.out.alloc (.cells #[.slice none 0 0, .bool false] 49))
  have hwr0 : WrAt (w3.alloc (.cells #[.slice none 0 0, .bool false] 49)) w3.heap.size (.slice none 0 0) false [] := ⟨heap_new _, Own.nil _ _ _, by simp [Value.ownBlock]⟩
  have HWR0 := Lib.hid hwr0; clear hwr0
  go_wp2_with fail
  refine (wbytes_any w3.heap.size _ false [] B ai ci _ HWR0.out (by simp) (by omega) (Src.own HOa.out rfl) (fun ad ha _ => ⟨fun e => by
    rcases HO3.out.shape with ⟨h, _, _⟩ | ⟨g, c', h, _, _, hg⟩
    · simp only [Value.slice.injEq] at h; rw [h.1] at ha; cases ha
    · cases h; cases ha; have e' : g = w3.heap.size := e; omega, by simp [Value.ownBlock]⟩)).mono ?_; rintro e w4 ⟨rfl, ⟨v', hp4, hsn4⟩, hk4⟩
  obtain ⟨X, hX⟩ : ∃ X, X = enc B.length ++ B := ⟨_, rfl⟩
  have hXl : X.length ≤ 508 := by rw [hX, List.length_append, enc_len]; omega
  rw [List.nil_append, ← hX] at hp4
  have HX := Lib.hid hX; clear hX
  have HV' := Lib.hid (show ∀ k, v'.ownBlock = some k → w3.heap.size ≤ k from fun k hk => by
    rcases hsn4 with h | h
    · rw [h] at hk; simp [Value.ownBlock] at hk
    · have := h k hk; simp at this; omega)
  have HWR4 := Lib.hid hp4
  have HO4 := Lib.hid (HOa.out.keep hk4 (fun k hk h => by
    have h3 := HI.out k hk
    rcases h with h | h
    · omega
    · simp [In, Value.ownBlock] at h))
  have HKW4 := Lib.hid ((HKW3.out.alloc (.cells #[.slice none 0 0, .bool false] 49)).trans_new hk4 (S := fun _ => False) (fun k h1 h2 => by
    have := HKW3.out.size
    rcases h2 with h2 | h2
    · omega
    · simp [In, Value.ownBlock] at h2))
  clear hp4 hsn4 hk4
  go_wp2_with fail
  go_loopg [7] B.length (fun k i wr => ∃ (j : Nat) (C : List Int), k = B.length - j ∧ j ≤ B.length ∧ i = .int .i64 j ∧ C.length = B.length ∧ Own wr 5 1 (.slice ai B.length ci) B.length (Bc C) ∧ Kp (In (.slice ai B.length ci)) w4 wr)
  case atStart => exact ⟨0, B, rfl, Nat.zero_le _, rfl, rfl, HO4.out, Kp.refl _ _⟩
  case round =>
    obtain ⟨j, C, hk, hj, rfl, hCl, hown, hkp⟩ := hrel
    have HKk := Lib.hid hk; have HCL := Lib.hid hCl; have HOW := Lib.hid hown; have HKP := Lib.hid hkp; clear hk hCl hown hkp
    by_cases hlt : j < B.length
    · rcases HOW.out.shape with ⟨_, h0, _⟩ | ⟨g, c', he, hcc, _, hg⟩
      · omega
      cases he
      have cj := HOW.out.cell (j := j) (u := .int .u8 (C.getD j 0)) (by simp [Bc, List.getElem?_eq_getElem (show j < C.length by rw [HCL.out]; exact hlt), List.getD])
      have fj := HOW.out.frozen j
      obtain ⟨x, hx⟩ : ∃ x, x = C.getD j 0 := ⟨_, rfl⟩
      rw [← hx] at cj
      clear hx
      go_wp2_with fail
      go_roundg (B.length - (j + 1))
      case measure => rw [HKk.out]; omega
      case rel =>
        refine ⟨j + 1, C.set j ?newcell, rfl, by omega, by go_num, by rw [List.length_set, HCL.out], ?own, HKP.out.setCell _ _ (Or.inl rfl)⟩
        case own => rw [← Bc_set]; exact (World.ownsRow.stored HOW.out j _).1
    · have HWR5 := Lib.hid (HWR4.out.keep HKP.out (fun h => by have := HI.out _ h; omega) (fun k hk h => by have := HI.out _ h; have := HV'.out k hk; omega))
      have HKW5 := Lib.hid (HKW4.out.trans_new HKP.out (S := fun _ => False) (fun k h1 h2 => by have := HI.out _ h2; omega))
      clear HOW HKP HCL
      go_wp2_with fail
      refine (wout_any w3.heap.size v' X _ HWR5.out (by omega)).mono ?_; rintro e w5 ⟨x, rfl, hx, hk5⟩
      have HWR6 := Lib.hid (HWR5.out.keep hk5 (fun h => h) (fun _ _ h => h))
      have HOX := Lib.hid (own_weaken hx); have HKW6 := Lib.hid (HKW5.out.trans hk5)
      have HXI := Lib.hid (show ∀ k, x.ownBlock = some k → W.heap.size ≤ k ∧ k < w5.heap.size from fun k hk => ⟨Nat.le_trans HKW5.out.size (World.ownsRow.lt hx k hk).1, HOX.out.lt hk⟩)
      obtain ⟨ax, cx, rfl⟩ := HOX.out.slice
      clear hx hk5
      go_wp2_with fail
      refine (wout_any w3.heap.size v' X _ HWR6.out (by omega)).mono ?_; rintro e w6 ⟨y, rfl, hy, hk6⟩
      have HOY := Lib.hid (own_weaken hy); have HKW7 := Lib.hid (HKW6.out.trans hk6)
      have HYI := Lib.hid (show ∀ k, y.ownBlock = some k → w5.heap.size ≤ k ∧ k < w6.heap.size from fun k hk => ⟨(World.ownsRow.lt hy k hk).1, HOY.out.lt hk⟩)
      obtain ⟨ay, cy, rfl⟩ := HOY.out.slice
      have HOX6 := Lib.hid (HOX.out.keepF hk6)
      have h56 := hk6.size
      clear hy hk6
      go_wp2_with fail
      refine (read_any ax cx X _ (Src.own HOX6.out rfl) (by omega)).mono ?_; rintro e w7 ⟨r, g, rfl, hr0, hg0, hrd, hk7⟩
      have HRD := Lib.hid hrd; have HKW8 := Lib.hid (HKW7.out.trans hk7); have HOX7 := Lib.hid (HOX6.out.keepF hk7); have HOY7 := Lib.hid (HOY.out.keepF hk7)
      clear hrd hk7
      go_wp2_with fail
      go_loopg [13] X.length (fun k i wq => ∃ (j : Nat) (C : List Int), k = X.length - j ∧ j ≤ X.length ∧ i = .int .i64 j ∧ C.length = X.length ∧ Own wq 5 1 (.slice ax X.length cx) X.length (Bc C) ∧ Kp (In (.slice ax X.length cx)) w7 wq)
      case atStart => exact ⟨0, X, rfl, Nat.zero_le _, rfl, rfl, HOX7.out, Kp.refl _ _⟩
      case round =>
        obtain ⟨q, C2, hk, hq, rfl, hCl, hown, hkp⟩ := hrel
        have HKq := Lib.hid hk; have HCL := Lib.hid hCl; have HOW := Lib.hid hown; have HKP := Lib.hid hkp; clear hk hCl hown hkp
        by_cases hlt2 : q < X.length
        · rcases HOW.out.shape with ⟨_, h0, _⟩ | ⟨gx, c', he, hcc, _, hg⟩
          · omega
          cases he
          have cj := HOW.out.cell (j := q) (u := .int .u8 (C2.getD q 0)) (by simp [Bc, List.getElem?_eq_getElem (show q < C2.length by rw [HCL.out]; exact hlt2), List.getD])
          have fj := HOW.out.frozen q
          obtain ⟨xq, hxq⟩ : ∃ xq, xq = C2.getD q 0 := ⟨_, rfl⟩
          rw [← hxq] at cj
          clear hxq
          go_wp2_with fail
          go_roundg (X.length - (q + 1))
          case measure => rw [HKq.out]; omega
          case rel =>
            refine ⟨q + 1, C2.set q ?newcell2, rfl, by omega, by go_num, by rw [List.length_set, HCL.out], ?own2, HKP.out.setCell _ _ (Or.inl rfl)⟩
            case own2 => rw [← Bc_set]; exact (World.ownsRow.stored HOW.out q _).1
        · have HRD8 := Lib.hid (HRD.out.keep HKP.out (fun h => by have := HXI.out _ h; omega) (fun _ h => by have := HXI.out _ h; omega))
          have HOY8 := Lib.hid (HOY7.out.keep HKP.out (fun k hk h => by have := HXI.out _ h; have := HYI.out _ hk; omega))
          have HKW9 := Lib.hid (HKW8.out.trans_new HKP.out (S := fun _ => False) (fun k h1 h2 => by have := HXI.out _ h2; omega))
          have hrW := Nat.le_trans HKW7.out.size hr0
          have hXe : X = enc B.length ++ B ++ [] := by rw [List.append_nil]; exact HX.out
          have hok : Rok X := by
            have hde := dec_enc (n := B.length) (by omega) (by omega)
            rw [HX.out]
            exact ⟨by rw [List.length_append, enc_len]; omega, by rw [take8_enc, hde]; omega, by rw [take8_enc, hde, List.length_append, enc_len]; omega⟩
          have hde : dec (X.take 8) = B.length := by rw [HX.out, take8_enc, dec_enc (by omega) (by omega)]
          have hB8 : (X.drop 8).take B.length = B := by rw [HX.out, drop8_enc, List.take_length]
          have hXb : Byt X := by rw [HX.out]; exact (enc_byt _).app HBb.out
          have HOK := Lib.hid hok; have HDE := Lib.hid hde; have HB8 := Lib.hid hB8; have HXB := Lib.hid hXb
          clear hXe hok hde hB8 hXb HOW HCL HKP
          go_wp2_with fail
          refine (rbytes_any r g 0 X.length B.length X _ HRD8.out HXB.out HOK.out HDE.out).mono ?_; rintro e w9 ⟨o1, o2, rfl, hc9, hr9, hk9⟩
          rw [HB8.out] at hc9
          have HKW10 := Lib.hid (HKW9.out.trans_new hk9 (S := fun _ => False) (fun k h1 h2 => by have h3 : k = r := h2; omega))
          have HOY9 := Lib.hid (HOY8.out.keep hk9 (fun k hk h => by have h3 : k = r := h; have := HYI.out _ hk; omega))
          have HC9 := Lib.hid (Src.of_row (c := B.length) hc9)
          clear hc9 hr9 hk9
          go_wp2_with fail
          refine (wnum_none z _).mono ?_; rintro e w9a ⟨rfl, rfl⟩
          go_wp2_with fail
          refine (wbytes_none _ _).mono ?_; rintro e w9b ⟨rfl, rfl⟩
          go_wp2_with fail
          refine (wout_none _).mono ?_; rintro e w9c ⟨rfl, rfl⟩
          go_wp2_with fail
          refine (rnum_none _).mono ?_; rintro e w9d ⟨rfl, rfl⟩
          go_wp2_with fail
          refine (rbytes_none _).mono ?_; rintro e w9e ⟨rfl, rfl⟩
          obtain ⟨SX, hSX⟩ : ∃ S, S = Str X := ⟨_, rfl⟩
          obtain ⟨SB, hSB⟩ : ∃ S, S = Str B := ⟨_, rfl⟩
          have HSX := Lib.hid hSX; have HSB := Lib.hid hSB; clear hSX hSB
          have HV := Lib.hid (show ∀ w', Kp (fun _ => False) w9 w' → (convert 22 9 (.slice ay X.length cy)).run Try.prog w' = .ok (.string SX) w' ∧ (convert 22 9 (.slice (some ⟨g, o1, none⟩) B.length B.length)).run Try.prog w' = .ok (.string SB) w' ∧ (convert 22 9 (.slice bo B.length cb)).run Try.prog w' = .ok (.string SB) w' from fun w' hk => ⟨by rw [HSX.out]; exact run_str (Src.own (HOY9.out.keepF hk) rfl), by rw [HSB.out]; exact run_str (HC9.out.keep hk (fun _ _ _ h => h)), by rw [HSB.out]; exact run_str (HBs.out.keep (HKW10.out.trans hk) (fun _ _ _ h => h))⟩)
          go_wp2_with fail
          refine wp_region_held_drew (S := fun w' => Kp (fun _ => False) w9 w') (by kernel_rfl) (Kp.refl _ _).drew (fun hHeld => ?_)
          refine wpAnyH_ready (rs := [0]) (by kernel_rfl) (by simp) ?_
          refine consL rfl (fun K hK => ?_) AllReadyH.nil
          go_simp
          go_at_call 29; refine (w3ans_any _).mono ?_; rintro e wA ⟨rfl, hkA⟩
          refine hK.out _ _ (hHeld.trans hkA) (fun hHeldA => ?_)
          clear hK hHeld K
          try simp only [Act.put, List.setIfInBounds_toArray, List.set_cons_zero, List.set_cons_succ]
          refine takeL (i := 1) (v := ?_) rfl (by kernel_rfl) (by kernel_rfl) (by kernel_rfl) (fun _ _ _ h => h) (Or.inl ⟨by rfl, ?_⟩) (by assumption) ?_
          rotate_left
          · intro w hSw; obtain ⟨hq1, hq2, hq3⟩ := HV.out w hSw; go_simp <;> with_reducible rfl
          try simp only [Act.put, List.setIfInBounds_toArray, List.set_cons_zero, List.set_cons_succ]
          refine takeL (i := 2) (v := ?_) rfl (by kernel_rfl) (by kernel_rfl) (by kernel_rfl) (fun _ _ _ h => h) (Or.inl ⟨by rfl, ?_⟩) (by assumption) ?_
          rotate_left
          · intro w hSw; obtain ⟨hq1, hq2, hq3⟩ := HV.out w hSw; go_simp <;> with_reducible rfl
          try simp only [Act.put, List.setIfInBounds_toArray, List.set_cons_zero, List.set_cons_succ]
          refine takeL (i := 3) (v := ?_) rfl (by kernel_rfl) (by kernel_rfl) (by kernel_rfl) (fun _ _ _ h => h) (Or.inl ⟨by rfl, ?_⟩) (by assumption) ?_
          rotate_left
          · intro w hSw; obtain ⟨hq1, hq2, hq3⟩ := HV.out w hSw; go_simp <;> with_reducible rfl
          try simp only [Act.put, List.setIfInBounds_toArray, List.set_cons_zero, List.set_cons_succ]
          refine takeL (i := 4) (v := ?_) rfl (by kernel_rfl) (by kernel_rfl) (by kernel_rfl) (fun _ _ _ h => h) (Or.inl ⟨by rfl, ?_⟩) (by assumption) ?_
          rotate_left
          · intro w hSw; obtain ⟨hq1, hq2, hq3⟩ := HV.out w hSw; go_simp <;> with_reducible rfl
          try simp only [Act.put, List.setIfInBounds_toArray, List.set_cons_zero, List.set_cons_succ]
          refine wpAnyH_ready (rs := [5]) (by kernel_rfl) (by simp) ?_
          refine consL rfl (fun K hK => ?_) AllReadyH.nil
          go_simp
          go_at_call 34; refine (refbytes_any bo cb B _ (HBs.out.keep (HKW10.out.trans hHeldA) (fun _ _ _ h => h)) (by omega)).mono ?_; rintro e wB ⟨u, rfl, hu, _, hkB⟩
          have hkB9 : Kp (fun _ => False) w9 wB := hHeldA.trans hkB
          rw [← HX.out] at hu
          obtain ⟨au, cu, rfl⟩ := hu.slice
          refine hK.out _ _ hkB9 (fun _ => ?_)
          clear hK hHeldA K hkA
          refine wpAnyH_mono (S' := fun w' => Kp (fun _ => False) wB w') (fun w h => hkB9.trans h) _ _ _ _ ?_
          try simp only [Act.put, List.setIfInBounds_toArray, List.set_cons_zero, List.set_cons_succ]
          have hHeldB := Kp.refl (fun _ => False) wB
          have HU := Lib.hid hu; clear hu
          have HV2 := Lib.hid (show ∀ w', Kp (fun _ => False) wB w' → (convert 22 9 (.slice ay X.length cy)).run Try.prog w' = .ok (.string SX) w' ∧ (convert 22 9 (.slice (some ⟨g, o1, none⟩) B.length B.length)).run Try.prog w' = .ok (.string SB) w' ∧ (convert 22 9 (.slice bo B.length cb)).run Try.prog w' = .ok (.string SB) w' ∧ (convert 22 9 (.slice au X.length cu)).run Try.prog w' = .ok (.string SX) w' from fun w' hk => ⟨(HV.out w' (hkB9.trans hk)).1, (HV.out w' (hkB9.trans hk)).2.1, (HV.out w' (hkB9.trans hk)).2.2, by rw [HSX.out]; exact run_str (Src.own (HU.out.keepF hk) rfl)⟩)
          refine takeL (i := 6) (v := ?_) rfl (by kernel_rfl) (by kernel_rfl) (by kernel_rfl) (fun _ _ _ h => h) (Or.inl ⟨by rfl, ?_⟩) (by assumption) ?_
          rotate_left
          · intro w hSw; obtain ⟨hq1, hq2, hq3, hq4⟩ := HV2.out w hSw; go_simp <;> with_reducible rfl
          try simp only [Act.put, List.setIfInBounds_toArray, List.set_cons_zero, List.set_cons_succ]
          refine takeL (i := 7) (v := ?_) rfl (by kernel_rfl) (by kernel_rfl) (by kernel_rfl) (fun _ _ _ h => h) (Or.inl ⟨by rfl, ?_⟩) (by assumption) ?_
          rotate_left
          · intro w hSw; obtain ⟨hq1, hq2, hq3, hq4⟩ := HV2.out w hSw; go_simp <;> with_reducible rfl
          try simp only [Act.put, List.setIfInBounds_toArray, List.set_cons_zero, List.set_cons_succ]
          refine takeL (i := 8) (v := ?_) rfl (by kernel_rfl) (by kernel_rfl) (by kernel_rfl) (fun _ _ _ h => h) (Or.inl ⟨by rfl, ?_⟩) (by assumption) ?_
          rotate_left
          · intro w hSw; obtain ⟨hq1, hq2, hq3, hq4⟩ := HV2.out w hSw; go_simp <;> with_reducible rfl
          try simp only [Act.put, List.setIfInBounds_toArray, List.set_cons_zero, List.set_cons_succ]
          refine takeL (i := 9) (v := ?_) rfl (by kernel_rfl) (by kernel_rfl) (by kernel_rfl) (fun _ _ _ h => h) (Or.inl ⟨by rfl, ?_⟩) (by assumption) ?_
          rotate_left
          · intro w hSw; obtain ⟨hq1, hq2, hq3, hq4⟩ := HV2.out w hSw; go_simp <;> with_reducible rfl
          try simp only [Act.put, List.setIfInBounds_toArray, List.set_cons_zero, List.set_cons_succ]
          refine takeL (i := 10) (v := ?_) rfl (by kernel_rfl) (by kernel_rfl) (by kernel_rfl) (fun _ _ _ h => h) (Or.inl ⟨by rfl, ?_⟩) (by assumption) ?_
          rotate_left
          · intro w hSw; obtain ⟨hq1, hq2, hq3, hq4⟩ := HV2.out w hSw; go_simp <;> with_reducible rfl
          try simp only [Act.put, List.setIfInBounds_toArray, List.set_cons_zero, List.set_cons_succ]
          refine takeL (i := 11) (v := ?_) rfl (by kernel_rfl) (by kernel_rfl) (by kernel_rfl) (fun _ _ _ h => h) (Or.inl ⟨by rfl, ?_⟩) (by assumption) ?_
          rotate_left
          · intro w hSw; obtain ⟨hq1, hq2, hq3, hq4⟩ := HV2.out w hSw; go_simp <;> with_reducible rfl
          try simp only [Act.put, List.setIfInBounds_toArray, List.set_cons_zero, List.set_cons_succ]
          refine takeL (i := 12) (v := ?_) rfl (by kernel_rfl) (by kernel_rfl) (by kernel_rfl) (fun _ _ _ h => h) (Or.inl ⟨by rfl, ?_⟩) (by assumption) ?_
          rotate_left
          · intro w hSw; obtain ⟨hq1, hq2, hq3, hq4⟩ := HV2.out w hSw; go_simp <;> with_reducible rfl
          try simp only [Act.put, List.setIfInBounds_toArray, List.set_cons_zero, List.set_cons_succ]
          refine takeL (i := 13) (v := ?_) rfl (by kernel_rfl) (by kernel_rfl) (by kernel_rfl) (fun _ _ _ h => h) (Or.inl ⟨by rfl, ?_⟩) (by assumption) ?_
          rotate_left
          · intro w hSw; obtain ⟨hq1, hq2, hq3, hq4⟩ := HV2.out w hSw; go_simp <;> with_reducible rfl
          try simp only [Act.put, List.setIfInBounds_toArray, List.set_cons_zero, List.set_cons_succ]
          refine takeL (i := 14) (v := ?_) rfl (by kernel_rfl) (by kernel_rfl) (by kernel_rfl) (fun _ _ _ h => h) (Or.inl ⟨by rfl, ?_⟩) (by assumption) ?_
          rotate_left
          · intro w hSw; obtain ⟨hq1, hq2, hq3, hq4⟩ := HV2.out w hSw; go_simp <;> with_reducible rfl
          try simp only [Act.put, List.setIfInBounds_toArray, List.set_cons_zero, List.set_cons_succ]
          refine takeL (i := 15) (v := ?_) rfl (by kernel_rfl) (by kernel_rfl) (by kernel_rfl) (fun _ _ _ h => h) (Or.inl ⟨by rfl, ?_⟩) (by assumption) ?_
          rotate_left
          · intro w hSw; obtain ⟨hq1, hq2, hq3, hq4⟩ := HV2.out w hSw; go_simp <;> with_reducible rfl
          try simp only [Act.put, List.setIfInBounds_toArray, List.set_cons_zero, List.set_cons_succ]
          refine takeL (i := 16) (v := ?_) rfl (by kernel_rfl) (by kernel_rfl) (by kernel_rfl) (fun _ _ _ h => h) (Or.inl ⟨by rfl, ?_⟩) (by assumption) ?_
          rotate_left
          · intro w hSw; obtain ⟨hq1, hq2, hq3, hq4⟩ := HV2.out w hSw; go_simp <;> with_reducible rfl
          try simp only [Act.put, List.setIfInBounds_toArray, List.set_cons_zero, List.set_cons_succ]
          refine takeL (i := 17) (v := ?_) rfl (by kernel_rfl) (by kernel_rfl) (by kernel_rfl) (fun _ _ _ h => h) (Or.inl ⟨by rfl, ?_⟩) (by assumption) ?_
          rotate_left
          · intro w hSw; obtain ⟨hq1, hq2, hq3, hq4⟩ := HV2.out w hSw; go_simp <;> with_reducible rfl
          try simp only [Act.put, List.setIfInBounds_toArray, List.set_cons_zero, List.set_cons_succ]
          refine takeL (i := 18) (v := ?_) rfl (by kernel_rfl) (by kernel_rfl) (by kernel_rfl) (fun _ _ _ h => h) (Or.inl ⟨by rfl, ?_⟩) (by assumption) ?_
          rotate_left
          · intro w hSw; obtain ⟨hq1, hq2, hq3, hq4⟩ := HV2.out w hSw; go_simp <;> with_reducible rfl
          try simp only [Act.put, List.setIfInBounds_toArray, List.set_cons_zero, List.set_cons_succ]
          refine takeL (i := 19) (v := ?_) rfl (by kernel_rfl) (by kernel_rfl) (by kernel_rfl) (fun _ _ _ h => h) (Or.inl ⟨by rfl, ?_⟩) (by assumption) ?_
          rotate_left
          · intro w hSw; obtain ⟨hq1, hq2, hq3, hq4⟩ := HV2.out w hSw; go_simp <;> with_reducible rfl
          try simp only [Act.put, List.setIfInBounds_toArray, List.set_cons_zero, List.set_cons_succ]
          refine takeL (i := 20) (v := ?_) rfl (by kernel_rfl) (by kernel_rfl) (by kernel_rfl) (fun _ _ _ h => h) (Or.inl ⟨by rfl, ?_⟩) (by assumption) ?_
          rotate_left
          · intro w hSw; obtain ⟨hq1, hq2, hq3, hq4⟩ := HV2.out w hSw; go_simp <;> with_reducible rfl
          try simp only [Act.put, List.setIfInBounds_toArray, List.set_cons_zero, List.set_cons_succ]
          refine takeL (i := 21) (v := ?_) rfl (by kernel_rfl) (by kernel_rfl) (by kernel_rfl) (fun _ _ _ h => h) (Or.inl ⟨by rfl, ?_⟩) (by assumption) ?_
          rotate_left
          · intro w hSw; obtain ⟨hq1, hq2, hq3, hq4⟩ := HV2.out w hSw; go_simp <;> with_reducible rfl
          try simp only [Act.put, List.setIfInBounds_toArray, List.set_cons_zero, List.set_cons_succ]
          refine takeL (i := 22) (v := ?_) rfl (by kernel_rfl) (by kernel_rfl) (by kernel_rfl) (fun _ _ _ h => h) (Or.inl ⟨by rfl, ?_⟩) (by assumption) ?_
          rotate_left
          · intro w hSw; obtain ⟨hq1, hq2, hq3, hq4⟩ := HV2.out w hSw; go_simp <;> with_reducible rfl
          try simp only [Act.put, List.setIfInBounds_toArray, List.set_cons_zero, List.set_cons_succ]
          refine takeL (i := 23) (v := ?_) rfl (by kernel_rfl) (by kernel_rfl) (by kernel_rfl) (fun _ _ _ h => h) (Or.inl ⟨by rfl, ?_⟩) (by assumption) ?_
          rotate_left
          · intro w hSw; obtain ⟨hq1, hq2, hq3, hq4⟩ := HV2.out w hSw; go_simp <;> with_reducible rfl
          try simp only [Act.put, List.setIfInBounds_toArray, List.set_cons_zero, List.set_cons_succ]
          refine takeL (i := 24) (v := ?_) rfl (by kernel_rfl) (by kernel_rfl) (by kernel_rfl) (fun _ _ _ h => h) (Or.inl ⟨by rfl, ?_⟩) (by assumption) ?_
          rotate_left
          · intro w hSw; obtain ⟨hq1, hq2, hq3, hq4⟩ := HV2.out w hSw; go_simp <;> with_reducible rfl
          try simp only [Act.put, List.setIfInBounds_toArray, List.set_cons_zero, List.set_cons_succ]
          refine takeL (i := 25) (v := ?_) rfl (by kernel_rfl) (by kernel_rfl) (by kernel_rfl) (fun _ _ _ h => h) (Or.inl ⟨by rfl, ?_⟩) (by assumption) ?_
          rotate_left
          · intro w hSw; obtain ⟨hq1, hq2, hq3, hq4⟩ := HV2.out w hSw; go_simp <;> with_reducible rfl
          try simp only [Act.put, List.setIfInBounds_toArray, List.set_cons_zero, List.set_cons_succ]
          refine takeL (i := 26) (v := ?_) rfl (by kernel_rfl) (by kernel_rfl) (by kernel_rfl) (fun _ _ _ h => h) (Or.inl ⟨by rfl, ?_⟩) (by assumption) ?_
          rotate_left
          · intro w hSw; obtain ⟨hq1, hq2, hq3, hq4⟩ := HV2.out w hSw; go_simp <;> with_reducible rfl
          try simp only [Act.put, List.setIfInBounds_toArray, List.set_cons_zero, List.set_cons_succ]
          refine takeL (i := 27) (v := ?_) rfl (by kernel_rfl) (by kernel_rfl) (by kernel_rfl) (fun _ _ _ h => h) (Or.inl ⟨by rfl, ?_⟩) (by assumption) ?_
          rotate_left
          · intro w hSw; obtain ⟨hq1, hq2, hq3, hq4⟩ := HV2.out w hSw; go_simp <;> with_reducible rfl
          try simp only [Act.put, List.setIfInBounds_toArray, List.set_cons_zero, List.set_cons_succ]
          refine takeL (i := 28) (v := ?_) rfl (by kernel_rfl) (by kernel_rfl) (by kernel_rfl) (fun _ _ _ h => h) (Or.inl ⟨by rfl, ?_⟩) (by assumption) ?_
          rotate_left
          · intro w hSw; obtain ⟨hq1, hq2, hq3, hq4⟩ := HV2.out w hSw; go_simp <;> with_reducible rfl
          try simp only [Act.put, List.setIfInBounds_toArray, List.set_cons_zero, List.set_cons_succ]
          refine takeL (i := 29) (v := ?_) rfl (by kernel_rfl) (by kernel_rfl) (by kernel_rfl) (fun _ _ _ h => h) (Or.inl ⟨by rfl, ?_⟩) (by assumption) ?_
          rotate_left
          · intro w hSw; obtain ⟨hq1, hq2, hq3, hq4⟩ := HV2.out w hSw; go_simp <;> with_reducible rfl
          try simp only [Act.put, List.setIfInBounds_toArray, List.set_cons_zero, List.set_cons_succ]
          refine takeL (i := 30) (v := ?_) rfl (by kernel_rfl) (by kernel_rfl) (by kernel_rfl) (fun _ _ _ h => h) (Or.inl ⟨by rfl, ?_⟩) (by assumption) ?_
          rotate_left
          · intro w hSw; obtain ⟨hq1, hq2, hq3, hq4⟩ := HV2.out w hSw; go_simp <;> with_reducible rfl
          try simp only [Act.put, List.setIfInBounds_toArray, List.set_cons_zero, List.set_cons_succ]
          refine takeL (i := 31) (v := ?_) rfl (by kernel_rfl) (by kernel_rfl) (by kernel_rfl) (fun _ _ _ h => h) (Or.inl ⟨by rfl, ?_⟩) (by assumption) ?_
          rotate_left
          · intro w hSw; obtain ⟨hq1, hq2, hq3, hq4⟩ := HV2.out w hSw; go_simp <;> with_reducible rfl
          try simp only [Act.put, List.setIfInBounds_toArray, List.set_cons_zero, List.set_cons_succ]
          refine takeL (i := 32) (v := ?_) rfl (by kernel_rfl) (by kernel_rfl) (by kernel_rfl) (fun _ _ _ h => h) (Or.inl ⟨by rfl, ?_⟩) (by assumption) ?_
          rotate_left
          · intro w hSw; obtain ⟨hq1, hq2, hq3, hq4⟩ := HV2.out w hSw; go_simp <;> with_reducible rfl
          try simp only [Act.put, List.setIfInBounds_toArray, List.set_cons_zero, List.set_cons_succ]
          refine wpAnyH_ready (rs := [33]) (by kernel_rfl) (by simp) ?_
          refine consL rfl (fun K hK => ?_) AllReadyH.nil
          go_simp
          go_at_call 41; refine (rdone_none _).mono ?_; rintro e wC ⟨rfl, rfl⟩
          refine hK.out _ _ hHeldB (fun _ => ?_)
          clear hK K
          try simp only [Act.put, List.setIfInBounds_toArray, List.set_cons_zero, List.set_cons_succ]
          refine takeL (i := 34) (v := ?_) rfl (by kernel_rfl) (by kernel_rfl) (by kernel_rfl) (fun _ _ _ h => h) (Or.inl ⟨by rfl, ?_⟩) (by assumption) ?_
          rotate_left
          · intro w hSw; obtain ⟨hq1, hq2, hq3, hq4⟩ := HV2.out w hSw; go_simp <;> with_reducible rfl
          try simp only [Act.put, List.setIfInBounds_toArray, List.set_cons_zero, List.set_cons_succ]
          refine takeL (i := 35) (v := ?_) rfl (by kernel_rfl) (by kernel_rfl) (by kernel_rfl) (fun _ _ _ h => h) (Or.inl ⟨by rfl, ?_⟩) (by assumption) ?_
          rotate_left
          · intro w hSw; obtain ⟨hq1, hq2, hq3, hq4⟩ := HV2.out w hSw; go_simp <;> with_reducible rfl
          try simp only [Act.put, List.setIfInBounds_toArray, List.set_cons_zero, List.set_cons_succ]
          refine takeL (i := 36) (v := ?_) rfl (by kernel_rfl) (by kernel_rfl) (by kernel_rfl) (fun _ _ _ h => h) (Or.inl ⟨by rfl, ?_⟩) (by assumption) ?_
          rotate_left
          · intro w hSw; obtain ⟨hq1, hq2, hq3, hq4⟩ := HV2.out w hSw; go_simp <;> with_reducible rfl
          try simp only [Act.put, List.setIfInBounds_toArray, List.set_cons_zero, List.set_cons_succ]
          refine wpAnyH_done (by kernel_rfl) ?_ _
          all_goals
            go_wp2_with fail
            go_ret
            exact ⟨by simp, (HKW10.out.trans hkB9).below (fun _ _ h => h)⟩
end Go.Proofs.Ytihndplkkpglcaa
