/- RingWaits: the law returns true for every input. No condition. -/
import Derived.Test.YtbiahndpfbmoeaaRingOnce
import Derived.ChangeMaps5
namespace Go.Proofs.Ytbiahndpfbmoeaa
open Go.RowKit Go.ChangeShapes Go.WideShapes Go.Deep

theorem cells_strs : Try.prog.cellsOf 24 = 1 := by kernel_rfl
theorem cells_str : Try.prog.cellsOf 9 = 1 := by kernel_rfl
/-- strings that are handed in -/
structure Hs (W : World) (bo : Option Addr) (c : Nat) (N : List ByteArray) : Prop where
  emp : bo = none → N.length = 0 ∧ c = 0
  rd : SRd W bo N
set_option maxRecDepth 100000 in
theorem strs_of_trod {H : Type} {enc : TypeId × Value → H} {W : World} {fuel : Nat} {cs : List Value} {x : DataW H × List MemPlace}
    (h : DataW.trod enc Try.prog W 0 (fun _ => true) true fuel 24 cs = some x) :
    ∃ (bo : Option Addr) (N : List ByteArray) (c : Nat), cs = [.slice bo N.length c] ∧ N.length ≤ c ∧ c ≤ 9223372036854775807 ∧ Hs W bo c N := by
  obtain ⟨ao, len, cap, f, rfl, hcap, hlen, hr, _⟩ := strrow_of_trod Try.underlying24 cells_str Try.underlying9 h
  have hl : ((List.range len).map f).length = len := by simp
  have hg : ∀ i, i < len → ((List.range len).map f).getD i ByteArray.empty = f i := fun i hi => by simp [List.getD, hi]
  refine ⟨ao, (List.range len).map f, cap, by rw [hl], by rw [hl]; exact hlen, hcap, fun e => ?_, fun i hi => ?_⟩
  · subst e
    rcases DataW.trod_slice Try.underlying24 h with ⟨e, _⟩ | ⟨a, len', cap', _, _, _, _, e, _⟩
    · simp at e; rw [hl]; exact e
    · simp at e
  · rw [hl] at hi
    obtain ⟨b, off, e, hb, hc⟩ := hr i hi
    exact ⟨b, off, e, hb, hc.trans (congrArg (fun z => some (Value.string z)) (hg i hi).symm)⟩
theorem Hs.news {W w : World} {bo : Option Addr} {c : Nat} {N : List ByteArray} (h : Hs W bo c N) (hk : Kp (fun _ => False) W w) : ∀ ad, bo = some ad → ∀ j u, (Sc N)[j]? = some u → w.cell? (ad.add j) = some u := by
  intro ad ha j u hu
  have hj : j < N.length := by have := (List.getElem?_eq_some_iff.1 hu).1; rwa [Sc_len] at this
  obtain ⟨b, off, e, hb, hc⟩ := h.rd.keep hk (fun _ _ _ _ h => h) j hj
  rw [e] at ha
  cases ha
  rw [Addr.add_lit, hc]
  rw [Sc, List.getElem?_map, List.getElem?_eq_getElem hj] at hu
  rw [← hu]
  simp [List.getD, hj]

structure RowS where
  (bo : Option Addr) (c : Nat) (N : List ByteArray)
  deriving Inhabited
def row0 : RowS := ⟨none, 0, []⟩
set_option maxRecDepth 100000 in
theorem open_rows {H : Type} {enc : TypeId × Value → H} {W : World} {base : Nat} {v : Value} {d : DataW H} {ps : List MemPlace} (k : Value.okWide Try.prog W .any base 40 v) (h : DataW.Trod enc Try.prog W 0 (fun _ => true) true 40 v d ps) :
    ∃ (ao : Option Addr) (n cap : Nat) (f : Nat → RowS), v = .slice ao n cap ∧ n ≤ cap ∧ cap ≤ 9223372036854775807 ∧ Row1 W ao n (fun i => .slice (f i).bo (f i).N.length (f i).c) ∧ ∀ i, i < n → Hs W (f i).bo (f i).c (f i).N := by
  obtain ⟨ao, len, cap, V, rfl, h1, h2, h3, h4⟩ := open_srow Try.underlying40 cells_strs (by omega) k h
  obtain ⟨f, hf⟩ := choose_lt (α := RowS) (p := fun i r => V i = [.slice r.bo r.N.length r.c] ∧ Hs W r.bo r.c r.N) (fun i hi => by
    obtain ⟨n, y, hy⟩ := h4 i hi
    obtain ⟨bo, N, c, hcs, _, _, hs⟩ := strs_of_trod hy
    exact ⟨⟨bo, c, N⟩, hcs, hs⟩)
  exact ⟨ao, len, cap, f, rfl, h2, h1, h3.one (fun i hi => (hf i hi).1), fun i hi => (hf i hi).2⟩

theorem Ix_min {x : ByteArray} {L : List ByteArray} {j : Nat} (hj : j < L.length) (h : L.getD j ByteArray.empty = x) : Ix x L ≤ j := by
  induction L generalizing j with
  | nil => cases hj
  | cons a L ih =>
    unfold Ix
    split
    · exact Nat.zero_le _
    · rename_i hne
      cases j with
      | zero => exact absurd h hne
      | succ j => exact Nat.succ_le_succ (ih (by simpa using hj) h)
theorem Ix_get {x : ByteArray} {L : List ByteArray} (h : Ix x L < L.length) : L.getD (Ix x L) ByteArray.empty = x := by
  induction L with
  | nil => cases h
  | cons a L ih =>
    unfold Ix at h ⊢
    split
    · rename_i e; exact e
    · rename_i e
      rw [if_neg e] at h
      exact ih (by simpa using h)
theorem Fx_le_Ix {x : ByteArray} {R : List ByteArray} (hx : Has x R = true) (L : List ByteArray) : Fx R L ≤ Ix x L := by
  induction L with
  | nil => exact Nat.le_refl _
  | cons a L ih =>
    unfold Fx Ix
    by_cases e : a = x
    · subst e; rw [if_pos hx]; exact Nat.zero_le _
    · rw [if_neg e]
      split
      · exact Nat.zero_le _
      · exact Nat.succ_le_succ ih
theorem Turn_get {i m : Nat} {L : List ByteArray} (hi : i ≤ m) (hm : m + 1 < L.length) : (Turn i L).getD m ByteArray.empty = L.getD (m + 1) ByteArray.empty := by
  have hc : (Cut i L).length = L.length - 1 := Cut_len (by omega)
  unfold Turn
  simp only [List.getD]
  rw [List.getElem?_append_left (by omega)]
  unfold Cut
  rw [List.getElem?_append_right (by rw [List.length_take]; omega), List.length_take, List.getElem?_drop, Nat.min_eq_left (by omega), show i + 1 + (m - i) = m + 1 by omega]
theorem mem_turn {x : ByteArray} {i : Nat} {L : List ByteArray} (hi : i < L.length) (hx : Has x L = true) : Has x (Turn i L) = true := by
  rw [Has_mem] at hx ⊢
  have e : L.getD i ByteArray.empty = L[i] := by simp [List.getD, hi]
  have hL : L = L.take i ++ L[i] :: L.drop (i + 1) := by rw [← List.drop_eq_getElem_cons hi, List.take_append_drop]
  rw [hL] at hx
  unfold Turn Cut
  rw [e]
  simp only [List.mem_append, List.mem_cons, List.not_mem_nil, or_false] at hx ⊢
  rcases hx with h | h | h
  · exact Or.inl (Or.inl h)
  · exact Or.inr h
  · exact Or.inl (Or.inr h)
theorem Plus_has (x : ByteArray) (L : List ByteArray) : Has x (Plus x L) = true := by
  unfold Plus
  by_cases h : Has x L = true
  · rw [if_pos h]; exact h
  · rw [if_neg h, Has_mem]; simp
theorem Has_ix {x : ByteArray} {L : List ByteArray} (h : Has x L = true) : Ix x L < L.length := of_decide_eq_true h

set_option maxRecDepth 100000 in
set_option maxHeartbeats 1600000 in
theorem ringWaits_law {H : Type} {enc' : TypeId × Value → H} (W : World) {base : Nat} (v0 v1 v2 : Value) (d0 d1 d2 : DataW H) (p0 p1 p2 : List MemPlace)
    (k0 : Value.okWide Try.prog W .any base 24 v0) (k1 : Value.okWide Try.prog W .any base 9 v1) (k2 : Value.okWide Try.prog W .any base 40 v2)
    (h0 : DataW.Trod enc' Try.prog W 0 (fun _ => true) true 24 v0 d0 p0) (h1 : DataW.Trod enc' Try.prog W 0 (fun _ => true) true 9 v1 d1 p1) (h2 : DataW.Trod enc' Try.prog W 0 (fun _ => true) true 40 v2 d2 p2) :
    Calls Try.prog 5 #[v0, v1, v2] W fun e W' => e = .returned (.bool true) ∧ Below W.heap.size W W' := by
  obtain ⟨ao, n, cap, f, rfl, hcap, hnc, hrow, _⟩ := open_strrow Try.underlying24 (by kernel_rfl) Try.underlying9 k0 h0
  obtain ⟨x, rfl, _, rfl, _⟩ := Go.ChangeMaps.open_string Try.underlying9 k1 h1
  obtain ⟨ar, nr, cr, fr, rfl, hnr, hcr, hrows, hhs⟩ := open_rows k2 h2
  clear h0 k0 h1 k1 h2 k2
  obtain ⟨i0, hi, hz0, hz1, hz2⟩ := info_parts str_info
  have HR := Lib.hid hrow; have HRS := Lib.hid hrows; have HHS := Lib.hid hhs; clear hrow hrows hhs
  have H0 := Lib.hid (RI.new W W (Kp.refl _ _))
  go_enter Try.func5, Try.ntmps5
  go_wp2_with fail
  go_loopg [8] n (fun k i wr => ∃ (j : Nat) (v : Value) (L : List ByteArray), k = n - j ∧ j ≤ n ∧ j ≤ 30 ∧ i = .int .i64 j ∧ RI W wr W.heap.size v L ∧ L.length ≤ j)
  case atStart => exact ⟨0, _, [], rfl, Nat.zero_le _, by omega, rfl, H0.out, Nat.le_refl _⟩
  case round =>
    obtain ⟨j, v, L, hk, hj, hj40, rfl, hri, hL⟩ := hrel
    have HKk := Lib.hid hk; have HRI := Lib.hid hri; clear hk hri
    by_cases hlt : j < n ∧ j < 30
    · obtain ⟨hl1, hl2⟩ := hlt
      obtain ⟨b, off, rfl, hb, hc'⟩ := HR.out j hl1
      obtain ⟨y, hy⟩ : ∃ y, y = f j := ⟨_, rfl⟩
      have hc : wr.cell? ⟨b, off + j, none⟩ = some (.string y) := (HRI.out.kp.cell _ hb (fun h => h)).trans (by rw [hy]; exact hc')
      clear hc' hy
      go_wp2_with fail
      refine (radd_ri y HRI.out (by omega)).mono ?_; rintro e w1 ⟨rfl, v', hri'⟩
      have HRI1 := Lib.hid hri'; clear hri'
      have hpl := Plus_len y L
      have HPL := Lib.hid hpl; clear hpl
      go_wp2_with fail
      go_roundg (n - (j + 1))
      case measure => rw [HKk.out]; omega
      case rel => exact ⟨j + 1, v', Plus y L, rfl, by omega, by omega, by go_num, HRI1.out, by have := HPL.out; omega⟩
    · have hL40 : L.length ≤ 30 := by omega
      have hstep : ∀ (w1 : World) (v1 : Value), RI W w1 W.heap.size v1 (Plus x L) → True := fun _ _ _ => trivial
      clear hstep
      have hpl := Plus_len x L
      have hph := Plus_has x L
      obtain ⟨P, hP⟩ : ∃ P, P = Plus x L := ⟨_, rfl⟩
      rw [← hP] at hpl hph
      have HP := Lib.hid hP; have HPH := Lib.hid hph; clear hP hph
      by_cases hjn : j < n
      · have hj4 : ¬ j < 30 := by omega
        go_wp2_with fail
        refine (radd_ri x HRI.out (by omega)).mono ?_; rintro e w1 ⟨rfl, va, hria⟩
        rw [← HP.out] at hria
        have HRA := Lib.hid hria; clear hria
        go_wp2_with fail
        refine (rnames_any W.heap.size va P _ HRA.out.rg (by omega)).mono ?_; rintro e w2 ⟨u, rfl, hu, hk2⟩
        have HRB := Lib.hid (HRA.out.calm hk2)
        obtain ⟨au, cu, rfl⟩ := (own_weaken hu).slice
        clear hu hk2
        go_wp2_with fail
        go_loopg [11, 10] nr (fun k i wt wq => ∃ (q wn : Nat) (vq : Value) (Q : List ByteArray), k = nr - q ∧ q ≤ nr ∧ i = .int .i64 q ∧ wt = .int .i64 wn ∧ RI W wq W.heap.size vq Q ∧ Q.length = P.length ∧ Has x Q = true ∧ wn + Ix x Q < P.length)
        case atStart => exact ⟨0, 0, va, P, rfl, Nat.zero_le _, rfl, rfl, HRB.out, rfl, HPH.out, by have := Has_ix HPH.out; omega⟩
        case round =>
          obtain ⟨q, wn, vq, Q, hkq, hq, rfl, rfl, hrq, hQl, hQx, hwn⟩ := hrel
          have HKq := Lib.hid hkq; have HRQ := Lib.hid hrq; have HQL := Lib.hid hQl; have HQX := Lib.hid hQx; have HWN := Lib.hid hwn; clear hkq hrq hQl hQx hwn
          by_cases hlq : q < nr ∧ q < 100
          · obtain ⟨hq1, hq2⟩ := hlq
            obtain ⟨bb, ob, rfl, hbb, hc'⟩ := HRS.out q hq1
            have hhq := HHS.out q hq1
            obtain ⟨s, hs⟩ : ∃ s, s = fr q := ⟨_, rfl⟩
            rw [← hs] at hhq
            have hcq : wr.cell? ⟨bb, ob + q, none⟩ = some (.slice s.bo s.N.length s.c) := (HRQ.out.kp.cell _ hbb (fun h => h)).trans (by rw [hs]; exact hc')
            obtain ⟨bo, c, N⟩ := s
            simp only at hhq hcq
            have HHQ := Lib.hid hhq
            have hcq2 := (World.cell?_alloc_past (w := wr) (.cells #[] 9) bb (ob + q) (Nat.lt_of_lt_of_le hbb HRQ.out.kp.size)).trans hcq
            clear hc' hs hhq
            by_cases hbig : 50 < N.length
            · go_wp2_with fail
              refine (r21ans_any _).mono ?_; rintro e w3 ⟨rfl, hk3⟩
              go_wp2_with fail
              go_ret
              exact ⟨rfl, (HRQ.out.kp.trans hk3).below (fun _ _ h => h)⟩
            have hN50 : N.length ≤ 50 := by omega
            clear hbig
            have HSN := Lib.hid (fun (h : bo = none) => HHQ.out.emp h)
            have HSC := Lib.hid (HHQ.out.news (HRQ.out.kp.alloc (.cells #[] 9)))
            have HE := Lib.hid (own_weaken (World.ownsRow_lit (base := wr.heap.size) (e := 9) (size := 1) wr #[] 0 (Nat.le_refl _) (by unfold maxLen; omega) rfl))
            go_wp2_with (first | (at_builtin; refine wpList_append_prec _ rfl _ _ 24 rfl 9 i0 _ 1 16 Try.underlying24 hi hz0 hz1 hz2 rfl (by decide) _ 0 [] rfl HE.out bo N.length c (Sc N) rfl HSN.out (Sc_len1 _) HSC.out (Sc_one _) (by unfold maxLen; omega) (by omega) ?_; intro v2 w3 hown3 hk3 hsn3 _; rw [Nat.zero_add, List.nil_append] at hown3; have hk4 : Kp (In (.slice (some ⟨wr.heap.size, 0, none⟩) 0 0)) (wr.alloc (.cells #[] 9)) w3 := hk3; have hsn4 : SameOrNew (wr.alloc (.cells #[] 9)) (.slice (some ⟨wr.heap.size, 0, none⟩) 0 0) v2 := hsn3; have HO3 := Lib.hid hown3; have HSN3 := Lib.hid hsn4; have HK3 := Lib.hid hk4; obtain ⟨a3, c3, rfl⟩ := HO3.out.slice; clear hown3 hk3 hsn3 hk4 hsn4) | (at_builtin; refine wpList_append_prec _ rfl _ _ 24 rfl 9 i0 _ 1 16 Try.underlying24 hi hz0 hz1 hz2 rfl (by decide) _ N.length (Sc N) rfl (by exact HO3.out.alloc _) _ 1 1 [.string x] rfl (fun h => by cases h) rfl lit_news one_string (by unfold maxLen; omega) (by omega) ?_; intro v5 w5 hown5 hk5 hsn5 _; have hk6 : Kp (In (.slice a3 N.length c3)) (w3.alloc (.cells #[.string x] 9)) w5 := hk5; have HO5 := Lib.hid hown5; have HK5 := Lib.hid hk6; obtain ⟨a5, c5, rfl⟩ := HO5.out.slice; clear hown5 hk5 hsn5 hk6))
            obtain ⟨R, hR⟩ : ∃ R, R = N ++ [x] := ⟨_, rfl⟩
            have hRl : R.length = N.length + 1 := by rw [hR]; simp
            have hRo : Own w5 9 1 (.slice a5 R.length c5) R.length (Sc R) := by
              have h := HO5.out
              rw [hRl, show Sc R = Sc N ++ [.string x] by rw [hR]; simp [Sc]]
              exact h
            have hRx : Has x R = true := by rw [Has_mem, hR]; simp
            have hk3a : Kp (fun _ => False) wr w3 := ((Kp.refl _ wr).alloc (.cells #[] 9)).trans_new HK3.out (fun k h1 h2 => by
              have : wr.heap.size = k := by simpa [In, Value.ownBlock] using h2
              omega)
            have hk5a : Kp (fun _ => False) wr w5 := (hk3a.alloc (.cells #[.string x] 9)).trans_new HK5.out (fun k h1 h2 => by
              rcases HSN3.out with h | h
              · have e : (Value.slice (some ⟨wr.heap.size, 0, none⟩) 0 0).ownBlock = some k := h ▸ h2
                have : wr.heap.size = k := by simpa [Value.ownBlock] using e
                omega
              · have := h k h2; simp at this; omega)
            have HR5 := Lib.hid (HRQ.out.calm hk5a)
            have hix := Has_ix HQX.out
            have hfx := Fx_le_Ix hRx Q
            obtain ⟨i, hI⟩ : ∃ i, i = Fx R Q := ⟨_, rfl⟩
            rw [← hI] at hfx
            have hil : i < Q.length := by omega
            have hnext := rnext_any W.heap.size vq Q R a5 c5 i _ HR5.out.rg (SRd.own hRo rfl) (by have := HQL.out; omega) (by omega) hI.symm hil
            rw [hRl] at hnext
            have HMT := Lib.hid (mem_turn hil HQX.out); have HTL := Lib.hid (Turn_len hil)
            have HIX := Lib.hid hix; have HFX := Lib.hid hfx; have HIL := Lib.hid hil
            clear hR hRl hRo hRx hk3a hk5a hix hfx hI hil
            refine hnext.mono ?_; rintro e w6 ⟨rfl, ⟨v6, hr6, hs6⟩, hk6⟩
            clear hnext
            have HR6 := Lib.hid (HR5.out.next hr6 hs6 hk6); clear hr6 hs6 hk6
            obtain ⟨y, hy⟩ : ∃ y, y = Q.getD i ByteArray.empty := ⟨_, rfl⟩
            rw [← hy]
            have HY := Lib.hid hy; clear hy
            have hPl := HQL.out
            have hPp : 0 < P.length := by have := HIX.out; omega
            have hQ4 : P.length ≤ 41 := by omega
            by_cases hyx : y = x
            · subst hyx
              clear hPl
              have hPn : ¬ P = [] := List.length_pos_iff.1 hPp
              have hPi : ¬ (P.length : Int) ≤ 0 := by omega
              go_wp2_with fail
              go_roundg (nr - (q + 1))
              case measure => rw [HKq.out]; omega
              case rel => exact ⟨q + 1, 0, v6, Turn i Q, rfl, by omega, by go_num, rfl, HR6.out, by rw [HTL.out, HQL.out], HMT.out, by have := Has_ix HMT.out; rw [HTL.out, HQL.out] at this; omega⟩
            · have h1 := toList_ne hyx
              have h2 := toList_ne (fun h => hyx h.symm)
              have h3 : (y.toList == x.toList) = false := by rw [beq_eq_false_iff_ne]; exact h1
              have h4 : (x.toList == y.toList) = false := by rw [beq_eq_false_iff_ne]; exact h2
              have hlt : i < Ix x Q := by
                have h5 := HFX.out
                have h6 := Ix_get HIX.out
                rcases Nat.lt_or_ge i (Ix x Q) with h | h
                · exact h
                · have e : i = Ix x Q := by omega
                  exact absurd (by rw [HY.out, e, h6]) hyx
              have hmin : Ix x (Turn i Q) ≤ Ix x Q - 1 := Ix_min (by rw [HTL.out]; have := HIX.out; omega) (by
                rw [Turn_get (by omega) (by have := HIX.out; omega), show Ix x Q - 1 + 1 = Ix x Q by omega]
                exact Ix_get HIX.out)
              have hwn1 : wn + 1 < P.length := by have := HWN.out; omega
              have HLT := Lib.hid hlt; have HMIN := Lib.hid hmin
              clear hPl hlt hmin
              go_wp2_with fail
              go_roundg (nr - (q + 1))
              case measure => rw [HKq.out]; omega
              case rel => exact ⟨q + 1, wn + 1, v6, Turn i Q, rfl, by omega, by go_num, by go_num, HR6.out, by rw [HTL.out, HQL.out], HMT.out, by have := HWN.out; have := HLT.out; have := HMIN.out; omega⟩
          · by_cases hqn : q < nr
            · have hq100 : ¬ q < 100 := by omega
              go_wp2_with fail
              refine (r21ans_any _).mono ?_; rintro e w3 ⟨rfl, hk3⟩
              go_wp2_with fail
              go_ret
              exact ⟨rfl, (HRQ.out.kp.trans hk3).below (fun _ _ h => h)⟩
            · go_wp2_with fail
              refine (r21ans_any _).mono ?_; rintro e w3 ⟨rfl, hk3⟩
              go_wp2_with fail
              go_ret
              exact ⟨rfl, (HRQ.out.kp.trans hk3).below (fun _ _ h => h)⟩
      · have hj5 : n ≤ j := by omega
        go_wp2_with fail
        refine (radd_ri x HRI.out (by omega)).mono ?_; rintro e w1 ⟨rfl, va, hria⟩
        rw [← HP.out] at hria
        have HRA := Lib.hid hria; clear hria
        go_wp2_with fail
        refine (rnames_any W.heap.size va P _ HRA.out.rg (by omega)).mono ?_; rintro e w2 ⟨u, rfl, hu, hk2⟩
        have HRB := Lib.hid (HRA.out.calm hk2)
        obtain ⟨au, cu, rfl⟩ := (own_weaken hu).slice
        clear hu hk2
        go_wp2_with fail
        go_loopg [11, 10] nr (fun k i wt wq => ∃ (q wn : Nat) (vq : Value) (Q : List ByteArray), k = nr - q ∧ q ≤ nr ∧ i = .int .i64 q ∧ wt = .int .i64 wn ∧ RI W wq W.heap.size vq Q ∧ Q.length = P.length ∧ Has x Q = true ∧ wn + Ix x Q < P.length)
        case atStart => exact ⟨0, 0, va, P, rfl, Nat.zero_le _, rfl, rfl, HRB.out, rfl, HPH.out, by have := Has_ix HPH.out; omega⟩
        case round =>
          obtain ⟨q, wn, vq, Q, hkq, hq, rfl, rfl, hrq, hQl, hQx, hwn⟩ := hrel
          have HKq := Lib.hid hkq; have HRQ := Lib.hid hrq; have HQL := Lib.hid hQl; have HQX := Lib.hid hQx; have HWN := Lib.hid hwn; clear hkq hrq hQl hQx hwn
          by_cases hlq : q < nr ∧ q < 100
          · obtain ⟨hq1, hq2⟩ := hlq
            obtain ⟨bb, ob, rfl, hbb, hc'⟩ := HRS.out q hq1
            have hhq := HHS.out q hq1
            obtain ⟨s, hs⟩ : ∃ s, s = fr q := ⟨_, rfl⟩
            rw [← hs] at hhq
            have hcq : wr.cell? ⟨bb, ob + q, none⟩ = some (.slice s.bo s.N.length s.c) := (HRQ.out.kp.cell _ hbb (fun h => h)).trans (by rw [hs]; exact hc')
            obtain ⟨bo, c, N⟩ := s
            simp only at hhq hcq
            have HHQ := Lib.hid hhq
            have hcq2 := (World.cell?_alloc_past (w := wr) (.cells #[] 9) bb (ob + q) (Nat.lt_of_lt_of_le hbb HRQ.out.kp.size)).trans hcq
            clear hc' hs hhq
            by_cases hbig : 50 < N.length
            · go_wp2_with fail
              refine (r21ans_any _).mono ?_; rintro e w3 ⟨rfl, hk3⟩
              go_wp2_with fail
              go_ret
              exact ⟨rfl, (HRQ.out.kp.trans hk3).below (fun _ _ h => h)⟩
            have hN50 : N.length ≤ 50 := by omega
            clear hbig
            have HSN := Lib.hid (fun (h : bo = none) => HHQ.out.emp h)
            have HSC := Lib.hid (HHQ.out.news (HRQ.out.kp.alloc (.cells #[] 9)))
            have HE := Lib.hid (own_weaken (World.ownsRow_lit (base := wr.heap.size) (e := 9) (size := 1) wr #[] 0 (Nat.le_refl _) (by unfold maxLen; omega) rfl))
            go_wp2_with (first | (at_builtin; refine wpList_append_prec _ rfl _ _ 24 rfl 9 i0 _ 1 16 Try.underlying24 hi hz0 hz1 hz2 rfl (by decide) _ 0 [] rfl HE.out bo N.length c (Sc N) rfl HSN.out (Sc_len1 _) HSC.out (Sc_one _) (by unfold maxLen; omega) (by omega) ?_; intro v2 w3 hown3 hk3 hsn3 _; rw [Nat.zero_add, List.nil_append] at hown3; have hk4 : Kp (In (.slice (some ⟨wr.heap.size, 0, none⟩) 0 0)) (wr.alloc (.cells #[] 9)) w3 := hk3; have hsn4 : SameOrNew (wr.alloc (.cells #[] 9)) (.slice (some ⟨wr.heap.size, 0, none⟩) 0 0) v2 := hsn3; have HO3 := Lib.hid hown3; have HSN3 := Lib.hid hsn4; have HK3 := Lib.hid hk4; obtain ⟨a3, c3, rfl⟩ := HO3.out.slice; clear hown3 hk3 hsn3 hk4 hsn4) | (at_builtin; refine wpList_append_prec _ rfl _ _ 24 rfl 9 i0 _ 1 16 Try.underlying24 hi hz0 hz1 hz2 rfl (by decide) _ N.length (Sc N) rfl (by exact HO3.out.alloc _) _ 1 1 [.string x] rfl (fun h => by cases h) rfl lit_news one_string (by unfold maxLen; omega) (by omega) ?_; intro v5 w5 hown5 hk5 hsn5 _; have hk6 : Kp (In (.slice a3 N.length c3)) (w3.alloc (.cells #[.string x] 9)) w5 := hk5; have HO5 := Lib.hid hown5; have HK5 := Lib.hid hk6; obtain ⟨a5, c5, rfl⟩ := HO5.out.slice; clear hown5 hk5 hsn5 hk6))
            obtain ⟨R, hR⟩ : ∃ R, R = N ++ [x] := ⟨_, rfl⟩
            have hRl : R.length = N.length + 1 := by rw [hR]; simp
            have hRo : Own w5 9 1 (.slice a5 R.length c5) R.length (Sc R) := by
              have h := HO5.out
              rw [hRl, show Sc R = Sc N ++ [.string x] by rw [hR]; simp [Sc]]
              exact h
            have hRx : Has x R = true := by rw [Has_mem, hR]; simp
            have hk3a : Kp (fun _ => False) wr w3 := ((Kp.refl _ wr).alloc (.cells #[] 9)).trans_new HK3.out (fun k h1 h2 => by
              have : wr.heap.size = k := by simpa [In, Value.ownBlock] using h2
              omega)
            have hk5a : Kp (fun _ => False) wr w5 := (hk3a.alloc (.cells #[.string x] 9)).trans_new HK5.out (fun k h1 h2 => by
              rcases HSN3.out with h | h
              · have e : (Value.slice (some ⟨wr.heap.size, 0, none⟩) 0 0).ownBlock = some k := h ▸ h2
                have : wr.heap.size = k := by simpa [Value.ownBlock] using e
                omega
              · have := h k h2; simp at this; omega)
            have HR5 := Lib.hid (HRQ.out.calm hk5a)
            have hix := Has_ix HQX.out
            have hfx := Fx_le_Ix hRx Q
            obtain ⟨i, hI⟩ : ∃ i, i = Fx R Q := ⟨_, rfl⟩
            rw [← hI] at hfx
            have hil : i < Q.length := by omega
            have hnext := rnext_any W.heap.size vq Q R a5 c5 i _ HR5.out.rg (SRd.own hRo rfl) (by have := HQL.out; omega) (by omega) hI.symm hil
            rw [hRl] at hnext
            have HMT := Lib.hid (mem_turn hil HQX.out); have HTL := Lib.hid (Turn_len hil)
            have HIX := Lib.hid hix; have HFX := Lib.hid hfx; have HIL := Lib.hid hil
            clear hR hRl hRo hRx hk3a hk5a hix hfx hI hil
            refine hnext.mono ?_; rintro e w6 ⟨rfl, ⟨v6, hr6, hs6⟩, hk6⟩
            clear hnext
            have HR6 := Lib.hid (HR5.out.next hr6 hs6 hk6); clear hr6 hs6 hk6
            obtain ⟨y, hy⟩ : ∃ y, y = Q.getD i ByteArray.empty := ⟨_, rfl⟩
            rw [← hy]
            have HY := Lib.hid hy; clear hy
            have hPl := HQL.out
            have hPp : 0 < P.length := by have := HIX.out; omega
            have hQ4 : P.length ≤ 41 := by omega
            by_cases hyx : y = x
            · subst hyx
              clear hPl
              have hPn : ¬ P = [] := List.length_pos_iff.1 hPp
              have hPi : ¬ (P.length : Int) ≤ 0 := by omega
              go_wp2_with fail
              go_roundg (nr - (q + 1))
              case measure => rw [HKq.out]; omega
              case rel => exact ⟨q + 1, 0, v6, Turn i Q, rfl, by omega, by go_num, rfl, HR6.out, by rw [HTL.out, HQL.out], HMT.out, by have := Has_ix HMT.out; rw [HTL.out, HQL.out] at this; omega⟩
            · have h1 := toList_ne hyx
              have h2 := toList_ne (fun h => hyx h.symm)
              have h3 : (y.toList == x.toList) = false := by rw [beq_eq_false_iff_ne]; exact h1
              have h4 : (x.toList == y.toList) = false := by rw [beq_eq_false_iff_ne]; exact h2
              have hlt : i < Ix x Q := by
                have h5 := HFX.out
                have h6 := Ix_get HIX.out
                rcases Nat.lt_or_ge i (Ix x Q) with h | h
                · exact h
                · have e : i = Ix x Q := by omega
                  exact absurd (by rw [HY.out, e, h6]) hyx
              have hmin : Ix x (Turn i Q) ≤ Ix x Q - 1 := Ix_min (by rw [HTL.out]; have := HIX.out; omega) (by
                rw [Turn_get (by omega) (by have := HIX.out; omega), show Ix x Q - 1 + 1 = Ix x Q by omega]
                exact Ix_get HIX.out)
              have hwn1 : wn + 1 < P.length := by have := HWN.out; omega
              have HLT := Lib.hid hlt; have HMIN := Lib.hid hmin
              clear hPl hlt hmin
              go_wp2_with fail
              go_roundg (nr - (q + 1))
              case measure => rw [HKq.out]; omega
              case rel => exact ⟨q + 1, wn + 1, v6, Turn i Q, rfl, by omega, by go_num, by go_num, HR6.out, by rw [HTL.out, HQL.out], HMT.out, by have := HWN.out; have := HLT.out; have := HMIN.out; omega⟩
          · by_cases hqn : q < nr
            · have hq100 : ¬ q < 100 := by omega
              go_wp2_with fail
              refine (r21ans_any _).mono ?_; rintro e w3 ⟨rfl, hk3⟩
              go_wp2_with fail
              go_ret
              exact ⟨rfl, (HRQ.out.kp.trans hk3).below (fun _ _ h => h)⟩
            · go_wp2_with fail
              refine (r21ans_any _).mono ?_; rintro e w3 ⟨rfl, hk3⟩
              go_wp2_with fail
              go_ret
              exact ⟨rfl, (HRQ.out.kp.trans hk3).below (fun _ _ h => h)⟩
end Go.Proofs.Ytbiahndpfbmoeaa
