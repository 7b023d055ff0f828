/- What the functions of package pipe do to a pipe. Condition: a pipe's runs are no more than fit into memory. -/
import Derived.Test.YtihndplkkpglcaaChecked
import Derived.Test.YtihndplkkpglcaaAppend
import Derived.Test.YtihndplkkpglcaaMm
import Derived.WalkSpells
import Derived.Lib.SliceRun
import Derived.Deep.LoopGhost
namespace Go.Proofs.Ytihndplkkpglcaa
open Go.RowKit

theorem run_info : (Try.prog.info? 40).map (fun i => (i.zero, i.size, i.bytes)) = some (some (.agg #[.int .i64 0, .string ByteArray.empty, .int .i64 0]), 3, 32) := by kernel_rfl

/-- what a code means -/
def Kd (c : Int) : Int := if c = 0 then 2 else if c = 75 ∨ c < 0 ∨ 255 < c then 4 else 3

theorem kind_any (c : Int) (w : World) : Calls Try.prog 28 #[.int .i64 c] w fun e w' => e = .returned (.int .i64 (Kd c)) ∧ w = w' := by
  by_cases h0 : c = 0
  · have b0 : (c == 0) = true := by rw [beq_iff_eq]; exact h0
    have H := Lib.hid (show 2 = Kd c by unfold Kd; rw [if_pos h0])
    clear h0
    go_enter Try.func28, Try.ntmps28
    go_wp2
    go_ret
    exact ⟨ret_int H.out, rfl⟩
  · have b0 : (c == 0) = false := by rw [beq_eq_false_iff_ne]; exact h0
    by_cases h1 : c = 75
    · have b1 : (c == 75) = true := by rw [beq_iff_eq]; exact h1
      have H := Lib.hid (show 4 = Kd c by unfold Kd; rw [if_neg h0, if_pos (by omega)])
      clear h0 h1
      go_enter Try.func28, Try.ntmps28
      go_wp2
      go_ret
      exact ⟨ret_int H.out, rfl⟩
    · have b1 : (c == 75) = false := by rw [beq_eq_false_iff_ne]; exact h1
      by_cases h2 : c < 0
      · have H := Lib.hid (show 4 = Kd c by unfold Kd; rw [if_neg h0, if_pos (by omega)])
        clear h0 h1
        go_enter Try.func28, Try.ntmps28
        go_wp2
        go_ret
        exact ⟨ret_int H.out, rfl⟩
      · by_cases h3 : 255 < c
        · have H := Lib.hid (show 4 = Kd c by unfold Kd; rw [if_neg h0, if_pos (by omega)])
          clear h0 h1
          go_enter Try.func28, Try.ntmps28
          go_wp2
          go_ret
          exact ⟨ret_int H.out, rfl⟩
        · have H := Lib.hid (show 3 = Kd c by unfold Kd; rw [if_neg h0, if_neg (by omega)])
          clear h0 h1
          go_enter Try.func28, Try.ntmps28
          go_wp2
          go_ret
          exact ⟨ret_int H.out, rfl⟩

theorem rkind_any (c : Int) (w : World) : Calls Try.prog 25 #[.int .i64 c] w fun e w' => e = .returned (.int .i64 (Kd c)) ∧ w = w' := by
  by_cases h0 : c = 0
  · have b0 : (c == 0) = true := by rw [beq_iff_eq]; exact h0
    have H := Lib.hid (show 2 = Kd c by unfold Kd; rw [if_pos h0])
    clear h0
    go_enter Try.func25, Try.ntmps25
    go_wp2
    go_ret
    exact ⟨ret_int H.out, rfl⟩
  · have b0 : (c == 0) = false := by rw [beq_eq_false_iff_ne]; exact h0
    by_cases h1 : c = 75
    · have b1 : (c == 75) = true := by rw [beq_iff_eq]; exact h1
      have H := Lib.hid (show 4 = Kd c by unfold Kd; rw [if_neg h0, if_pos (by omega)])
      clear h0 h1
      go_enter Try.func25, Try.ntmps25
      go_wp2
      go_ret
      exact ⟨ret_int H.out, rfl⟩
    · have b1 : (c == 75) = false := by rw [beq_eq_false_iff_ne]; exact h1
      by_cases h2 : c < 0
      · have H := Lib.hid (show 4 = Kd c by unfold Kd; rw [if_neg h0, if_pos (by omega)])
        clear h0 h1
        go_enter Try.func25, Try.ntmps25
        go_wp2
        go_ret
        exact ⟨ret_int H.out, rfl⟩
      · by_cases h3 : 255 < c
        · have H := Lib.hid (show 4 = Kd c by unfold Kd; rw [if_neg h0, if_pos (by omega)])
          clear h0 h1
          go_enter Try.func25, Try.ntmps25
          go_wp2
          go_ret
          exact ⟨ret_int H.out, rfl⟩
        · have H := Lib.hid (show 3 = Kd c by unfold Kd; rw [if_neg h0, if_neg (by omega)])
          clear h0 h1
          go_enter Try.func25, Try.ntmps25
          go_wp2
          go_ret
          exact ⟨ret_int H.out, rfl⟩

/-- a run's cells -/
def Rc (r : Int × ByteArray × Int) : List Value := [.int .i64 r.1, .string r.2.1, .int .i64 r.2.2]
/-- the cells of runs -/
def Rs (L : List (Int × ByteArray × Int)) : List Value := L.flatMap Rc
theorem Rs_len (L : List (Int × ByteArray × Int)) : (Rs L).length = L.length * 3 := by
  induction L with
  | nil => rfl
  | cons a L ih => rw [Rs, List.flatMap_cons, List.length_append, ← Rs, ih, List.length_cons]; simp [Rc]; omega
theorem Rs_get (L : List (Int × ByteArray × Int)) {i : Nat} (hi : i < L.length) :
    (Rs L)[i * 3]? = some (.int .i64 L[i].1) ∧ (Rs L)[i * 3 + 1]? = some (.string L[i].2.1) ∧ (Rs L)[i * 3 + 2]? = some (.int .i64 L[i].2.2) := by
  induction L generalizing i with
  | nil => simp at hi
  | cons a L ih =>
    cases i with
    | zero => simp [Rs, Rc]
    | succ i =>
      have h := ih (i := i) (by simpa using hi)
      have e : Rs (a :: L) = Rc a ++ Rs L := by simp [Rs]
      have l3 : (Rc a).length = 3 := rfl
      rw [e]
      refine ⟨?_, ?_, ?_⟩
      · rw [List.getElem?_append_right (by omega), l3, show (i + 1) * 3 - 3 = i * 3 by omega]; simpa using h.1
      · rw [List.getElem?_append_right (by omega), l3, show (i + 1) * 3 + 1 - 3 = i * 3 + 1 by omega]; simpa using h.2.1
      · rw [List.getElem?_append_right (by omega), l3, show (i + 1) * 3 + 2 - 3 = i * 3 + 2 by omega]; simpa using h.2.2
theorem Rs_one (L : List (Int × ByteArray × Int)) : ∀ u ∈ Rs L, u.oneCell' = true := by
  intro u hu
  obtain ⟨r, _, hr⟩ := List.mem_flatMap.1 hu
  simp [Rc] at hr
  rcases hr with rfl | rfl | rfl <;> rfl
theorem Rs_snoc (L : List (Int × ByteArray × Int)) (r : Int × ByteArray × Int) : Rs L ++ Rc r = Rs (L ++ [r]) := by simp [Rs]

/-- block p is a pipe with these runs; v is its slice -/
structure PipeAt (w : World) (p : Nat) (v : Value) (L : List (Int × ByteArray × Int)) : Prop where
  head : w.heap[p]? = some (.cells #[v] 37 (0, 0))
  row : Own w 40 3 v L.length (Rs L)
  apart : v.ownBlock ≠ some p

theorem pkind_none (id code : Int) (s : ByteArray) (w : World) : Calls Try.prog 24 #[.pointer none, .int .i64 id, .string s, .int .i64 code] w fun e w' => e = .returned (.int .i64 0) ∧ w = w' := by
  go_enter Try.func24, Try.ntmps24
  go_wp2
  go_ret
  exact ⟨rfl, rfl⟩

set_option maxHeartbeats 800000 in
theorem prun_any (p : Nat) (v : Value) (L : List (Int × ByteArray × Int)) (id code : Int) (s : ByteArray) (w : World) (hp : PipeAt w p v L) (hL : L.length ≤ 1000000) :
    Calls Try.prog 24 #[.pointer (some ⟨p, 0, none⟩), .int .i64 id, .string s, .int .i64 code] w fun e w' =>
      e = .returned (.int .i64 (Kd code)) ∧ (∃ v', PipeAt w' p v' (L ++ [(id, s, code)]) ∧ SameOrNew w v v') ∧ Kp (fun k => k = p ∨ In v k) w w' := by
  obtain ⟨i0, hi, hz0, hz1, hz2⟩ := info_parts run_info
  have c0 := cell_of hp.head 0
  simp only [List.getElem?_toArray, List.getElem?_cons_zero] at c0
  have f0 := frozen_of hp.head 0
  have HP := Lib.hid hp; clear hp
  obtain ⟨ao, cap, rfl⟩ := HP.out.row.slice
  go_enter Try.func24, Try.ntmps24
  have hown := HP.out.row.alloc (.cells #[.int .i64 id, .string s, .int .i64 code] 40)
  have hlt := lt_of_block HP.out.head
  go_wp2_with (first | (go_at_call 28; refine (kind_any _ _).mono ?_; rintro e w' ⟨rfl, rfl⟩) | (at_builtin; refine wpList_append_prec _ rfl _ _ 34 rfl 40 i0 _ 3 32 Try.underlying34 hi hz0 hz1 hz2 rfl (by decide) _ _ _ rfl hown _ 1 1 (Rc (id, s, code)) rfl (fun h => by cases h) rfl lit_news (by intro u hu; simp [Rc] at hu; rcases hu with rfl | rfl | rfl <;> rfl) (by unfold maxLen; omega) (by omega) ?_; intro v' w1 hown1 hk1 hsn _; have k0 := (hk1.cell 0 (show p < (w.alloc _).heap.size by simp; omega) (fun h => HP.out.apart h)).trans ((World.cell?_alloc_past _ _ _ hlt).trans c0); have e0 := (hk1.frozen 0 (show p < (w.alloc _).heap.size by simp; omega) (fun h => HP.out.apart h)).trans ((World.frozen?_alloc_past _ _ _ hlt).trans f0); have HO1 := Lib.hid hown1; obtain ⟨ao1, cap1, rfl⟩ := HO1.out.slice; clear hown1))
  go_ret
  have hs0 : SameOrNew w (.slice ao L.length cap) (.slice ao1 (L.length + 1) cap1) := SameOrNew.mono hsn (by simp)
  have hne := hs0.ne hlt HP.out.apart
  have hk2 : Kp (In (.slice ao L.length cap)) (w.alloc (.cells #[.int .i64 id, .string s, .int .i64 code] 40)) w1 := hk1
  refine ⟨rfl, ⟨_, ⟨heap_set (hk2.keep (heap_old _ HP.out.head) (fun h => HP.out.apart h)) _, ?_, hne⟩, hs0⟩, ?_⟩
  · have h1 := HO1.out.keep ((Kp.refl (· = p) w1).setCell ⟨p, 0, none⟩ (.slice ao1 (L.length + 1) cap1) (Or.inl rfl)) (fun k hk h => hne (by rw [hk, h]))
    rw [Rs_snoc] at h1
    rw [List.length_append]
    exact h1
  · refine Kp.setCell ?_ _ _ (Or.inl (Or.inl rfl))
    exact (((Kp.refl _ w).alloc _).trans_new hk2 (fun k _ h => Or.inr h))

/-! slices.Clone, of runs -/
theorem rclone_nil (w : World) : Calls Try.prog 43 #[.slice none 0 0] w fun e w' => e = .returned (.slice none 0 0) ∧ w = w' := by
  have hq := fun (w : World) (a : Option Addr) (n c : Nat) => Lib.run_eql_slice_nil (P := Try.prog) w 34 40 a n c 0 0 Try.underlying34
  go_enter Try.func43, Try.ntmps43
  go_wp2
  go_ret
  exact ⟨rfl, rfl⟩
theorem rclone_any (a : Addr) (m c : Nat) (xs : List Value) (w : World) (hx : xs.length = m * 3) (hc : ∀ j u, xs[j]? = some u → w.cell? (a.add j) = some u) (h1 : ∀ u ∈ xs, u.oneCell' = true) (hm : m ≤ 4000000000) :
    Calls Try.prog 43 #[.slice (some a) m c] w (Cloned 40 3 m xs w) := by
  obtain ⟨i0, hi, hz0, hz1, hz2⟩ := info_parts run_info
  have hq := fun (w : World) (a : Option Addr) (n c : Nat) => Lib.run_eql_slice_nil (P := Try.prog) w 34 40 a n c 0 0 Try.underlying34
  have HC := Lib.hid (clone_news (.cells #[] 40) hc); clear hc
  have HX := Lib.hid hx; have H1 := Lib.hid h1; clear hx h1
  go_enter Try.func43, Try.ntmps43
  go_wp2_with (at_builtin; refine wpList_append_own _ rfl _ _ 34 rfl w.heap.size 40 i0 _ 3 32 Try.underlying34 hi hz0 hz1 hz2 rfl (by decide) _ 0 [] rfl (World.ownsRow_lit w #[] 0 (Nat.le_refl _) (by unfold maxLen; omega) rfl) a m c xs rfl HX.out HC.out H1.out (by unfold maxLen; omega) (by omega) (by simp) ?_; intro v' w1 hown1 hgrow _; have HO := Lib.hid hown1; have HG := Lib.hid hgrow; clear hown1 hgrow)
  go_ret
  refine ⟨v', rfl, by simpa using HO.out, ((Kp.refl _ w).alloc (.cells #[] 40)).trans_new (Kp.of_grown HG.out) (fun k hk h => ?_)⟩
  have h' : some k = some w.heap.size := h
  cases h'
  exact absurd hk (Nat.lt_irrefl _)

theorem pruns_none (w : World) : Calls Try.prog 26 #[.pointer none] w fun e w' => e = .returned (.slice none 0 0) ∧ w = w' := by
  go_enter Try.func26, Try.ntmps26
  go_wp2
  go_ret
  exact ⟨rfl, rfl⟩

theorem pruns_any (p : Nat) (v : Value) (L : List (Int × ByteArray × Int)) (w : World) (hp : PipeAt w p v L) (hL : L.length ≤ 1000000) :
    Calls Try.prog 26 #[.pointer (some ⟨p, 0, none⟩)] w (Cloned 40 3 L.length (Rs L) w) := by
  have c0 := cell_of hp.head 0
  simp only [List.getElem?_toArray, List.getElem?_cons_zero] at c0
  have HP := Lib.hid hp; clear hp
  rcases HP.out.row.shape with ⟨rfl, hn, hxs⟩ | ⟨g, cap, rfl, hcap, _, hg⟩
  · have HN := Lib.hid hn; have HX := Lib.hid hxs; clear hn hxs
    go_enter Try.func26, Try.ntmps26
    go_wp2_with (go_at_call 43; refine (rclone_nil _).mono ?_; rintro e w' ⟨rfl, rfl⟩)
    go_ret
    exact ⟨_, rfl, by rw [HN.out, HX.out]; exact World.ownsRow_nil _ _ _ _, Kp.refl _ _⟩
  · have HC := Lib.hid (fun j u (hu : (Rs L)[j]? = some u) => show w.cell? ((⟨g, 0, none⟩ : Addr).add j) = some u by rw [Addr.add_lit, Nat.zero_add]; exact HP.out.row.cell hu)
    go_enter Try.func26, Try.ntmps26
    go_wp2_with fail
    refine (rclone_any _ _ _ (Rs L) _ (Rs_len L) HC.out (Rs_one L) (by omega)).mono ?_; rintro e w' ⟨v', rfl, ho, hk⟩
    have HO := Lib.hid ho; clear ho
    go_wp2_with fail
    go_ret
    exact ⟨v', rfl, HO.out, hk⟩

/-- how many runs are of this mail and recipient -/
def Cnt (id : Int) (s : ByteArray) (L : List (Int × ByteArray × Int)) : Nat := (L.filter fun r => decide (r.1 = id ∧ r.2.1 = s)).length
theorem Cnt_take {id : Int} {s : ByteArray} {L : List (Int × ByteArray × Int)} {j : Nat} (h : j < L.length) : Cnt id s (L.take (j + 1)) = Cnt id s (L.take j) + if L[j].1 = id ∧ L[j].2.1 = s then 1 else 0 := by
  unfold Cnt
  rw [List.take_succ_eq_append_getElem h, List.filter_append, List.length_append]
  by_cases hc : L[j].1 = id ∧ L[j].2.1 = s <;> simp [hc]
theorem Cnt_le (id : Int) (s : ByteArray) (L : List (Int × ByteArray × Int)) : Cnt id s L ≤ L.length := List.length_filter_le _ _

theorem pcount_none (id : Int) (s : ByteArray) (w : World) : Calls Try.prog 27 #[.pointer none, .int .i64 id, .string s] w fun e w' => e = .returned (.int .i64 0) ∧ w = w' := by
  go_enter Try.func27, Try.ntmps27
  go_wp2_with (go_at_call 26; refine (pruns_none _).mono ?_; rintro e w' ⟨rfl, rfl⟩)
  go_loop [7, 13] (fun n i => n = .int .i64 0 ∧ i = .int .i64 0) (fun _ _ => 0)
  case atStart => exact ⟨rfl, rfl⟩
  case round =>
    obtain ⟨rfl, rfl⟩ := hrel
    go_wp2
    go_ret
    exact ⟨rfl, rfl⟩

set_option maxHeartbeats 800000 in
theorem pcount_any (p : Nat) (v : Value) (L : List (Int × ByteArray × Int)) (id : Int) (s : ByteArray) (w : World) (hp : PipeAt w p v L) (hL : L.length ≤ 1000000) :
    Calls Try.prog 27 #[.pointer (some ⟨p, 0, none⟩), .int .i64 id, .string s] w fun e w' => e = .returned (.int .i64 (Cnt id s L)) ∧ Kp (fun _ => False) w w' := by
  have HP := Lib.hid hp; clear hp
  go_enter Try.func27, Try.ntmps27
  go_wp2_with fail
  refine (pruns_any p v L _ HP.out hL).mono ?_; rintro e w1 ⟨v', rfl, ho, hk⟩
  have HO := Lib.hid (own_weaken ho); have HK := Lib.hid hk; clear ho hk
  obtain ⟨ao, cap, rfl⟩ := HO.out.slice
  go_wp2_with fail
  go_loopg [7, 13] L.length (fun k n i wr => ∃ j : Nat, k = L.length - j ∧ j ≤ L.length ∧ i = .int .i64 j ∧ n = .int .i64 (Cnt id s (L.take j)) ∧ Kp (fun _ => False) w1 wr)
  case atStart => exact ⟨0, rfl, Nat.zero_le _, rfl, by simp [Cnt], Kp.refl _ _⟩
  case round =>
    obtain ⟨j, hk, hj, rfl, rfl, hkp⟩ := hrel
    have HKk := Lib.hid hk; have HKP := Lib.hid hkp; clear hk hkp
    by_cases hlt : j < L.length
    · rcases HO.out.shape with ⟨_, h0, _⟩ | ⟨g, cap', he, hcap, _, hg⟩
      · omega
      · cases he
        obtain ⟨g0, g1, g2⟩ := Rs_get L hlt
        have c0 := (HKP.out.cell (j * 3) hg (fun h => h)).trans (HO.out.cell g0)
        have c1 := (HKP.out.cell (j * 3 + 1) hg (fun h => h)).trans (HO.out.cell g1)
        have c2 := (HKP.out.cell (j * 3 + 2) hg (fun h => h)).trans (HO.out.cell g2)
        clear g0 g1 g2
        have hct := Cnt_take (id := id) (s := s) hlt
        have hcl : Cnt id s (L.take j) ≤ 1000000 := by have := Cnt_le id s (L.take j); rw [List.length_take] at this; omega
        obtain ⟨r, hr⟩ : ∃ r, r = L[j] := ⟨_, rfl⟩
        rw [← hr] at c0 c1 c2 hct
        clear hr
        obtain ⟨a, b, c⟩ := r
        simp only at c0 c1 c2 hct
        obtain ⟨q, hq⟩ : ∃ q, q = Cnt id s (L.take j) := ⟨_, rfl⟩
        rw [← hq] at hct hcl ⊢
        clear hq
        by_cases h1 : a = id
        · subst h1
          by_cases h2 : b = s
          · subst h2
            rw [if_pos ⟨rfl, rfl⟩] at hct
            have HCT := Lib.hid hct; clear hct
            go_wp2_with fail
            go_roundg (L.length - (j + 1))
            case measure => rw [HKk.out]; omega
            case rel => exact ⟨j + 1, rfl, by omega, by go_num, by rw [HCT.out]; go_num, HKP.out.trans ((by repeat (first | exact Kp.refl _ _ | apply Kp.drew | apply Kp.drewN | refine Kp.setCell ?_ _ _ (Or.inl rfl) | apply Kp.alloc)))⟩
          · rw [if_neg (fun h => h2 h.2)] at hct
            have hs := toList_ne h2
            have HCT := Lib.hid hct; clear hct h2
            go_wp2_with fail
            go_roundg (L.length - (j + 1))
            case measure => rw [HKk.out]; omega
            case rel => exact ⟨j + 1, rfl, by omega, by go_num, by rw [HCT.out]; rfl, HKP.out.trans ((by repeat (first | exact Kp.refl _ _ | apply Kp.drew | apply Kp.drewN | refine Kp.setCell ?_ _ _ (Or.inl rfl) | apply Kp.alloc)))⟩
        · rw [if_neg (fun h => h1 h.1)] at hct
          have HCT := Lib.hid hct; clear hct
          go_wp2_with fail
          go_roundg (L.length - (j + 1))
          case measure => rw [HKk.out]; omega
          case rel => exact ⟨j + 1, rfl, by omega, by go_num, by rw [HCT.out]; rfl, HKP.out.trans ((by repeat (first | exact Kp.refl _ _ | apply Kp.drew | apply Kp.drewN | refine Kp.setCell ?_ _ _ (Or.inl rfl) | apply Kp.alloc)))⟩
    · have hjl := Lib.hid (show L.take j = L from List.take_of_length_le (by omega))
      go_wp2_with fail
      go_ret
      exact ⟨ret_int (by rw [hjl.out]), HK.out.trans HKP.out⟩
end Go.Proofs.Ytihndplkkpglcaa
