/- What a Ring does. Condition: it holds no more names than fit into memory. -/
import Derived.Test.YtbiahndpfbmoeaaStrs2
import Derived.StillTailTactics
import Derived.Deep.RegionHeld3
import Derived.Deep.AppendLies
namespace Go.Proofs.Ytbiahndpfbmoeaa
open Go.RowKit

/-- block p is a ring of these names; v is its slice -/
structure RgAt (w : World) (p : Nat) (v : Value) (L : List ByteArray) : Prop where
  head : w.heap[p]? = some (.cells #[v] 26 (0, 0))
  row : Own w 9 1 v L.length (Sc L)
  apart : v.ownBlock ≠ some p
theorem RgAt.keep {S : Nat → Prop} {w w' : World} {p : Nat} {v : Value} {L : List ByteArray} (h : RgAt w p v L) (hk : Kp S w w') (hp : ¬ S p) (hs : ∀ k, v.ownBlock = some k → ¬ S k) : RgAt w' p v L :=
  ⟨hk.keep h.head hp, h.row.keep hk hs, h.apart⟩

theorem radd_none (x : ByteArray) (w : World) : Calls Try.prog 14 #[.pointer none, .string x] w fun e w' => e = .returned (.bool false) ∧ w = w' := by
  go_enter Try.func14, Try.ntmps14
  go_wp2
  go_ret
  exact ⟨rfl, rfl⟩
theorem rdrop_none (x : ByteArray) (w : World) : Calls Try.prog 16 #[.pointer none, .string x] w fun e w' => e = .returned (.bool false) ∧ w = w' := by
  go_enter Try.func16, Try.ntmps16
  go_wp2
  go_ret
  exact ⟨rfl, rfl⟩
theorem rnames_none (w : World) : Calls Try.prog 21 #[.pointer none] w fun e w' => e = .returned (.slice none 0 0) ∧ w = w' := by
  go_enter Try.func21, Try.ntmps21
  go_wp2
  go_ret
  exact ⟨rfl, rfl⟩
theorem rnext_none (ao : Option Addr) (n c : Nat) (w : World) : Calls Try.prog 18 #[.pointer none, .slice ao n c] w fun e w' => e = .returned (.tuple #[.string ByteArray.empty, .bool false]) ∧ Kp (fun _ => False) w w' := by
  go_enter Try.func18, Try.ntmps18
  go_wp2
  go_ret2
  exact ⟨rfl, (by repeat (first | exact Kp.refl _ _ | apply Kp.drew | apply Kp.drewN | refine Kp.setCell ?_ _ _ (Or.inl rfl) | apply Kp.alloc))⟩

theorem rnames_any (p : Nat) (v : Value) (L : List ByteArray) (w : World) (hp : RgAt w p v L) (hL : L.length ≤ 1000000000) :
    Calls Try.prog 21 #[.pointer (some ⟨p, 0, none⟩)] w (Cloned 9 1 L.length (Sc L) w) := by
  have c0 := cell_of hp.head 0
  simp only [List.getElem?_toArray, List.getElem?_cons_zero] at c0
  have HP := Lib.hid hp; clear hp
  rcases HP.out.row.shape with ⟨rfl, hn, hx⟩ | ⟨g, cap, rfl, _, _, hg⟩
  · have HN := Lib.hid hn; have HX := Lib.hid hx; clear hn hx
    go_enter Try.func21, Try.ntmps21
    go_wp2_with (go_at_call 46; refine (sclone_nil _).mono ?_; rintro e w' ⟨rfl, rfl⟩)
    go_ret
    exact ⟨_, rfl, by rw [HN.out, HX.out]; exact World.ownsRow_nil _ _ _ _, Kp.refl _ _⟩
  · have HC := Lib.hid (show ∀ j u, (Sc L)[j]? = some u → w.cell? ((⟨g, 0, none⟩ : Addr).add j) = some u from fun j u hu => by rw [Addr.add_lit, Nat.zero_add]; exact HP.out.row.cell hu)
    go_enter Try.func21, Try.ntmps21
    go_wp2_with fail
    refine (sclone_any _ _ _ (Sc L) _ (Sc_len1 L) HC.out (Sc_one L) (by omega)).mono ?_; rintro e w' ⟨v', rfl, ho, hk⟩
    have HO := Lib.hid ho; clear ho
    go_wp2_with fail
    go_ret
    exact ⟨v', rfl, HO.out, hk⟩

theorem rdrop_no (p : Nat) (v : Value) (L : List ByteArray) (x : ByteArray) (w : World) (hp : RgAt w p v L) (hx : Has x L = false) (hL : L.length ≤ 1000000000) :
    Calls Try.prog 16 #[.pointer (some ⟨p, 0, none⟩), .string x] w fun e w' => e = .returned (.bool false) ∧ w = w' := by
  have c0 := cell_of hp.head 0
  simp only [List.getElem?_toArray, List.getElem?_cons_zero] at c0
  obtain ⟨ao, cap, rfl⟩ := hp.row.slice
  have HS := Lib.hid (SRd.own hp.row rfl)
  have hz : Iz x L = -1 := by
    unfold Has at hx
    rw [decide_eq_false_iff_not] at hx
    rw [Iz, if_neg hx]
  have HZ := Lib.hid hz
  clear hp hx hz
  go_enter Try.func16, Try.ntmps16
  go_wp2_with fail
  refine (sindex_any ao cap L x _ HS.out (by omega)).mono ?_; rintro e w1 ⟨rfl, rfl⟩
  rw [HZ.out]
  go_wp2_with fail
  go_ret
  exact ⟨rfl, rfl⟩

/-- the names without the one at i -/
def Cut (i : Nat) (L : List ByteArray) : List ByteArray := L.take i ++ L.drop (i + 1)
theorem Cut_len {i : Nat} {L : List ByteArray} (hi : i < L.length) : (Cut i L).length = L.length - 1 := by unfold Cut; rw [List.length_append, List.length_take, List.length_drop]; omega
theorem rdrop_any (p : Nat) (v : Value) (L : List ByteArray) (x : ByteArray) (w : World) (hp : RgAt w p v L) (hx : Has x L = true) (hL : L.length ≤ 1000000000) :
    Calls Try.prog 16 #[.pointer (some ⟨p, 0, none⟩), .string x] w fun e w' => e = .returned (.bool true) ∧ (∃ v', RgAt w' p v' (Cut (Ix x L) L) ∧ v'.ownBlock = v.ownBlock) ∧ Kp (fun k => k = p ∨ In v k) w w' := by
  have hi : Ix x L < L.length := by unfold Has at hx; exact of_decide_eq_true hx
  have hz : Iz x L = (Ix x L : Int) := by rw [Iz, if_pos hi]
  obtain ⟨i, hI⟩ : ∃ i, i = Ix x L := ⟨_, rfl⟩
  rw [← hI] at hi hz ⊢
  have c0 := cell_of hp.head 0
  simp only [List.getElem?_toArray, List.getElem?_cons_zero] at c0
  have f0 := frozen_of hp.head 0
  have hlt := lt_of_block hp.head
  rcases hp.row.shape with ⟨_, h0, _⟩ | ⟨g, cap, rfl, hcap, _, hg⟩
  · omega
  have HP := Lib.hid hp
  have HS := Lib.hid (SRd.own hp.row rfl)
  have hgp : g ≠ p := fun e => hp.apart (by simp [Value.ownBlock, e])
  have HZ := Lib.hid hz
  clear hp hx hz hI
  have hw1 : IntKind.i64.wrap ((i : Int) + 1) = (i : Int) + 1 := IntWalk.i64_in _ (by omega)
  go_enter Try.func16, Try.ntmps16
  go_wp2_with fail
  refine (sindex_any _ cap L x _ HS.out (by omega)).mono ?_; rintro e w1 ⟨rfl, rfl⟩
  rw [HZ.out]
  go_wp2_with fail
  refine (sdel_any g cap i L _ HP.out.row hi).mono ?_; rintro e w2 ⟨rfl, ho, hk⟩
  have k0 := (hk.cell 0 hlt (fun h => hgp h.symm)).trans c0
  have e0 := (hk.frozen 0 hlt (fun h => hgp h.symm)).trans f0
  have HO := Lib.hid ho; have HK := Lib.hid hk; clear ho hk
  go_wp2_with fail
  go_ret
  refine ⟨rfl, ⟨_, ⟨heap_set (HK.out.keep HP.out.head (fun h => hgp h.symm)) _, ?_, fun h => hgp (by simpa [Value.ownBlock] using h)⟩, rfl⟩, (HK.out.mono (fun k _ h => Or.inr (by simp [In, Value.ownBlock, h.symm]))).setCell _ _ (Or.inl (Or.inl rfl))⟩
  rw [Cut_len hi]
  exact Own.keep HO.out ((Kp.refl (· = p) w2).setCell ⟨p, 0, none⟩ _ (Or.inl rfl)) (fun k hk h => hgp (by have e : g = k := by simpa [Value.ownBlock] using hk
                                                                                                          rw [e]; exact h))

theorem radd_no (p : Nat) (v : Value) (L : List ByteArray) (x : ByteArray) (w : World) (hp : RgAt w p v L) (hx : Has x L = true) (hL : L.length ≤ 1000000000) :
    Calls Try.prog 14 #[.pointer (some ⟨p, 0, none⟩), .string x] w fun e w' => e = .returned (.bool false) ∧ w = w' := by
  have c0 := cell_of hp.head 0
  simp only [List.getElem?_toArray, List.getElem?_cons_zero] at c0
  obtain ⟨ao, cap, rfl⟩ := hp.row.slice
  have HS := Lib.hid (SRd.own hp.row rfl); have HX := Lib.hid hx
  clear hp hx
  go_enter Try.func14, Try.ntmps14
  go_wp2_with fail
  refine (scontains_any ao cap L x _ HS.out (by omega)).mono ?_; rintro e w1 ⟨rfl, rfl⟩
  rw [HX.out]
  go_wp2_with fail
  go_ret
  exact ⟨rfl, rfl⟩
set_option maxRecDepth 100000 in
theorem radd_any (p : Nat) (v : Value) (L : List ByteArray) (x : ByteArray) (w : World) (hp : RgAt w p v L) (hx : Has x L = false) (hL : L.length ≤ 1000000000) :
    Calls Try.prog 14 #[.pointer (some ⟨p, 0, none⟩), .string x] w fun e w' => e = .returned (.bool true) ∧ (∃ v', RgAt w' p v' (L ++ [x]) ∧ SameOrNew w v v') ∧ Kp (fun k => k = p ∨ In v k) w w' := by
  have c0 := cell_of hp.head 0
  simp only [List.getElem?_toArray, List.getElem?_cons_zero] at c0
  have f0 := frozen_of hp.head 0
  have hlt := lt_of_block hp.head
  obtain ⟨ao, cap, rfl⟩ := hp.row.slice
  have HP := Lib.hid hp
  have HS := Lib.hid (SRd.own hp.row rfl); have HX := Lib.hid hx
  clear hp hx
  obtain ⟨i0, hi, hz0, hz1, hz2⟩ := info_parts str_info
  go_enter Try.func14, Try.ntmps14
  go_wp2_with fail
  refine (scontains_any ao cap L x _ HS.out (by omega)).mono ?_; rintro e w1 ⟨rfl, rfl⟩
  rw [HX.out]
  go_wp2_with (at_builtin; (refine wpList_append_prec _ rfl _ _ 24 rfl 9 i0 _ 1 16 Try.underlying24 hi hz0 hz1 hz2 rfl (by decide) _ L.length (Sc L) rfl (by exact HP.out.row.alloc _) _ 1 1 [.string x] rfl (fun h => by cases h) rfl lit_news one_string (by unfold maxLen; omega) (by omega) ?_; intro v' w2 hown1 hk1 hsn _; have hsn2 : SameOrNew _ (.slice ao L.length cap) v' := hsn; have hk2 : Kp (In (.slice ao L.length cap)) _ w2 := hk1; have k0 := (hk1.cell 0 (show p < (w.alloc _).heap.size by simp; omega) (fun h => HP.out.apart h)).trans ((World.cell?_alloc_past _ _ _ hlt).trans c0); have e0 := (hk1.frozen 0 (show p < (w.alloc _).heap.size by simp; omega) (fun h => HP.out.apart h)).trans ((World.frozen?_alloc_past _ _ _ hlt).trans f0); have HO1 := Lib.hid hown1; have HK2 := Lib.hid hk2; have HSN := Lib.hid hsn2; obtain ⟨ao1, cap1, rfl⟩ := HO1.out.slice; clear hown1 hsn hk1 hk2 hsn2))
  go_ret
  have hs1 : SameOrNew w (.slice ao L.length cap) (.slice ao1 (L.length + 1) cap1) := HSN.out.mono (by simp)
  have hne := hs1.ne hlt HP.out.apart
  have hkw : Kp (In (.slice ao L.length cap)) w w2 := ((Kp.refl _ w).alloc _).trans HK2.out
  refine ⟨rfl, ⟨_, ⟨heap_set (HK2.out.keep (heap_old _ HP.out.head) (fun h => HP.out.apart h)) _, ?_, hne⟩, hs1⟩, (hkw.mono (fun k _ h => Or.inr h)).setCell _ _ (Or.inl (Or.inl rfl))⟩
  have hl : (L ++ [x]).length = L.length + 1 := by simp
  rw [hl, show Sc (L ++ [x]) = Sc L ++ [.string x] by simp [Sc]]
  exact Own.keep HO1.out ((Kp.refl (· = p) w2).setCell ⟨p, 0, none⟩ _ (Or.inl rfl)) (fun k hk h => hne (by rw [hk, h]))

/-- the first of L that is among R -/
def Fx (R : List ByteArray) : List ByteArray → Nat
  | [] => 0
  | a :: L => if Has a R then 0 else Fx R L + 1
theorem Fx_ge {R L : List ByteArray} {j : Nat} (hj : j ≤ L.length) (h : ∀ t, t < j → Has (L.getD t ByteArray.empty) R = false) : j ≤ Fx R L := by
  induction L generalizing j with
  | nil => exact hj
  | cons a L ih =>
    cases j with
    | zero => exact Nat.zero_le _
    | succ j =>
      have h0 : Has a R = false := h 0 (Nat.succ_pos _)
      unfold Fx
      rw [if_neg (by rw [h0]; exact Bool.false_ne_true)]
      exact Nat.succ_le_succ (ih (by simpa using hj) (fun t ht => h (t + 1) (Nat.succ_lt_succ ht)))
theorem Fx_eq {R L : List ByteArray} {j : Nat} (hj : j < L.length) (h : ∀ t, t < j → Has (L.getD t ByteArray.empty) R = false) (hx : Has (L.getD j ByteArray.empty) R = true) : Fx R L = j := by
  induction L generalizing j with
  | nil => cases hj
  | cons a L ih =>
    cases j with
    | zero => have e : Has a R = true := hx; unfold Fx; rw [if_pos e]
    | succ j =>
      have h0 : Has a R = false := h 0 (Nat.succ_pos _)
      unfold Fx
      rw [if_neg (by rw [h0]; exact Bool.false_ne_true), ih (by simpa using hj) (fun t ht => h (t + 1) (Nat.succ_lt_succ ht)) hx]
/-- the index that is answered -/
def Fz (R L : List ByteArray) : Int := if Fx R L < L.length then (Fx R L : Int) else -1
theorem among_any (b : Nat) (x : ByteArray) (R : List ByteArray) (ar : Option Addr) (cr : Nat) (w : World) (hb : w.cell? ⟨b, 0, none⟩ = some (.slice ar R.length cr)) (hr : SRd w ar R) (hR : R.length ≤ 1000000000) :
    Calls Try.prog 45 #[.string x, .pointer (some ⟨b, 0, none⟩)] w fun e w' => e = .returned (.bool (Has x R)) ∧ w = w' := by
  have HS := Lib.hid hr; clear hr
  go_enter Try.func45, Try.ntmps45
  go_wp2_with fail
  refine (scontains_any ar cr R x _ HS.out (by omega)).mono ?_; rintro e w1 ⟨rfl, rfl⟩
  go_wp2_with fail
  go_ret
  exact ⟨rfl, rfl⟩
theorem sfind_any (ao : Option Addr) (cap b : Nat) (L R : List ByteArray) (ar : Option Addr) (cr : Nat) (w : World) (hs : SRd w ao L) (hL : L.length ≤ 1000000000) (hb : w.cell? ⟨b, 0, none⟩ = some (.slice ar R.length cr)) (hr : SRd w ar R) (hR : R.length ≤ 1000000000) :
    Calls Try.prog 44 #[.slice ao L.length cap, .func (Fn.func 45) #[] #[.pointer (some ⟨b, 0, none⟩)]] w fun e w' => e = .returned (.int .i64 (Fz R L)) ∧ w = w' := by
  have HS := Lib.hid hs; have HB := Lib.hid hb; have HR := Lib.hid hr; clear hs hb hr
  go_enter Try.func44, Try.ntmps44
  go_wp2_with fail
  go_loopg [8] L.length (fun k i wr => ∃ j : Nat, k = L.length - j ∧ j ≤ L.length ∧ i = .int .i64 j ∧ wr = w ∧ ∀ t, t < j → Has (L.getD t ByteArray.empty) R = false)
  case atStart => exact ⟨0, rfl, Nat.zero_le _, rfl, rfl, fun t ht => absurd ht (Nat.not_lt_zero _)⟩
  case round =>
    obtain ⟨j, hk, hj, rfl, rfl, hn⟩ := hrel
    have HKk := Lib.hid hk; have HN := Lib.hid hn; clear hk hn
    by_cases hlt : j < L.length
    · obtain ⟨bb, off, rfl, _, hc'⟩ := HS.out j hlt
      obtain ⟨y, hy⟩ : ∃ y, y = L.getD j ByteArray.empty := ⟨_, rfl⟩
      have hc : wr.cell? ⟨bb, off + j, none⟩ = some (.string (L.getD j ByteArray.empty)) := hc'
      clear hc'
      rw [← hy] at hc
      have HY := Lib.hid hy; clear hy
      go_wp2_with fail
      refine (among_any b y R ar cr _ HB.out HR.out hR).mono ?_; rintro e w1 ⟨rfl, rfl⟩
      cases hyx : Has y R with
      | true =>
        have HI := Lib.hid (show Fz R L = (j : Int) by rw [Fz, Fx_eq hlt HN.out (by rw [← HY.out]; exact hyx), if_pos hlt])
        go_wp2_with fail
        go_ret
        exact ⟨by rw [HI.out]; rfl, rfl⟩
      | false =>
        have HX := Lib.hid hyx
        go_wp2_with fail
        go_roundg (L.length - (j + 1))
        case measure => rw [HKk.out]; omega
        case rel => exact ⟨j + 1, rfl, by omega, by go_num, rfl, fun t ht => by
          by_cases e : t = j
          · subst e; rw [← HY.out]; exact HX.out
          · exact HN.out t (by omega)⟩
    · have HI := Lib.hid (show Fz R L = -1 by
        have := Fx_ge (Nat.le_refl L.length) (fun t ht => HN.out t (by omega))
        rw [Fz, if_neg (by omega)])
      go_wp2_with fail
      go_ret
      exact ⟨by rw [HI.out]; rfl, rfl⟩
end Go.Proofs.Ytbiahndpfbmoeaa

/- What a Ring does, the rest: whose turn it is. Condition: it holds no more names than fit into memory. -/
namespace Go.Proofs.Ytbiahndpfbmoeaa
open Go.RowKit

theorem rnext_no (p : Nat) (v : Value) (L R : List ByteArray) (ar : Option Addr) (cr : Nat) (w : World) (hp : RgAt w p v L) (hr : SRd w ar R) (hL : L.length ≤ 1000000000) (hR : R.length ≤ 1000000000) (hx : ¬ Fx R L < L.length) :
    Calls Try.prog 18 #[.pointer (some ⟨p, 0, none⟩), .slice ar R.length cr] w fun e w' => e = .returned (.tuple #[.string ByteArray.empty, .bool false]) ∧ Kp (fun _ => False) w w' := by
  have c0 := cell_of hp.head 0
  simp only [List.getElem?_toArray, List.getElem?_cons_zero] at c0
  have hlt := lt_of_block hp.head
  obtain ⟨ao, cap, rfl⟩ := hp.row.slice
  have hk := (Kp.refl (fun _ => False) w).alloc (.cells #[.slice ar R.length cr] 24)
  have HS := Lib.hid ((SRd.own hp.row rfl).keep hk (fun _ _ _ _ h => h))
  have HR := Lib.hid (hr.keep hk (fun _ _ _ _ h => h))
  have HB := Lib.hid (cell_of (heap_new (w := w) (.cells #[.slice ar R.length cr] 24)) 0)
  have HZ := Lib.hid (show Fz R L = -1 by rw [Fz, if_neg hx])
  clear hp hr hx hk
  go_enter Try.func18, Try.ntmps18
  go_wp2_with fail
  refine (sfind_any ao cap w.heap.size L R ar cr _ HS.out hL HB.out HR.out hR).mono ?_; rintro e w1 ⟨rfl, rfl⟩
  rw [HZ.out]
  go_wp2_with fail
  go_ret2
  exact ⟨rfl, (by repeat (first | exact Kp.refl _ _ | apply Kp.drew | apply Kp.drewN | refine Kp.setCell ?_ _ _ (Or.inl rfl) | apply Kp.alloc))⟩

/-- the ring behind a turn -/
def Turn (i : Nat) (L : List ByteArray) : List ByteArray := Cut i L ++ [L.getD i ByteArray.empty]
theorem Turn_len {i : Nat} {L : List ByteArray} (hi : i < L.length) : (Turn i L).length = L.length := by unfold Turn; rw [List.length_append, Cut_len hi]; simp; omega
def Rturn (p : Nat) (v : Value) (i : Nat) (L : List ByteArray) (w : World) (e : Ending) (w' : World) : Prop :=
  e = .returned (.tuple #[.string (L.getD i ByteArray.empty), .bool true]) ∧ (∃ v', RgAt w' p v' (Turn i L) ∧ SameOrNew w v v') ∧ Kp (fun k => k = p ∨ In v k) w w'
set_option maxRecDepth 100000 in
theorem rnext_any (p : Nat) (v : Value) (L R : List ByteArray) (ar : Option Addr) (cr i : Nat) (w : World) (hp : RgAt w p v L) (hr : SRd w ar R) (hL : L.length ≤ 1000000000) (hR : R.length ≤ 1000000000) (hi : Fx R L = i) (hx : i < L.length) :
    Calls Try.prog 18 #[.pointer (some ⟨p, 0, none⟩), .slice ar R.length cr] w (Rturn p v i L w) := by
  have c0 := cell_of hp.head 0
  simp only [List.getElem?_toArray, List.getElem?_cons_zero] at c0
  have f0 := frozen_of hp.head 0
  have hlt := lt_of_block hp.head
  rcases hp.row.shape with ⟨_, h0, _⟩ | ⟨g, cap, rfl, hcap, _, hg⟩
  · omega
  have hgp : g ≠ p := fun e => hp.apart (by simp [Value.ownBlock, e])
  have hk := (Kp.refl (fun _ => False) w).alloc (.cells #[.slice ar R.length cr] 24)
  have HP := Lib.hid (hp.keep hk (fun h => h) (fun _ _ h => h)); have HK0 := Lib.hid hk
  have HS := Lib.hid ((SRd.own hp.row rfl).keep hk (fun _ _ _ _ h => h))
  have HR := Lib.hid (hr.keep hk (fun _ _ _ _ h => h))
  have HB := Lib.hid (cell_of (heap_new (w := w) (.cells #[.slice ar R.length cr] 24)) 0)
  have HZ := Lib.hid (show Fz R L = (i : Int) by rw [Fz, hi, if_pos hx])
  clear hp hr hk hi
  obtain ⟨i0, hi, hz0, hz1, hz2⟩ := info_parts str_info
  have hw1 : IntKind.i64.wrap ((i : Int) + 1) = (i : Int) + 1 := IntWalk.i64_in _ (by omega)
  obtain ⟨y, hy⟩ : ∃ y, y = L.getD i ByteArray.empty := ⟨_, rfl⟩
  have HY := Lib.hid hy
  have HG := Lib.hid (show (w.alloc (.cells #[.slice ar R.length cr] 24)).cell? ⟨g, i, none⟩ = some (.string y) from HP.out.row.cell (by rw [hy]; simp [Sc, List.getElem?_eq_getElem hx, List.getD]))
  clear hy
  go_enter Try.func18, Try.ntmps18
  go_wp2_with fail
  refine (sfind_any _ cap w.heap.size L R ar cr _ HS.out hL HB.out HR.out hR).mono ?_; rintro e w1 ⟨rfl, rfl⟩
  rw [HZ.out]
  have hgy := HG.out
  go_wp2_with fail
  refine (sdel_any g cap i L _ HP.out.row hx).mono ?_; rintro e w2 ⟨rfl, ho, hk⟩
  have k0 := (hk.cell 0 (show p < (w.alloc _).heap.size by simp; omega) (fun h => hgp h.symm)).trans ((World.cell?_alloc_past _ _ _ hlt).trans c0)
  have e0 := (hk.frozen 0 (show p < (w.alloc _).heap.size by simp; omega) (fun h => hgp h.symm)).trans ((World.frozen?_alloc_past _ _ _ hlt).trans f0)
  have HH2 := Lib.hid (hk.keep HP.out.head (fun h => hgp h.symm))
  have hlt2 := lt_of_block HH2.out
  have HO := Lib.hid ho; have HK := Lib.hid hk; clear ho hk
  obtain ⟨m, hm⟩ : ∃ m, m = L.length - 1 := ⟨_, rfl⟩
  rw [← hm] at HO
  have HM := Lib.hid hm
  have hm2 : m ≤ 1000000000 := by omega
  rw [← hm]
  clear hm
  go_wp2_with (at_builtin; go_loud (refine wpList_append_prec _ rfl _ _ 24 rfl 9 i0 _ 1 16 Try.underlying24 hi hz0 hz1 hz2 rfl (by decide) _ m (Sc (L.take i ++ L.drop (i + 1))) rfl (by exact HO.out.alloc _) _ 1 1 [.string y] rfl (fun h => by cases h) rfl lit_news one_string (by unfold maxLen; omega) (by omega) ?_; intro v' w3 hown1 hk1 hsn _; have hsn2 : SameOrNew _ (.slice (some ⟨g, 0, none⟩) m cap) v' := hsn; have hk2 : Kp (In (.slice (some ⟨g, 0, none⟩) m cap)) _ w3 := hk1; have hnp : ¬ In (.slice (some ⟨g, 0, none⟩) m cap) p := (fun h => hgp (by simpa [In, Value.ownBlock] using h)); have k1 := (hk2.cell 0 (show p < (w2.alloc _).heap.size by simp; omega) hnp).trans ((World.cell?_alloc_past _ _ _ hlt2).trans k0); have e1 := (hk2.frozen 0 (show p < (w2.alloc _).heap.size by simp; omega) hnp).trans ((World.frozen?_alloc_past _ _ _ hlt2).trans e0); have HO1 := Lib.hid hown1; have HK2 := Lib.hid hk2; have HSN := Lib.hid hsn2; obtain ⟨ao1, cap1, rfl⟩ := HO1.out.slice; clear hown1 hsn hk1 hk2 hsn2))
  go_ret2
  have hs1 : SameOrNew w2 (.slice (some ⟨g, 0, none⟩) m cap) (.slice ao1 (m + 1) cap1) := HSN.out.mono (by simp)
  have hne := hs1.ne hlt2 (fun h => hgp (by simpa [Value.ownBlock] using h))
  have hkw : Kp (In (.slice (some ⟨g, 0, none⟩) m cap)) w2 w3 := ((Kp.refl _ w2).alloc _).trans HK2.out
  have hs0 : SameOrNew w (.slice (some ⟨g, 0, none⟩) L.length cap) (.slice ao1 (m + 1) cap1) := by
    rcases hs1 with h | h
    · exact Or.inl (h.trans (by simp [Value.ownBlock]))
    · exact Or.inr (fun k hk => Nat.le_trans (Nat.le_trans HK0.out.size HK.out.size) (h k hk))
  have hk12 : Kp (fun k => k = p ∨ In (.slice (some ⟨g, 0, none⟩) L.length cap) k) w w2 := (HK0.out.mono (fun _ _ h => h.elim)).trans (HK.out.mono (fun k _ h => Or.inr (by simp [In, Value.ownBlock, h.symm])))
  refine ⟨by rw [← HY.out]; rfl, ⟨_, ⟨heap_set (HK2.out.keep (heap_old _ HH2.out) (fun h => hgp (by simpa [In, Value.ownBlock] using h))) _, ?_, hne⟩, hs0⟩, (hk12.trans (hkw.mono (fun k _ h => Or.inr (by simpa [In, Value.ownBlock] using h)))).setCell _ _ (Or.inl (Or.inl rfl))⟩
  have hl : (Turn i L).length = m + 1 := by rw [Turn_len hx, HM.out]; omega
  rw [hl, show Sc (Turn i L) = Sc (L.take i ++ L.drop (i + 1)) ++ [.string y] by unfold Turn Cut; rw [HY.out]; simp [Sc]]
  exact Own.keep HO1.out ((Kp.refl (· = p) w3).setCell ⟨p, 0, none⟩ _ (Or.inl rfl)) (fun k hk h => hne (by rw [hk, h]))
end Go.Proofs.Ytbiahndpfbmoeaa

/- What every law of package ring asks first; texts that are the same. No condition. -/
namespace Go.Proofs.Ytbiahndpfbmoeaa
open Go.RowKit

theorem texts_same (ao bo : Option Addr) (c d : Nat) (L : List ByteArray) (w : World) (ha : SRd w ao L) (hb : SRd w bo L) (hL : L.length ≤ 1000000000) :
    Calls Try.prog 20 #[.slice ao L.length c, .slice bo L.length d] w fun e w' => e = .returned (.bool true) ∧ Kp (fun _ => False) w w' := by
  have HA := Lib.hid ha; have HB := Lib.hid hb; clear ha hb
  go_enter Try.func20, Try.ntmps20
  go_wp2
  go_loopg [5] L.length (fun k i wr => ∃ j : Nat, k = L.length - j ∧ j ≤ L.length ∧ i = .int .i64 j ∧ Kp (fun _ => False) w wr)
  case atStart => exact ⟨0, rfl, Nat.zero_le _, rfl, Kp.refl _ _⟩
  case round =>
    obtain ⟨j, hk, hj, rfl, hkp⟩ := hrel
    have HKk := Lib.hid hk; have HKP := Lib.hid hkp; clear hk hkp
    by_cases hlt : j < L.length
    · obtain ⟨b1, o1, rfl, _, h1⟩ := HA.out.keep HKP.out (fun _ _ _ _ h => h) j hlt
      obtain ⟨b2, o2, rfl, _, h2⟩ := HB.out.keep HKP.out (fun _ _ _ _ h => h) j hlt
      obtain ⟨y, hy⟩ : ∃ y, y = L.getD j ByteArray.empty := ⟨_, rfl⟩
      have g1 : wr.cell? ⟨b1, o1 + j, none⟩ = some (.string (L.getD j ByteArray.empty)) := h1
      have g2 : wr.cell? ⟨b2, o2 + j, none⟩ = some (.string (L.getD j ByteArray.empty)) := h2
      rw [← hy] at g1 g2
      clear h1 h2 hy
      have hyy : (y.toList == y.toList) = true := by simp
      go_wp2_with fail
      go_quiet (fail)
      go_wp2_with fail
      go_roundg (L.length - (j + 1))
      case measure => rw [HKk.out]; omega
      case rel => exact ⟨j + 1, rfl, by omega, by go_num, HKP.out.trans ((Kp.refl _ _).drewN _)⟩
    · go_wp2_with fail
      go_ret
      exact ⟨rfl, HKP.out⟩

/-- what is known of a ring of one's own -/
structure RI (W w : World) (p : Nat) (v : Value) (L : List ByteArray) : Prop where
  rg : RgAt w p v L
  p0 : W.heap.size ≤ p
  v0 : ∀ k, v.ownBlock = some k → W.heap.size ≤ k
  kp : Kp (fun _ => False) W w
theorem RI.calm {W w w1 : World} {p : Nat} {v : Value} {L : List ByteArray} (h : RI W w p v L) (hk : Kp (fun _ => False) w w1) : RI W w1 p v L :=
  ⟨h.rg.keep hk (fun h => h) (fun _ _ h => h), h.p0, h.v0, h.kp.trans hk⟩
theorem RI.next {W w w1 : World} {p : Nat} {v v' : Value} {L L' : List ByteArray} (h : RI W w p v L) (hr : RgAt w1 p v' L') (hs : SameOrNew w v v') (hk : Kp (fun k => k = p ∨ In v k) w w1) : RI W w1 p v' L' := by
  refine ⟨hr, h.p0, fun k hk' => ?_, h.kp.trans_new hk (fun k h1 h2 => ?_)⟩
  · rcases hs with hs | hs
    · exact h.v0 k (hs ▸ hk')
    · exact Nat.le_trans h.kp.size (hs k hk')
  · rcases h2 with h2 | h2
    · have := h.p0; omega
    · have := h.v0 k h2; omega
theorem RI.new (W w : World) (hk : Kp (fun _ => False) W w) : RI W (w.alloc (.cells #[.slice none 0 0] 26)) w.heap.size (.slice none 0 0) [] :=
  ⟨⟨heap_new _, Own.nil _ _ _, by simp [Value.ownBlock]⟩, hk.size, fun k hk' => by simp [Value.ownBlock] at hk', hk.alloc _⟩

theorem SRd.lit2 {w : World} (x y : ByteArray) : SRd (w.alloc (.cells #[.string x, .string y] 9)) (some ⟨w.heap.size, 0, none⟩) [x, y] := by
  intro i hi
  refine ⟨w.heap.size, 0, rfl, by simp, ?_⟩
  rw [cell_of (heap_new _)]
  match i, hi with
  | 0, _ => rfl
  | 1, _ => rfl

set_option maxRecDepth 100000 in
theorem r21ans_any (w : World) : Calls Try.prog 13 #[] w fun e w' => e = .returned (.bool true) ∧ Kp (fun _ => False) w w' := by
  have H0 := Lib.hid (RI.new w w (Kp.refl _ _))
  go_enter Try.func13, Try.ntmps13
  go_wp2_with fail
  refine (radd_any w.heap.size _ [] (⟨#[97]⟩ : ByteArray) _ H0.out.rg (by decide) (by decide)).mono ?_; rintro e w1 ⟨rfl, ⟨v1, hr, hs⟩, hk⟩
  have H1 := Lib.hid (show RI w w1 w.heap.size v1 [(⟨#[97]⟩ : ByteArray)] from H0.out.next hr hs hk); clear hr hs hk
  go_wp2_with fail
  refine (radd_any w.heap.size _ [(⟨#[97]⟩ : ByteArray)] (⟨#[98]⟩ : ByteArray) _ H1.out.rg (by decide) (by decide)).mono ?_; rintro e w2 ⟨rfl, ⟨v2, hr, hs⟩, hk⟩
  have H2 := Lib.hid (show RI w w2 w.heap.size v2 [(⟨#[97]⟩ : ByteArray), (⟨#[98]⟩ : ByteArray)] from H1.out.next hr hs hk); clear hr hs hk
  have H2a := Lib.hid (H2.out.calm ((Kp.refl _ _).alloc (.cells #[.string (⟨#[98]⟩ : ByteArray), .string (⟨#[97]⟩ : ByteArray)] 9)))
  go_wp2_with fail
  refine (rnext_any w.heap.size _ [(⟨#[97]⟩ : ByteArray), (⟨#[98]⟩ : ByteArray)] [(⟨#[98]⟩ : ByteArray), (⟨#[97]⟩ : ByteArray)] _ 2 0 _ H2a.out.rg (SRd.lit2 _ _) (by decide) (by decide) (by decide) (by decide)).mono ?_; rintro e w3 ⟨rfl, ⟨v3, hr, hs⟩, hk⟩
  have H3 := Lib.hid (show RI w w3 w.heap.size v3 [(⟨#[98]⟩ : ByteArray), (⟨#[97]⟩ : ByteArray)] from H2a.out.next hr hs hk); clear hr hs hk
  have H3a := Lib.hid (H3.out.calm ((Kp.refl _ _).alloc (.cells #[.string (⟨#[97]⟩ : ByteArray), .string (⟨#[98]⟩ : ByteArray)] 9)))
  go_wp2_with fail
  refine (rnext_any w.heap.size _ [(⟨#[98]⟩ : ByteArray), (⟨#[97]⟩ : ByteArray)] [(⟨#[97]⟩ : ByteArray), (⟨#[98]⟩ : ByteArray)] _ 2 0 _ H3a.out.rg (SRd.lit2 _ _) (by decide) (by decide) (by decide) (by decide)).mono ?_; rintro e w4 ⟨rfl, ⟨v4, hr, hs⟩, hk⟩
  have H4 := Lib.hid (show RI w w4 w.heap.size v4 [(⟨#[97]⟩ : ByteArray), (⟨#[98]⟩ : ByteArray)] from H3a.out.next hr hs hk); clear hr hs hk
  go_wp2_with fail
  refine (radd_no w.heap.size _ [(⟨#[97]⟩ : ByteArray), (⟨#[98]⟩ : ByteArray)] (⟨#[97]⟩ : ByteArray) _ H4.out.rg (by decide) (by decide)).mono ?_; rintro e w5 ⟨rfl, rfl⟩
  go_wp2_with fail
  refine (rdrop_any w.heap.size _ [(⟨#[97]⟩ : ByteArray), (⟨#[98]⟩ : ByteArray)] (⟨#[98]⟩ : ByteArray) _ H4.out.rg (by decide) (by decide)).mono ?_; rintro e w6 ⟨rfl, ⟨v6, hr, hs⟩, hk⟩
  have H6 := Lib.hid (show RI w w6 w.heap.size v6 [(⟨#[97]⟩ : ByteArray)] from H4.out.next hr (Or.inl hs) hk); clear hr hs hk
  go_wp2_with fail
  refine (rnames_any w.heap.size _ [(⟨#[97]⟩ : ByteArray)] _ H6.out.rg (by decide)).mono ?_; rintro e w7 ⟨v7, rfl, ho, hk7⟩
  obtain ⟨a7, c7, rfl⟩ := (own_weaken ho).slice
  have HK7 := Lib.hid (H6.out.kp.trans hk7)
  go_wp2_with fail
  go_ret
  exact ⟨rfl, HK7.out⟩
end Go.Proofs.Ytbiahndpfbmoeaa
