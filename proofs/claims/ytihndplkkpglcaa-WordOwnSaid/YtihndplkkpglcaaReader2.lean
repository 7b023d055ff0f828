/- What a Reader of package word does, the rest. Condition: its bytes are bytes, and no more than fit into memory. -/
import Derived.Test.YtihndplkkpglcaaReader
import Derived.Laws.CopyOwn
namespace Go.Proofs.Ytihndplkkpglcaa
open Go.RowKit

theorem rbytes_none (w : World) : Calls Try.prog 39 #[.pointer none] w fun e w' => e = .returned (.tuple #[.slice none 0 0, .bool false]) ∧ w = w' := by
  go_enter Try.func39, Try.ntmps39
  go_wp2_with (go_at_call 37; refine (rnum_none _).mono ?_; rintro e w' ⟨rfl, rfl⟩)
  go_ret2
  exact ⟨rfl, rfl⟩

/-- may bytes be read? -/
def Rok (L : List Int) : Prop := 8 ≤ L.length ∧ dec (L.take 8) ≤ 4611686018427387904 ∧ dec (L.take 8) ≤ (L.length : Int) - 8
/-- the bytes that are read, and what is left -/
def Bred (r g cap n : Nat) (L : List Int) (w : World) (e : Ending) (w' : World) : Prop :=
  ∃ o1 o2, e = .returned (.tuple #[.slice (some ⟨g, o1, none⟩) n n, .bool true]) ∧ (∀ j, j < n → w'.cell? ⟨g, o1 + j, none⟩ = some (.int .u8 (((L.drop 8).take n).getD j 0))) ∧ RdAt w' r g o2 (cap - 8 - n) false (L.drop (8 + n)) ∧ Kp (· = r) w w'

theorem rbytes_any (r g o cap n : Nat) (L : List Int) (w : World) (hr : RdAt w r g o cap false L) (hb : Byt L) (hok : Rok L) (hn : dec (L.take 8) = n) :
    Calls Try.prog 39 #[.pointer (some ⟨r, 0, none⟩)] w (Bred r g cap n L w) := by
  obtain ⟨h8, h62, hfit⟩ := hok
  have HR := Lib.hid hr; have HB := Lib.hid hb; have HN := Lib.hid hn; have H62 := Lib.hid h62
  rw [hn] at hfit
  clear hr hb hn h62
  go_enter Try.func39, Try.ntmps39
  go_wp2_with fail
  refine (rnum_any r g o cap L _ HR.out h8 HB.out).mono ?_; rintro e w1 ⟨hd, hk⟩
  rw [if_pos H62.out, HN.out] at hd
  obtain ⟨rfl, o1, hr1, _⟩ := hd
  have HR1 := Lib.hid hr1; have HK := Lib.hid hk; clear hr1 hk
  go_wp2_with fail
  have hl := List.length_drop (i := 8) (l := L)
  refine (rtake_any r g o1 (cap - 8) (L.drop 8) n _ HR1.out (by omega)).mono ?_; rintro e w2 ⟨rfl, ⟨o2, hr2, _⟩, hk2⟩
  have HR2 := Lib.hid hr2; have HK2 := Lib.hid hk2; have HL := Lib.hid hl; clear hr2 hk2 hl
  go_wp2_with fail
  go_ret2
  refine ⟨o1, o2, rfl, fun j hj => ?_, by have := HR2.out; rwa [List.drop_drop] at this, HK.out.trans HK2.out⟩
  have hc := HR1.out.cell j (by rw [HL.out]; omega)
  refine ((HK2.out.cell _ (cell_lt hc) (fun e => HR1.out.apart e)).trans hc).trans ?_
  congr 2
  simp [List.getD, hj]

theorem rbytes_no (r g o cap : Nat) (b : Bool) (L : List Int) (w : World) (hr : RdAt w r g o cap b L) (hb : Byt L) (hok : b = true ∨ ¬ Rok L) :
    Calls Try.prog 39 #[.pointer (some ⟨r, 0, none⟩)] w fun e w' => e = .returned (.tuple #[.slice none 0 0, .bool false]) ∧ (∃ o' cap' L', RdAt w' r g o' cap' true L' ∧ Byt L' ∧ cap' ≤ cap) ∧ Kp (· = r) w w' := by
  have HR := Lib.hid hr; have HB := Lib.hid hb; clear hr hb
  by_cases h1 : b = true ∨ L.length < 8
  · have H1 := Lib.hid h1; clear hok h1
    go_enter Try.func39, Try.ntmps39
    go_wp2_with fail
    refine (rnum_no r g o cap b L _ HR.out H1.out).mono ?_; rintro e w1 ⟨rfl, hr1, hk⟩
    have HR1 := Lib.hid hr1; clear hr1
    go_wp2_with fail
    go_ret2
    exact ⟨rfl, ⟨o, cap, L, HR1.out, HB.out, Nat.le_refl _⟩, hk⟩
  · obtain rfl : b = false := by cases b with | false => rfl | true => exact absurd (Or.inl rfl) h1
    have h8 : 8 ≤ L.length := by omega
    have hnr : ¬ Rok L := by simpa using hok
    have db := dec_bounds (HB.out.take 8)
    by_cases h62 : dec (L.take 8) ≤ 4611686018427387904
    · have hbig : (L.length : Int) - 8 < dec (L.take 8) := by unfold Rok at hnr; omega
      obtain ⟨n, hn⟩ : ∃ n, n = dec (L.take 8) := ⟨_, rfl⟩
      rw [← hn] at hbig h62
      have HN := Lib.hid hn; have H62 := Lib.hid h62
      clear hok hnr db h1 hn h62
      go_enter Try.func39, Try.ntmps39
      go_wp2_with fail
      refine (rnum_any r g o cap L _ HR.out h8 HB.out).mono ?_; rintro e w1 ⟨hd, hk⟩
      rw [← HN.out, if_pos H62.out] at hd
      obtain ⟨rfl, o1, hr1, _⟩ := hd
      have HR1 := Lib.hid hr1; have HK := Lib.hid hk; clear hr1 hk
      go_wp2_with fail
      have hl := List.length_drop (i := 8) (l := L)
      refine (rtake_no r g o1 (cap - 8) false (L.drop 8) n _ HR1.out (Or.inr (by omega))).mono ?_; rintro e w2 ⟨rfl, hr2, hk2⟩
      have HR2 := Lib.hid hr2; have HK2 := Lib.hid hk2; clear hr2 hk2 hl
      go_wp2_with fail
      go_ret2
      exact ⟨rfl, ⟨o1, cap - 8, _, HR2.out, HB.out.drop 8, by omega⟩, HK.out.trans HK2.out⟩
    · have H62 := Lib.hid h62
      clear hok hnr db h1 h62
      go_enter Try.func39, Try.ntmps39
      go_wp2_with fail
      refine (rnum_any r g o cap L _ HR.out h8 HB.out).mono ?_; rintro e w1 ⟨hd, hk⟩
      rw [if_neg (by have := H62.out; omega)] at hd
      obtain ⟨rfl, o1, hr1⟩ := hd
      have HR1 := Lib.hid hr1; have HK := Lib.hid hk; clear hr1 hk
      go_wp2_with fail
      go_ret2
      exact ⟨rfl, ⟨o1, cap - 8, _, HR1.out, HB.out.drop 8, by omega⟩, HK.out⟩

/-- was all read, and nothing amiss? -/
def Dn (b : Bool) (L : List Int) : Bool := !b && L.isEmpty
theorem rdone_none (w : World) : Calls Try.prog 41 #[.pointer none] w fun e w' => e = .returned (.bool false) ∧ w = w' := by
  go_enter Try.func41, Try.ntmps41
  go_wp2
  go_ret
  exact ⟨rfl, rfl⟩
theorem rdone_any (r g o cap : Nat) (b : Bool) (L : List Int) (w : World) (hr : RdAt w r g o cap b L) : Calls Try.prog 41 #[.pointer (some ⟨r, 0, none⟩)] w fun e w' => e = .returned (.bool (Dn b L)) ∧ w = w' := by
  have c0 := cell_of hr.head 0
  have c1 := cell_of hr.head 1
  simp only [List.getElem?_toArray, List.getElem?_cons_zero, List.getElem?_cons_succ] at c0 c1
  clear hr
  cases b with
  | true =>
    have H := Lib.hid (show false = Dn true L from rfl)
    go_enter Try.func41, Try.ntmps41
    go_wp2
    go_ret
    exact ⟨by rw [← H.out]; rfl, rfl⟩
  | false =>
    have H := Lib.hid (show ((L.length : Int) == 0) = Dn false L by cases L with | nil => rfl | cons a l => simp [Dn]; omega)
    go_enter Try.func41, Try.ntmps41
    go_wp2
    go_ret
    exact ⟨by rw [← H.out]; rfl, rfl⟩

theorem made_row {w w1 : World} {e : TypeId} {n : Nat} {xs : List Value} (h : w1.ownsRow w.heap.size e 1 (.slice (some ⟨w.heap.size, 0, none⟩) n n) n xs) : ∃ cur, w1.heap[w.heap.size]? = some (.cells cur e (0, 0)) ∧ cur.size = n := by
  rcases h.2 with ⟨h0, _⟩ | ⟨g, cap, cur, he, _, hh, _, _, hsz, _⟩
  · cases h0
  · simp only [Value.slice.injEq, Option.some.injEq, Addr.mk.injEq, and_true, true_and] at he
    obtain ⟨rfl, rfl⟩ := he
    exact ⟨cur, hh, by simpa using hsz⟩
/-- a new reader of these bytes -/
def Rnew (L : List Int) (w : World) (e : Ending) (w' : World) : Prop := ∃ r g, e = .returned (.pointer (some ⟨r, 0, none⟩)) ∧ w.heap.size ≤ r ∧ w.heap.size ≤ g ∧ RdAt w' r g 0 L.length false L ∧ Kp (fun _ => False) w w'
theorem u8_size : (Try.prog.info? 5).map (·.size) = some 1 := by kernel_rfl

set_option maxHeartbeats 800000 in
theorem read_any (bo : Option Addr) (c : Nat) (L : List Int) (w : World) (hs : Src w bo c L) (hL : L.length ≤ 1000000) :
    Calls Try.prog 36 #[.slice bo L.length c] w (Rnew L w) := by
  obtain ⟨i0, hi, hz0, hz1, hz2⟩ := info_parts u8_info
  have HS := Lib.hid hs; clear hs
  by_cases hne : L = []
  · subst hne
    go_enter Try.func36, Try.ntmps36
    go_wp2_with (first | (refine wpList_make_full _ rfl _ _ 22 rfl w.heap.size 5 i0 _ 1 Try.underlying22 hi hz0 hz1 _ _ _ _ 0 rfl rfl rfl rfl (by rw [hz2]; omega) (by unfold maxLen; omega) (Nat.le_refl _) ?_; intro w1 hown hgrow; have HO := Lib.hid hown; have HG := Lib.hid hgrow; clear hown hgrow) | (with_reducible refine wpList_copy_nothing rfl _ _ _ _ rfl 5 Try.underlying22 u8_size _ _ _ _ _ _ rfl rfl rfl ?_))
    go_ret
    have hlt : w.heap.size < w1.heap.size := HO.out.lt w.heap.size (by simp [Value.ownBlock]) |>.2
    refine ⟨w1.heap.size, w.heap.size, rfl, HG.out.size, Nat.le_refl _, ⟨heap_new _, fun j hj => by simp at hj, Nat.le_refl _, by omega⟩, ?_⟩
    exact ((Kp.of_grown HG.out).mono (fun k _ hk => by cases hk)).trans ((Kp.refl _ w1).alloc _)
  · obtain ⟨ad, rfl⟩ : ∃ ad, bo = some ad := by
      cases bo with
      | none => exact absurd (HS.out.1 rfl).1 hne
      | some ad => exact ⟨ad, rfl⟩
    go_enter Try.func36, Try.ntmps36
    go_wp2_with (first | (refine wpList_make_full _ rfl _ _ 22 rfl w.heap.size 5 i0 _ 1 Try.underlying22 hi hz0 hz1 _ _ _ _ L.length rfl rfl rfl rfl (by rw [hz2]; omega) (by unfold maxLen; omega) (Nat.le_refl _) ?_; intro w1 hown hgrow; obtain ⟨cur, hh, hsz⟩ := made_row hown; have HG := Lib.hid hgrow; have hkw : Kp (fun _ => False) w w1 := (Kp.of_grown hgrow).mono (fun k _ hk => by cases hk); have HH := Lib.hid (heap_old (.cells #[.slice (some ⟨w.heap.size, 0, none⟩) L.length L.length, .bool false] 77) hh); have HSR := Lib.hid (clone_news (.cells #[.slice (some ⟨w.heap.size, 0, none⟩) L.length L.length, .bool false] 77) ((HS.out.keep hkw (fun _ _ _ h => h)).2 ad rfl)); have hlt := lt_of_block hh; have HSZ := Lib.hid hsz; have HKW := Lib.hid hkw; clear hown hgrow hh hsz hkw) | (with_reducible refine wpList_copy_own rfl _ _ _ _ rfl 5 Try.underlying22 u8_size w.heap.size 0 L.length L.length ad L.length c rfl rfl cur 5 HH.out (Bc L) (by rw [Bc_len]; exact (Nat.min_self _).symm) HSR.out (by rw [Bc_len, HSZ.out]; omega) (Bc_one L) ?_))
    go_ret
    have e : Bc L ++ List.drop (Bc L).length cur.toList = Bc L := by
      rw [List.drop_eq_nil_of_le (by rw [Bc_len, Array.length_toList, HSZ.out]; omega), List.append_nil]
    have hro : ∀ k, k ≠ w.heap.size → ((w1.alloc (.cells #[.slice (some ⟨w.heap.size, 0, none⟩) L.length L.length, .bool false] 77)).setRow w.heap.size (Bc L).toArray).heap[k]? = (w1.alloc (.cells #[.slice (some ⟨w.heap.size, 0, none⟩) L.length L.length, .bool false] 77)).heap[k]? := fun k hk => setRow_other _ _ _ _ hk
    have hw : Rnew L w (.returned (.pointer (some ⟨w1.heap.size, 0, none⟩))) ((w1.alloc (.cells #[.slice (some ⟨w.heap.size, 0, none⟩) L.length L.length, .bool false] 77)).setRow w.heap.size (Bc L).toArray) := by
      refine ⟨w1.heap.size, w.heap.size, rfl, HG.out.size, Nat.le_refl _, ⟨(hro _ (by omega)).trans (heap_new _), fun j hj => ?_, Nat.le_refl _, by omega⟩, ?_⟩
      · rw [cell_setRow_same _ _ _ _ _ _ _ HH.out, Nat.zero_add]
        simp [Bc, List.getElem?_eq_getElem hj, List.getD]
      · have h1 := HKW.out.alloc (.cells #[.slice (some ⟨w.heap.size, 0, none⟩) L.length L.length, .bool false] 77)
        exact ⟨h1.os, h1.tape, h1.output, by simpa using h1.size, fun k hk hs => (hro k (by omega)).trans (h1.block k hk hs)⟩
    rw [e]
    exact hw
end Go.Proofs.Ytihndplkkpglcaa
