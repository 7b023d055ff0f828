/- What a Reader of package word does. Condition: its bytes are bytes. -/
import Derived.Test.YtihndplkkpglcaaWord2
namespace Go.Proofs.Ytihndplkkpglcaa
open Go.RowKit

/-- block r is a reader; the bytes that are left lie in block g, from o on -/
structure RdAt (w : World) (r g o cap : Nat) (bad : Bool) (L : List Int) : Prop where
  head : w.heap[r]? = some (.cells #[.slice (some ⟨g, o, none⟩) L.length cap, .bool bad] 77 (0, 0))
  cell : ∀ j, j < L.length → w.cell? ⟨g, o + j, none⟩ = some (.int .u8 (L.getD j 0))
  fit : L.length ≤ cap
  apart : g ≠ r
theorem RdAt.keep {S : Nat → Prop} {w w' : World} {r g o cap : Nat} {b : Bool} {L : List Int} (h : RdAt w r g o cap b L) (hk : Kp S w w') (hr : ¬ S r) (hg : L ≠ [] → ¬ S g) : RdAt w' r g o cap b L := by
  refine ⟨hk.keep h.head hr, fun j hj => ?_, h.fit, h.apart⟩
  have hc := h.cell j hj
  exact (hk.cell _ (cell_lt hc) (hg (by intro e; subst e; simp at hj))).trans hc

theorem rtake_none (n : Int) (w : World) : Calls Try.prog 45 #[.pointer none, .int .i64 n] w fun e w' => e = .returned (.tuple #[.slice none 0 0, .bool false]) ∧ w = w' := by
  go_enter Try.func45, Try.ntmps45
  go_wp2
  go_ret2
  exact ⟨rfl, rfl⟩

theorem RdAt.spoil {w : World} {r g o cap : Nat} {b : Bool} {L : List Int} (h : RdAt w r g o cap b L) : RdAt (w.setCell ⟨r, 1, none⟩ (.bool true)) r g o cap true L := by
  refine ⟨heap_set h.head _, fun j hj => ?_, h.fit, h.apart⟩
  have hk := (Kp.refl (· = r) w).setCell ⟨r, 1, none⟩ (.bool true) (Or.inl rfl)
  exact (hk.cell _ (cell_lt (h.cell j hj)) (fun e => h.apart e)).trans (h.cell j hj)

theorem rtake_no (r g o cap : Nat) (b : Bool) (L : List Int) (n : Int) (w : World) (hr : RdAt w r g o cap b L) (hn : b = true ∨ (L.length : Int) < n) :
    Calls Try.prog 45 #[.pointer (some ⟨r, 0, none⟩), .int .i64 n] w fun e w' => e = .returned (.tuple #[.slice none 0 0, .bool false]) ∧ RdAt w' r g o cap true L ∧ Kp (· = r) w w' := by
  have c0 := cell_of hr.head 0
  have c1 := cell_of hr.head 1
  simp only [List.getElem?_toArray, List.getElem?_cons_zero, List.getElem?_cons_succ] at c0 c1
  have f1 := frozen_of hr.head 1
  have HF := Lib.hid hr.spoil; clear hr
  cases b with
  | true =>
    clear hn
    go_enter Try.func45, Try.ntmps45
    go_wp2
    go_ret2
    exact ⟨rfl, HF.out, (by repeat (first | exact Kp.refl _ _ | apply Kp.drew | apply Kp.drewN | refine Kp.setCell ?_ _ _ (Or.inl rfl) | apply Kp.alloc))⟩
  | false =>
    have hn : (L.length : Int) < n := by simpa using hn
    go_enter Try.func45, Try.ntmps45
    go_wp2
    go_ret2
    exact ⟨rfl, HF.out, (by repeat (first | exact Kp.refl _ _ | apply Kp.drew | apply Kp.drewN | refine Kp.setCell ?_ _ _ (Or.inl rfl) | apply Kp.alloc))⟩

/-- what is taken, and what is left -/
def Took (r g cap n : Nat) (L : List Int) (o : Nat) (w : World) (e : Ending) (w' : World) : Prop :=
  e = .returned (.tuple #[.slice (some ⟨g, o, none⟩) n n, .bool true]) ∧ (∃ o', RdAt w' r g o' (cap - n) false (L.drop n) ∧ (L.drop n = [] ∨ o' = o + n)) ∧ Kp (· = r) w w'

theorem rtake_any (r g o cap : Nat) (L : List Int) (n : Nat) (w : World) (hr : RdAt w r g o cap false L) (hn : n ≤ L.length) :
    Calls Try.prog 45 #[.pointer (some ⟨r, 0, none⟩), .int .i64 n] w (Took r g cap n L o w) := by
  have c0 := cell_of hr.head 0
  have c1 := cell_of hr.head 1
  simp only [List.getElem?_toArray, List.getElem?_cons_zero, List.getElem?_cons_succ] at c0 c1
  have f0 := frozen_of hr.head 0
  have hfit := hr.fit
  have HR := Lib.hid hr; clear hr
  have hk := (fun (v : Value) => (Kp.refl (· = r) w).setCell ⟨r, 0, none⟩ v (Or.inl rfl))
  have HD := Lib.hid (List.length_drop (i := n) (l := L))
  by_cases hc : cap = n
  · subst hc
    have hl : L.length = cap := by omega
    have HF := Lib.hid (show RdAt (w.setCell ⟨r, 0, none⟩ (.slice (some ⟨g, o, none⟩) 0 0)) r g o 0 false [] from
      ⟨heap_set HR.out.head _, fun j hj => by simp at hj, Nat.le_refl _, HR.out.apart⟩)
    have HE := Lib.hid (show L.drop cap = [] from List.drop_eq_nil_of_le (by omega))
    clear hk
    go_enter Try.func45, Try.ntmps45
    go_wp2
    go_ret2
    exact ⟨rfl, ⟨o, by rw [HE.out, Nat.sub_self]; exact HF.out, Or.inl HE.out⟩, (by repeat (first | exact Kp.refl _ _ | apply Kp.drew | apply Kp.drewN | refine Kp.setCell ?_ _ _ (Or.inl rfl) | apply Kp.alloc))⟩
  · have HF := Lib.hid (show RdAt (w.setCell ⟨r, 0, none⟩ (.slice (some ⟨g, o + n, none⟩) (L.length - n) (cap - n))) r g (o + n) (cap - n) false (L.drop n) from
      ⟨by rw [HD.out]; exact heap_set HR.out.head _, fun j hj => by
        rw [HD.out] at hj
        have hcl := HR.out.cell (n + j) (by omega)
        rw [show o + n + j = o + (n + j) by omega]
        refine ((hk _).cell _ (cell_lt hcl) (fun e => HR.out.apart e)).trans ?_
        rw [hcl]
        simp [List.getD, List.getElem?_drop], by rw [HD.out]; omega, HR.out.apart⟩)
    clear hk
    go_enter Try.func45, Try.ntmps45
    go_wp2
    go_ret2
    exact ⟨rfl, ⟨o + n, HF.out, Or.inr rfl⟩, (by repeat (first | exact Kp.refl _ _ | apply Kp.drew | apply Kp.drewN | refine Kp.setCell ?_ _ _ (Or.inl rfl) | apply Kp.alloc))⟩

/-- bytes are bytes -/
def Byt (L : List Int) : Prop := ∀ z ∈ L, 0 ≤ z ∧ z ≤ 255
theorem Byt.drop {L : List Int} (h : Byt L) (n : Nat) : Byt (L.drop n) := fun z hz => h z (List.mem_of_mem_drop hz)
theorem Byt.take {L : List Int} (h : Byt L) (n : Nat) : Byt (L.take n) := fun z hz => h z (List.mem_of_mem_take hz)
/-- the number of bytes -/
def dec (L : List Int) : Int := L.foldl (fun n x => n * 256 + x) 0
theorem dec_snoc (L : List Int) (x : Int) : dec (L ++ [x]) = dec L * 256 + x := by simp [dec]
theorem dec_bounds {L : List Int} (h : Byt L) : 0 ≤ dec L ∧ dec L < 256 ^ L.length := by
  suffices H : ∀ (n : Nat) (M : List Int), M.length = n → Byt M → 0 ≤ dec M ∧ dec M < 256 ^ n from H _ L rfl h
  intro n
  induction n with
  | zero => intro M hM _; have : M = [] := List.eq_nil_of_length_eq_zero hM; subst this; simp [dec]
  | succ n ih =>
    intro M hM hb
    have hne : M ≠ [] := by intro e; subst e; simp at hM
    have e := List.dropLast_concat_getLast hne
    have h1 := ih M.dropLast (by rw [List.length_dropLast]; omega) (fun z hz => hb z (List.dropLast_subset M hz))
    have h2 := hb (M.getLast hne) (List.getLast_mem hne)
    rw [← e, dec_snoc, Int.pow_succ]
    omega

theorem or_byte {d x : Int} (h0 : 0 ≤ d) (h1 : d < 72057594037927936) (x0 : 0 ≤ x) (x1 : x ≤ 255) : bits BinOp.or IntKind.u64 (d * 256) x = d * 256 + x := by
  obtain ⟨a, rfl⟩ := Int.eq_ofNat_of_zero_le h0
  obtain ⟨b, rfl⟩ := Int.eq_ofNat_of_zero_le x0
  have h := bits_or_u64_nat (a * 256) b (by omega) (by omega)
  have e : ((a * 256 : Nat) : Int) = (a : Int) * 256 := by omega
  rw [e] at h
  rw [h]
  have h3 := Nat.shiftLeft_add_eq_or_of_lt (i := 8) (b := b) (by omega) a
  rw [Nat.shiftLeft_eq] at h3
  have h4 : a * 256 ||| b = a * 256 + b := h3.symm
  rw [h4, Int.natCast_add, Int.natCast_mul]
  rfl
/-- what Num hands back, and what is left -/
def Numd (r g o cap : Nat) (L : List Int) (w : World) (e : Ending) (w' : World) : Prop :=
  (if dec (L.take 8) ≤ 4611686018427387904 then e = .returned (.tuple #[.int .i64 (dec (L.take 8)), .bool true]) ∧ ∃ o', RdAt w' r g o' (cap - 8) false (L.drop 8) ∧ (L.drop 8 = [] ∨ o' = o + 8)
    else e = .returned (.tuple #[.int .i64 0, .bool false]) ∧ ∃ o', RdAt w' r g o' (cap - 8) true (L.drop 8)) ∧ Kp (· = r) w w'
theorem rnum_none (w : World) : Calls Try.prog 37 #[.pointer none] w fun e w' => e = .returned (.tuple #[.int .i64 0, .bool false]) ∧ w = w' := by
  go_enter Try.func37, Try.ntmps37
  go_wp2_with (go_at_call 45; refine (rtake_none _ _).mono ?_; rintro e w' ⟨rfl, rfl⟩)
  go_ret2
  exact ⟨rfl, rfl⟩

theorem rnum_no (r g o cap : Nat) (b : Bool) (L : List Int) (w : World) (hr : RdAt w r g o cap b L) (hn : b = true ∨ L.length < 8) :
    Calls Try.prog 37 #[.pointer (some ⟨r, 0, none⟩)] w fun e w' => e = .returned (.tuple #[.int .i64 0, .bool false]) ∧ RdAt w' r g o cap true L ∧ Kp (· = r) w w' := by
  have HR := Lib.hid hr; have HN := Lib.hid (show b = true ∨ (L.length : Int) < 8 from hn.imp id (fun h => by omega)); clear hr hn
  go_enter Try.func37, Try.ntmps37
  go_wp2_with fail
  refine (rtake_no r g o cap b L 8 _ HR.out HN.out).mono ?_; rintro e w1 ⟨rfl, hr1, hk⟩
  have HR1 := Lib.hid hr1; clear hr1
  go_wp2_with fail
  go_ret2
  exact ⟨rfl, HR1.out, hk⟩

set_option maxHeartbeats 800000 in
theorem rnum_any (r g o cap : Nat) (L : List Int) (w : World) (hr : RdAt w r g o cap false L) (hn : 8 ≤ L.length) (hb : Byt L) :
    Calls Try.prog 37 #[.pointer (some ⟨r, 0, none⟩)] w (Numd r g o cap L w) := by
  have HR := Lib.hid hr; have HB := Lib.hid hb; clear hr hb
  go_enter Try.func37, Try.ntmps37
  go_wp2_with fail
  refine (rtake_any r g o cap L 8 _ HR.out hn).mono ?_; rintro e w1 ⟨rfl, ⟨o', hr1, ho⟩, hk⟩
  have HR1 := Lib.hid hr1; have HK := Lib.hid hk; have HO := Lib.hid ho; clear hr1 hk ho
  go_wp2_with fail
  go_loopg [6, 18] 8 (fun k n i wr => ∃ (j : Nat) (d : Int), k = 8 - j ∧ j ≤ 8 ∧ i = .int .i64 j ∧ n = .int .u64 d ∧ Hid (d = dec (L.take j)) ∧ wr = w1)
  case atStart => exact ⟨0, 0, rfl, by omega, rfl, rfl, Lib.hid rfl, rfl⟩
  case round =>
    obtain ⟨j, d, hk, hj, rfl, rfl, hd, rfl⟩ := hrel
    have HKk := Lib.hid hk; clear hk
    by_cases hlt : j < 8
    · have hc := (HK.out.cell (o + j) (cell_lt (HR.out.cell j (by omega))) (fun e => HR.out.apart e)).trans (HR.out.cell j (by omega))
      obtain ⟨x, hx⟩ : ∃ x, x = L.getD j 0 := ⟨_, rfl⟩
      rw [← hx] at hc
      have HX := Lib.hid hx; clear hx
      have xb : 0 ≤ x ∧ x ≤ 255 := by
        rw [HX.out]
        have : L.getD j 0 = L[j] := by simp [List.getD, show j < L.length by omega]
        rw [this]
        exact HB.out _ (List.getElem_mem _)
      obtain ⟨x0, x1⟩ := xb
      have db := dec_bounds (HB.out.take j)
      rw [← hd.out, List.length_take, Nat.min_eq_left (by omega)] at db
      obtain ⟨d0, d1⟩ := db
      have d2 : d < 72057594037927936 := by
        have : (256 : Int) ^ j ≤ 256 ^ 7 := by
          match j, hlt with
          | 0, _ => decide
          | 1, _ => decide
          | 2, _ => decide
          | 3, _ => decide
          | 4, _ => decide
          | 5, _ => decide
          | 6, _ => decide
          | 7, _ => decide
        have e : (256 : Int) ^ 7 = 72057594037927936 := by decide
        omega
      clear d1
      have hor := or_byte d0 d2 x0 x1
      have HN := Lib.hid (show d * 256 + x = dec (L.take (j + 1)) by
        rw [List.take_succ_eq_append_getElem (show j < L.length by omega), dec_snoc, ← hd.out, HX.out]
        simp [List.getD, show j < L.length by omega])
      go_wp2_with fail
      go_roundg (8 - (j + 1))
      case measure => rw [HKk.out]; omega
      case rel => exact ⟨j + 1, d * 256 + x, rfl, by omega, by go_num, rfl, HN, rfl⟩
    · obtain rfl : j = 8 := by omega
      have db := dec_bounds (HB.out.take 8)
      rw [← hd.out] at db
      have d0 := db.1
      by_cases hbig : 4611686018427387904 < d
      · have c1 := cell_of HR1.out.head 1
        simp only [List.getElem?_toArray, List.getElem?_cons_zero, List.getElem?_cons_succ] at c1
        have f1 := frozen_of HR1.out.head 1
        have HS := Lib.hid HR1.out.spoil
        clear db
        go_wp2_with fail
        go_ret2
        unfold Numd
        rw [if_neg (by rw [← hd.out]; omega)]
        exact ⟨⟨rfl, o', HS.out⟩, HK.out.setCell _ _ (Or.inl rfl)⟩
      · clear db
        go_wp2_with fail
        go_ret2
        unfold Numd
        rw [if_pos (by rw [← hd.out]; omega)]
        exact ⟨⟨by rw [← hd.out]; rfl, o', HR1.out, HO.out⟩, HK.out⟩
end Go.Proofs.Ytihndplkkpglcaa
