/- What the reference's numbers, bytes and Eye do. Condition: numbers that may be written; bytes are bytes. -/
import Derived.Test.YtihndplkkpglcaaWordRef
import Derived.Test.YtihndplkkpglcaaOpen
namespace Go.Proofs.Ytihndplkkpglcaa
open Go.RowKit

theorem may_any (n : Int) (w : World) : Calls Try.prog 31 #[.int .i64 n] w fun e w' => e = .returned (.bool (May n)) ∧ w = w' := by
  by_cases h0 : 0 ≤ n
  · by_cases h1 : n ≤ 4611686018427387904
    · have H := Lib.hid (show true = May n by unfold May; rw [eq_comm, decide_eq_true_eq]; exact ⟨h0, h1⟩)
      go_enter Try.func31, Try.ntmps31
      go_wp2
      go_ret
      exact ⟨by rw [← H.out]; rfl, rfl⟩
    · have H := Lib.hid (show false = May n by unfold May; rw [eq_comm, decide_eq_false_iff_not]; omega)
      go_enter Try.func31, Try.ntmps31
      go_wp2
      go_ret
      exact ⟨by rw [← H.out]; rfl, rfl⟩
  · have H := Lib.hid (show false = May n by unfold May; rw [eq_comm, decide_eq_false_iff_not]; omega)
    go_enter Try.func31, Try.ntmps31
    go_wp2
    go_ret
    exact ⟨by rw [← H.out]; rfl, rfl⟩

/-- the cells while the last ones are laid -/
def Nc (n : Int) (q : Nat) : Array Value := (Bc (List.replicate q 0 ++ (enc n).drop q)).toArray
/-- what is left of the number then -/
def dv (n : Int) (q : Nat) : Int := match q with | 0 => n / 18446744073709551616 | 1 => n / 72057594037927936 | 2 => n / 281474976710656 | 3 => n / 1099511627776 | 4 => n / 4294967296 | 5 => n / 16777216 | 6 => n / 65536 | 7 => n / 256 | _ => n
theorem dv_next (n : Int) {t : Nat} (ht : t < 8) : dv n (t + 1) / 256 = dv n t := by
  match t, ht with
  | 0, _ => show n / 72057594037927936 / 256 = n / 18446744073709551616; omega
  | 1, _ => show n / 281474976710656 / 256 = n / 72057594037927936; omega
  | 2, _ => show n / 1099511627776 / 256 = n / 281474976710656; omega
  | 3, _ => show n / 4294967296 / 256 = n / 1099511627776; omega
  | 4, _ => show n / 16777216 / 256 = n / 4294967296; omega
  | 5, _ => show n / 65536 / 256 = n / 16777216; omega
  | 6, _ => show n / 256 / 256 = n / 65536; omega
  | 7, _ => rfl
theorem dv_bounds {n : Int} (h0 : 0 ≤ n) (h1 : n ≤ 4611686018427387904) {t : Nat} (ht : t ≤ 8) : 0 ≤ dv n t ∧ dv n t ≤ 4611686018427387904 := by
  match t, ht with
  | 0, _ => show 0 ≤ n / 18446744073709551616 ∧ n / 18446744073709551616 ≤ _; omega
  | 1, _ => show 0 ≤ n / 72057594037927936 ∧ n / 72057594037927936 ≤ _; omega
  | 2, _ => show 0 ≤ n / 281474976710656 ∧ n / 281474976710656 ≤ _; omega
  | 3, _ => show 0 ≤ n / 1099511627776 ∧ n / 1099511627776 ≤ _; omega
  | 4, _ => show 0 ≤ n / 4294967296 ∧ n / 4294967296 ≤ _; omega
  | 5, _ => show 0 ≤ n / 16777216 ∧ n / 16777216 ≤ _; omega
  | 6, _ => show 0 ≤ n / 65536 ∧ n / 65536 ≤ _; omega
  | 7, _ => show 0 ≤ n / 256 ∧ n / 256 ≤ _; omega
  | 8, _ => exact ⟨h0, h1⟩
theorem Nc_step (n : Int) {t : Nat} (ht : t < 8) : (Nc n (t + 1)).setIfInBounds t (.int .u8 (dv n (t + 1) % 256)) = Nc n t := by
  match t, ht with
  | 0, _ => rfl
  | 1, _ => rfl
  | 2, _ => rfl
  | 3, _ => rfl
  | 4, _ => rfl
  | 5, _ => rfl
  | 6, _ => rfl
  | 7, _ => rfl
theorem Nc_cell (n : Int) {t : Nat} (ht : t < 8) : (Nc n (t + 1))[t]? = some (.int .u8 0) := by
  match t, ht with
  | 0, _ => rfl
  | 1, _ => rfl
  | 2, _ => rfl
  | 3, _ => rfl
  | 4, _ => rfl
  | 5, _ => rfl
  | 6, _ => rfl
  | 7, _ => rfl

/-- a number's bytes, in a block of their own -/
def Num8 (n : Int) (w : World) (e : Ending) (w' : World) : Prop := ∃ g, e = .returned (.slice (some ⟨g, 0, none⟩) 8 8) ∧ w.heap.size ≤ g ∧ w'.heap[g]? = some (.cells (Bc (enc n)).toArray 5 (0, 0)) ∧ Kp (fun _ => False) w w'
theorem refnum_any (n : Int) (w : World) (h0 : 0 ≤ n) (h1 : n ≤ 4611686018427387904) : Calls Try.prog 32 #[.int .i64 n] w (Num8 n w) := by
  have hmk : ∀ w : World, (Instr.makeSlice 22 (.int .i64 8) (.int .i64 8)).run Try.prog w = .ok (.slice (some ⟨w.heap.size, 0, none⟩) 8 8) (w.alloc (.cells #[.int .u8 0, .int .u8 0, .int .u8 0, .int .u8 0, .int .u8 0, .int .u8 0, .int .u8 0, .int .u8 0] 5)) := fun _ => by kernel_rfl
  go_enter Try.func32, Try.ntmps32
  go_wp2
  go_loopg [0, 4] 8 (fun k x i wr => ∃ q : Nat, k = q ∧ q ≤ 8 ∧ i = .int .i64 ((q : Int) - 1) ∧ x = .int .i64 (dv n q) ∧ wr.heap[w.heap.size]? = some (.cells (Nc n q) 5 (0, 0)) ∧ Kp (fun _ => False) w wr)
  case atStart => exact ⟨8, rfl, Nat.le_refl _, by go_num, rfl, heap_new _, (Kp.refl _ _).alloc _⟩
  case round =>
    obtain ⟨q, hk, hq, rfl, rfl, hh, hkp⟩ := hrel
    have HKk := Lib.hid hk; have HH := Lib.hid hh; have HKP := Lib.hid hkp; clear hk hh hkp hmk
    by_cases h00 : q = 0
    · subst h00
      go_wp2
      go_ret
      exact ⟨w.heap.size, rfl, Nat.le_refl _, HH.out, HKP.out⟩
    · obtain ⟨t, rfl⟩ : ∃ t, q = t + 1 := ⟨q - 1, by omega⟩
      have c0 := (cell_of HH.out t).trans (Nc_cell n (show t < 8 by omega))
      have f0 := frozen_of HH.out t
      obtain ⟨x, hx⟩ : ∃ x, x = dv n (t + 1) := ⟨_, rfl⟩
      have xb := dv_bounds h0 h1 hq
      have hs := Nc_step n (show t < 8 by omega)
      have hn := dv_next n (show t < 8 by omega)
      rw [← hx] at xb hs hn ⊢
      have HS := Lib.hid hs; have HN := Lib.hid hn
      obtain ⟨x0, x1⟩ := xb
      clear hx hs hn
      rw [show ((t + 1 : Nat) : Int) - 1 = (t : Int) by omega]
      go_wp2
      go_roundg t
      case measure => rw [HKk.out]; omega
      case rel => exact ⟨t, rfl, by omega, rfl, by rw [HN.out], by rw [← HS.out]; exact heap_set HH.out _, HKP.out.setCell _ _ (Or.inr (Nat.le_refl _))⟩

theorem own_of_head {w' : World} {g : Nat} {n : Nat} {cs : Array Value} {e : TypeId} {xs : List Value} (h : w'.heap[g]? = some (.cells cs e (0, 0))) (hs : cs.size = n) (hx : cs.toList = xs) (hm : n ≤ maxLen) : Own w' e 1 (.slice (some ⟨g, 0, none⟩) n n) n xs :=
  ⟨by rw [← hx, Array.length_toList, hs, Nat.mul_one], Or.inr ⟨g, n, cs, rfl, Nat.zero_le _, h, Nat.le_refl _, hm, by rw [hs, Nat.mul_one], by rw [← hx, List.take_of_length_le (by rw [Array.length_toList, hs]; omega)]⟩⟩

/-- bytes, in a row of their own -/
def OwnNew (N : List Int) (w : World) (e : Ending) (w' : World) : Prop := ∃ v, e = .returned v ∧ Own w' 5 1 v N.length (Bc N) ∧ (∀ k, v.ownBlock = some k → w.heap.size ≤ k) ∧ Kp (fun _ => False) w w'
theorem refbytes_any (bo : Option Addr) (c : Nat) (N : List Int) (w : World) (hs : Src w bo c N) (hN : N.length ≤ 1000000) : Calls Try.prog 34 #[.slice bo N.length c] w (OwnNew (enc N.length ++ N) w) := by
  obtain ⟨i0, hi, hz0, hz1, hz2⟩ := info_parts u8_info
  have HS := Lib.hid hs; clear hs
  go_enter Try.func34, Try.ntmps34
  go_wp2_with fail
  refine (refnum_any N.length _ (by omega) (by omega)).mono ?_; rintro e w1 ⟨g, rfl, hg, hh, hk⟩
  have HO := Lib.hid (own_of_head (n := 8) (xs := Bc (enc N.length)) hh rfl rfl (by unfold maxLen; omega))
  have HK := Lib.hid hk; have HS1 := Lib.hid (HS.out.keep hk (fun _ _ _ h => h)); clear hh hk
  go_wp2_with (at_builtin; refine wpList_append_prec _ rfl _ _ 22 rfl 5 i0 _ 1 1 Try.underlying22 hi hz0 hz1 hz2 rfl (by decide) _ 8 (Bc (enc N.length)) rfl HO.out bo N.length c (Bc N) rfl (fun h => ⟨by rw [(HS1.out.1 h).1]; rfl, (HS1.out.1 h).2⟩) (Bc_len1 N) HS1.out.2 (Bc_one N) (by unfold maxLen; omega) (by omega) ?_; intro v2 w2 hown2 hk2 hsn2 _; have HO2 := Lib.hid hown2; have hsn3 : SameOrNew w1 (.slice (some ⟨g, 0, none⟩) 8 8) v2 := hsn2; have hk3 : Kp (In (.slice (some ⟨g, 0, none⟩) 8 8)) w1 w2 := hk2; have HSN2 := Lib.hid hsn3; have HK2 := Lib.hid hk3; clear hown2 hk2 hsn2 hk3 hsn3)
  go_ret
  refine ⟨v2, rfl, ?_, fun k hk => ?_, HK.out.trans_new HK2.out (fun k h1 h2 => ?_)⟩
  · rw [List.length_append, enc_len, ← Bc_app]; exact HO2.out
  · rcases HSN2.out with h | h
    · rw [h] at hk
      have : g = k := by simpa [Value.ownBlock] using hk
      omega
    · exact Nat.le_trans HK.out.size (h k hk)
  · have : g = k := by simpa [In, Value.ownBlock] using h2
    omega

theorem ne_of_lt' {α : Type} {L : List α} {i : Nat} (h : i < L.length) : L ≠ [] := by intro e; subst e; simp at h
/-- block x is an Eye -/
structure EyAt (w : World) (x : Nat) (ao : Option Addr) (cap : Nat) (bad : Bool) (L : List Int) : Prop where
  head : w.heap[x]? = some (.cells #[.slice ao L.length cap, .bool bad] 64 (0, 0))
  row : Row1 w ao L.length (fun i => .int .u8 (L.getD i 0))
  fit : L.length ≤ cap
  apart : L ≠ [] → ∀ b off, ao = some ⟨b, off, none⟩ → b ≠ x
theorem EyAt.keep {S : Nat → Prop} {w w' : World} {x : Nat} {ao : Option Addr} {cap : Nat} {b : Bool} {L : List Int} (h : EyAt w x ao cap b L) (hk : Kp S w w') (hx : ¬ S x) (hg : L ≠ [] → ∀ b off, ao = some ⟨b, off, none⟩ → ¬ S b) : EyAt w' x ao cap b L := by
  refine ⟨hk.keep h.head hx, fun i hi => ?_, h.fit, h.apart⟩
  obtain ⟨b, off, e, hb, hc⟩ := h.row i hi
  exact ⟨b, off, e, Nat.lt_of_lt_of_le hb hk.size, (hk.cell _ hb (hg (ne_of_lt' hi) b off e)).trans hc⟩
theorem EyAt.spoil {w : World} {x : Nat} {ao : Option Addr} {cap : Nat} {b : Bool} {L : List Int} (h : EyAt w x ao cap b L) : EyAt (w.setCell ⟨x, 1, none⟩ (.bool true)) x ao cap true L := by
  have hk := (Kp.refl (· = x) w).setCell ⟨x, 1, none⟩ (.bool true) (Or.inl rfl)
  refine ⟨heap_set h.head _, fun i hi => ?_, h.fit, h.apart⟩
  obtain ⟨b, off, e, hb, hc⟩ := h.row i hi
  exact ⟨b, off, e, Nat.lt_of_lt_of_le hb hk.size, (hk.cell _ hb (fun e' => h.apart (ne_of_lt' hi) b off e e')).trans hc⟩

theorem eyenum_no (x : Nat) (ao : Option Addr) (cap : Nat) (b : Bool) (L : List Int) (w : World) (hx : EyAt w x ao cap b L) (hn : b = true ∨ L.length < 8) :
    Calls Try.prog 38 #[.pointer (some ⟨x, 0, none⟩)] w fun e w' => e = .returned (.int .i64 0) ∧ EyAt w' x ao cap true L ∧ Kp (· = x) w w' := by
  have c0 := cell_of hx.head 0
  have c1 := cell_of hx.head 1
  simp only [List.getElem?_toArray, List.getElem?_cons_zero, List.getElem?_cons_succ] at c0 c1
  have f1 := frozen_of hx.head 1
  have HF := Lib.hid hx.spoil; clear hx
  cases b with
  | true =>
    clear hn
    go_enter Try.func38, Try.ntmps38
    go_wp2
    go_ret
    exact ⟨rfl, HF.out, (by repeat (first | exact Kp.refl _ _ | apply Kp.drew | apply Kp.drewN | refine Kp.setCell ?_ _ _ (Or.inl rfl) | apply Kp.alloc))⟩
  | false =>
    have hn : L.length < 8 := by simpa using hn
    go_enter Try.func38, Try.ntmps38
    go_wp2
    go_ret
    exact ⟨rfl, HF.out, (by repeat (first | exact Kp.refl _ _ | apply Kp.drew | apply Kp.drewN | refine Kp.setCell ?_ _ _ (Or.inl rfl) | apply Kp.alloc))⟩

/-- what the Eye's Num answers, and what is left -/
def Eyed (x : Nat) (ao : Option Addr) (cap : Nat) (L : List Int) (w : World) (e : Ending) (w' : World) : Prop :=
  (if dec (L.take 8) ≤ 4611686018427387904 then e = .returned (.int .i64 (dec (L.take 8))) ∧ ∃ g o o', ao = some ⟨g, o, none⟩ ∧ EyAt w' x (some ⟨g, o', none⟩) (cap - 8) false (L.drop 8)
    else e = .returned (.int .i64 0) ∧ EyAt w' x ao cap true L) ∧ Kp (· = x) w w'

set_option maxHeartbeats 800000 in
theorem eyenum_any (x : Nat) (ao : Option Addr) (cap : Nat) (L : List Int) (w : World) (hx : EyAt w x ao cap false L) (hn : 8 ≤ L.length) (hb : Byt L) :
    Calls Try.prog 38 #[.pointer (some ⟨x, 0, none⟩)] w (Eyed x ao cap L w) := by
  obtain ⟨g, o, rfl, hg, hrow⟩ := hx.row.get (i := 0) (by omega)
  have c0 := cell_of hx.head 0
  have c1 := cell_of hx.head 1
  simp only [List.getElem?_toArray, List.getElem?_cons_zero, List.getElem?_cons_succ] at c0 c1
  have f0 := frozen_of hx.head 0
  have f1 := frozen_of hx.head 1
  have hfit := hx.fit
  have HX := Lib.hid hx; have HB := Lib.hid hb; have HROW := Lib.hid hrow; clear hx hb hrow
  go_enter Try.func38, Try.ntmps38
  go_wp2
  go_loopg [3, 4] 8 (fun k n i wr => ∃ (j : Nat) (d : Int), k = 8 - j ∧ j ≤ 8 ∧ i = .int .i64 j ∧ n = .int .u64 d ∧ Hid (d = dec (L.take j)) ∧ wr = w)
  case atStart => exact ⟨0, 0, rfl, by omega, rfl, rfl, Lib.hid rfl, rfl⟩
  case round =>
    obtain ⟨j, d, hk, hj, rfl, rfl, hd, rfl⟩ := hrel
    have HKk := Lib.hid hk; clear hk
    by_cases hlt : j < 8
    · have hc := HROW.out j (by omega)
      obtain ⟨y, hy⟩ : ∃ y, y = L.getD j 0 := ⟨_, rfl⟩
      rw [← hy] at hc
      have HY := Lib.hid hy; clear hy
      have yb : 0 ≤ y ∧ y ≤ 255 := by
        rw [HY.out]
        have : L.getD j 0 = L[j] := by simp [List.getD, show j < L.length by omega]
        rw [this]
        exact HB.out _ (List.getElem_mem _)
      obtain ⟨y0, y1⟩ := yb
      have db := dec_bounds (HB.out.take j)
      rw [← hd.out, List.length_take, Nat.min_eq_left (by omega)] at db
      obtain ⟨d0, d1⟩ := db
      have d2 : d < 72057594037927936 := by
        have : (256 : Int) ^ j ≤ 256 ^ 7 := by
          match j, hlt with
          | 0, _ => decide
          | 1, _ => decide
          | 2, _ => decide
          | 3, _ => decide
          | 4, _ => decide
          | 5, _ => decide
          | 6, _ => decide
          | 7, _ => decide
        have e : (256 : Int) ^ 7 = 72057594037927936 := by decide
        omega
      clear d1
      have HN := Lib.hid (show d * 256 + y = dec (L.take (j + 1)) by
        rw [List.take_succ_eq_append_getElem (show j < L.length by omega), dec_snoc, ← hd.out, HY.out]
        simp [List.getD, show j < L.length by omega])
      go_wp2
      go_roundg (8 - (j + 1))
      case measure => rw [HKk.out]; omega
      case rel => exact ⟨j + 1, d * 256 + y, rfl, by omega, by go_num, rfl, HN, rfl⟩
    · obtain rfl : j = 8 := by omega
      have db := dec_bounds (HB.out.take 8)
      rw [← hd.out] at db
      have d0 := db.1
      clear db
      by_cases hbig : 4611686018427387904 < d
      · have HS := Lib.hid HX.out.spoil
        go_wp2
        go_ret
        unfold Eyed
        rw [if_neg (by rw [← hd.out]; omega)]
        exact ⟨⟨rfl, HS.out⟩, (by repeat (first | exact Kp.refl _ _ | apply Kp.drew | apply Kp.drewN | refine Kp.setCell ?_ _ _ (Or.inl rfl) | apply Kp.alloc))⟩
      · have hle : d ≤ 4611686018427387904 := by omega
        have HD := Lib.hid (List.length_drop (i := 8) (l := L))
        by_cases hc8 : cap = 8
        · have HL := Lib.hid (show L.length = 8 by omega)
          have HE := Lib.hid (show L.drop 8 = [] from List.drop_eq_nil_of_le (by rw [HL.out]; omega))
          have HF := Lib.hid (show EyAt (wr.setCell ⟨x, 0, none⟩ (.slice (some ⟨g, o, none⟩) 0 0)) x (some ⟨g, o, none⟩) 0 false [] from
            ⟨heap_set HX.out.head _, fun i hi => by simp at hi, Nat.le_refl _, fun h => absurd rfl h⟩)
          subst hc8
          have hl8 : L.length ≤ 8 := hfit
          go_wp2
          go_ret
          unfold Eyed
          rw [if_pos (by rw [← hd.out]; exact hle), HE.out]
          refine ⟨⟨by rw [← hd.out]; rfl, g, o, o, rfl, ?_⟩, (by repeat (first | exact Kp.refl _ _ | apply Kp.drew | apply Kp.drewN | refine Kp.setCell ?_ _ _ (Or.inl rfl) | apply Kp.alloc))⟩
          have e0 : L.length - 8 = 0 := by omega
          first | exact HF.out | (rw [e0]; exact HF.out) | (simp only [e0]; exact HF.out)
        · have HF := Lib.hid (show EyAt (wr.setCell ⟨x, 0, none⟩ (.slice (some ⟨g, o + 8, none⟩) (L.length - 8) (cap - 8))) x (some ⟨g, o + 8, none⟩) (cap - 8) false (L.drop 8) from by
            have hk := (Kp.refl (· = x) wr).setCell ⟨x, 0, none⟩ (.slice (some ⟨g, o + 8, none⟩) (L.length - 8) (cap - 8)) (Or.inl rfl)
            refine ⟨by rw [HD.out]; exact heap_set HX.out.head _, fun i hi => ?_, by rw [HD.out]; omega, fun _ b off e => by cases e; exact HX.out.apart (ne_of_lt' hn) _ _ rfl⟩
            rw [HD.out] at hi
            refine ⟨g, o + 8, rfl, Nat.lt_of_lt_of_le hg hk.size, (hk.cell _ hg (fun e => HX.out.apart (ne_of_lt' hn) _ _ rfl e)).trans ?_⟩
            rw [show o + 8 + i = o + (8 + i) by omega, HROW.out (8 + i) (by omega)]
            simp [List.getD, List.getElem?_drop])
          go_wp2
          go_ret
          unfold Eyed
          rw [if_pos (by rw [← hd.out]; exact hle)]
          exact ⟨⟨by rw [← hd.out]; rfl, g, o, _, rfl, HF.out⟩, (by repeat (first | exact Kp.refl _ _ | apply Kp.drew | apply Kp.drewN | refine Kp.setCell ?_ _ _ (Or.inl rfl) | apply Kp.alloc))⟩
end Go.Proofs.Ytihndplkkpglcaa
