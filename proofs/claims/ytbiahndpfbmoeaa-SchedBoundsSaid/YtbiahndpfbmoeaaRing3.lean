/- What every law of package ring asks first; texts that are the same. No condition. -/
import Derived.Test.YtbiahndpfbmoeaaRing2
namespace Go.Proofs.Ytbiahndpfbmoeaa
open Go.RowKit

theorem texts_same (ao bo : Option Addr) (c d : Nat) (L : List ByteArray) (w : World) (ha : SRd w ao L) (hb : SRd w bo L) (hL : L.length ≤ 1000000000) :
    Calls Try.prog 20 #[.slice ao L.length c, .slice bo L.length d] w fun e w' => e = .returned (.bool true) ∧ Kp (fun _ => False) w w' := by
  have HA := Lib.hid ha; have HB := Lib.hid hb; clear ha hb
  go_enter Try.func20, Try.ntmps20
  go_wp2
  go_loopg [5] L.length (fun k i wr => ∃ j : Nat, k = L.length - j ∧ j ≤ L.length ∧ i = .int .i64 j ∧ Kp (fun _ => False) w wr)
  case atStart => exact ⟨0, rfl, Nat.zero_le _, rfl, Kp.refl _ _⟩
  case round =>
    obtain ⟨j, hk, hj, rfl, hkp⟩ := hrel
    have HKk := Lib.hid hk; have HKP := Lib.hid hkp; clear hk hkp
    by_cases hlt : j < L.length
    · obtain ⟨b1, o1, rfl, _, h1⟩ := HA.out.keep HKP.out (fun _ _ _ _ h => h) j hlt
      obtain ⟨b2, o2, rfl, _, h2⟩ := HB.out.keep HKP.out (fun _ _ _ _ h => h) j hlt
      obtain ⟨y, hy⟩ : ∃ y, y = L.getD j ByteArray.empty := ⟨_, rfl⟩
      have g1 : wr.cell? ⟨b1, o1 + j, none⟩ = some (.string (L.getD j ByteArray.empty)) := h1
      have g2 : wr.cell? ⟨b2, o2 + j, none⟩ = some (.string (L.getD j ByteArray.empty)) := h2
      rw [← hy] at g1 g2
      clear h1 h2 hy
      have hyy : (y.toList == y.toList) = true := by simp
      go_wp2_with fail
      go_quiet (fail)
      go_wp2_with fail
      go_roundg (L.length - (j + 1))
      case measure => rw [HKk.out]; omega
      case rel => exact ⟨j + 1, rfl, by omega, by go_num, HKP.out.trans ((Kp.refl _ _).drewN _)⟩
    · go_wp2_with fail
      go_ret
      exact ⟨rfl, HKP.out⟩

/-- what is known of a ring of one's own -/
structure RI (W w : World) (p : Nat) (v : Value) (L : List ByteArray) : Prop where
  rg : RgAt w p v L
  p0 : W.heap.size ≤ p
  v0 : ∀ k, v.ownBlock = some k → W.heap.size ≤ k
  kp : Kp (fun _ => False) W w
theorem RI.calm {W w w1 : World} {p : Nat} {v : Value} {L : List ByteArray} (h : RI W w p v L) (hk : Kp (fun _ => False) w w1) : RI W w1 p v L :=
  ⟨h.rg.keep hk (fun h => h) (fun _ _ h => h), h.p0, h.v0, h.kp.trans hk⟩
theorem RI.next {W w w1 : World} {p : Nat} {v v' : Value} {L L' : List ByteArray} (h : RI W w p v L) (hr : RgAt w1 p v' L') (hs : SameOrNew w v v') (hk : Kp (fun k => k = p ∨ In v k) w w1) : RI W w1 p v' L' := by
  refine ⟨hr, h.p0, fun k hk' => ?_, h.kp.trans_new hk (fun k h1 h2 => ?_)⟩
  · rcases hs with hs | hs
    · exact h.v0 k (hs ▸ hk')
    · exact Nat.le_trans h.kp.size (hs k hk')
  · rcases h2 with h2 | h2
    · have := h.p0; omega
    · have := h.v0 k h2; omega
theorem RI.new (W w : World) (hk : Kp (fun _ => False) W w) : RI W (w.alloc (.cells #[.slice none 0 0] 26)) w.heap.size (.slice none 0 0) [] :=
  ⟨⟨heap_new _, Own.nil _ _ _, by simp [Value.ownBlock]⟩, hk.size, fun k hk' => by simp [Value.ownBlock] at hk', hk.alloc _⟩

theorem SRd.lit2 {w : World} (x y : ByteArray) : SRd (w.alloc (.cells #[.string x, .string y] 9)) (some ⟨w.heap.size, 0, none⟩) [x, y] := by
  intro i hi
  refine ⟨w.heap.size, 0, rfl, by simp, ?_⟩
  rw [cell_of (heap_new _)]
  match i, hi with
  | 0, _ => rfl
  | 1, _ => rfl

set_option maxRecDepth 100000 in
theorem r21ans_any (w : World) : Calls Try.prog 13 #[] w fun e w' => e = .returned (.bool true) ∧ Kp (fun _ => False) w w' := by
  have H0 := Lib.hid (RI.new w w (Kp.refl _ _))
  go_enter Try.func13, Try.ntmps13
  go_wp2_with fail
  refine (radd_any w.heap.size _ [] (⟨#[97]⟩ : ByteArray) _ H0.out.rg (by decide) (by decide)).mono ?_; rintro e w1 ⟨rfl, ⟨v1, hr, hs⟩, hk⟩
  have H1 := Lib.hid (show RI w w1 w.heap.size v1 [(⟨#[97]⟩ : ByteArray)] from H0.out.next hr hs hk); clear hr hs hk
  go_wp2_with fail
  refine (radd_any w.heap.size _ [(⟨#[97]⟩ : ByteArray)] (⟨#[98]⟩ : ByteArray) _ H1.out.rg (by decide) (by decide)).mono ?_; rintro e w2 ⟨rfl, ⟨v2, hr, hs⟩, hk⟩
  have H2 := Lib.hid (show RI w w2 w.heap.size v2 [(⟨#[97]⟩ : ByteArray), (⟨#[98]⟩ : ByteArray)] from H1.out.next hr hs hk); clear hr hs hk
  have H2a := Lib.hid (H2.out.calm ((Kp.refl _ _).alloc (.cells #[.string (⟨#[98]⟩ : ByteArray), .string (⟨#[97]⟩ : ByteArray)] 9)))
  go_wp2_with fail
  refine (rnext_any w.heap.size _ [(⟨#[97]⟩ : ByteArray), (⟨#[98]⟩ : ByteArray)] [(⟨#[98]⟩ : ByteArray), (⟨#[97]⟩ : ByteArray)] _ 2 0 _ H2a.out.rg (SRd.lit2 _ _) (by decide) (by decide) (by decide) (by decide)).mono ?_; rintro e w3 ⟨rfl, ⟨v3, hr, hs⟩, hk⟩
  have H3 := Lib.hid (show RI w w3 w.heap.size v3 [(⟨#[98]⟩ : ByteArray), (⟨#[97]⟩ : ByteArray)] from H2a.out.next hr hs hk); clear hr hs hk
  have H3a := Lib.hid (H3.out.calm ((Kp.refl _ _).alloc (.cells #[.string (⟨#[97]⟩ : ByteArray), .string (⟨#[98]⟩ : ByteArray)] 9)))
  go_wp2_with fail
  refine (rnext_any w.heap.size _ [(⟨#[98]⟩ : ByteArray), (⟨#[97]⟩ : ByteArray)] [(⟨#[97]⟩ : ByteArray), (⟨#[98]⟩ : ByteArray)] _ 2 0 _ H3a.out.rg (SRd.lit2 _ _) (by decide) (by decide) (by decide) (by decide)).mono ?_; rintro e w4 ⟨rfl, ⟨v4, hr, hs⟩, hk⟩
  have H4 := Lib.hid (show RI w w4 w.heap.size v4 [(⟨#[97]⟩ : ByteArray), (⟨#[98]⟩ : ByteArray)] from H3a.out.next hr hs hk); clear hr hs hk
  go_wp2_with fail
  refine (radd_no w.heap.size _ [(⟨#[97]⟩ : ByteArray), (⟨#[98]⟩ : ByteArray)] (⟨#[97]⟩ : ByteArray) _ H4.out.rg (by decide) (by decide)).mono ?_; rintro e w5 ⟨rfl, rfl⟩
  go_wp2_with fail
  refine (rdrop_any w.heap.size _ [(⟨#[97]⟩ : ByteArray), (⟨#[98]⟩ : ByteArray)] (⟨#[98]⟩ : ByteArray) _ H4.out.rg (by decide) (by decide)).mono ?_; rintro e w6 ⟨rfl, ⟨v6, hr, hs⟩, hk⟩
  have H6 := Lib.hid (show RI w w6 w.heap.size v6 [(⟨#[97]⟩ : ByteArray)] from H4.out.next hr (Or.inl hs) hk); clear hr hs hk
  go_wp2_with fail
  refine (rnames_any w.heap.size _ [(⟨#[97]⟩ : ByteArray)] _ H6.out.rg (by decide)).mono ?_; rintro e w7 ⟨v7, rfl, ho, hk7⟩
  obtain ⟨a7, c7, rfl⟩ := (own_weaken ho).slice
  have HK7 := Lib.hid (H6.out.kp.trans hk7)
  go_wp2_with fail
  go_ret
  exact ⟨rfl, HK7.out⟩
end Go.Proofs.Ytbiahndpfbmoeaa
