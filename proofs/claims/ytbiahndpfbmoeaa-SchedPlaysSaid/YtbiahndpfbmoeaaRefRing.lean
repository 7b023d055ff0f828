/- What the reference's ring does. Condition: it holds no more names than fit into memory. -/
import Derived.Test.YtbiahndpfbmoeaaRingFair2
namespace Go.Proofs.Ytbiahndpfbmoeaa
open Go.RowKit

/-- block p is the reference's ring of these names; v is its slice -/
structure RfAt (w : World) (p : Nat) (v : Value) (L : List ByteArray) : Prop where
  head : w.heap[p]? = some (.cells #[v] 29 (0, 0))
  row : Own w 9 1 v L.length (Sc L)
  apart : v.ownBlock ≠ some p
theorem RfAt.keep {S : Nat → Prop} {w w' : World} {p : Nat} {v : Value} {L : List ByteArray} (h : RfAt w p v L) (hk : Kp S w w') (hp : ¬ S p) (hs : ∀ k, v.ownBlock = some k → ¬ S k) : RfAt w' p v L :=
  ⟨hk.keep h.head hp, h.row.keep hk hs, h.apart⟩
theorem Iz_of {x : ByteArray} {L : List ByteArray} (h : Has x L = true) : Iz x L = (Ix x L : Int) := by rw [Iz, if_pos (Has_ix h)]
theorem Iz_not {x : ByteArray} {L : List ByteArray} (h : Has x L = false) : Iz x L = -1 := by
  unfold Has at h
  rw [decide_eq_false_iff_not] at h
  rw [Iz, if_neg h]

theorem fadd_no (p : Nat) (v : Value) (L : List ByteArray) (x : ByteArray) (w : World) (hp : RfAt w p v L) (hx : Has x L = true) (hL : L.length ≤ 1000000000) :
    Calls Try.prog 15 #[.pointer (some ⟨p, 0, none⟩), .string x] w fun e w' => e = .returned (.bool false) ∧ w = w' := by
  have c0 := cell_of hp.head 0
  simp only [List.getElem?_toArray, List.getElem?_cons_zero] at c0
  obtain ⟨ao, cap, rfl⟩ := hp.row.slice
  have HS := Lib.hid (SRd.own hp.row rfl); have HZ := Lib.hid (Iz_of hx)
  clear hp hx
  go_enter Try.func15, Try.ntmps15
  go_wp2_with fail
  refine (rhas_any ao cap L x _ HS.out (by omega)).mono ?_; rintro e w1 ⟨rfl, rfl⟩
  rw [HZ.out]
  go_wp2_with fail
  go_ret
  exact ⟨rfl, rfl⟩
theorem fdrop_no (p : Nat) (v : Value) (L : List ByteArray) (x : ByteArray) (w : World) (hp : RfAt w p v L) (hx : Has x L = false) (hL : L.length ≤ 1000000000) :
    Calls Try.prog 17 #[.pointer (some ⟨p, 0, none⟩), .string x] w fun e w' => e = .returned (.bool false) ∧ w = w' := by
  have c0 := cell_of hp.head 0
  simp only [List.getElem?_toArray, List.getElem?_cons_zero] at c0
  obtain ⟨ao, cap, rfl⟩ := hp.row.slice
  have HS := Lib.hid (SRd.own hp.row rfl); have HZ := Lib.hid (Iz_not hx)
  clear hp hx
  go_enter Try.func17, Try.ntmps17
  go_wp2_with fail
  refine (rhas_any ao cap L x _ HS.out (by omega)).mono ?_; rintro e w1 ⟨rfl, rfl⟩
  rw [HZ.out]
  go_wp2_with fail
  go_ret
  exact ⟨rfl, rfl⟩

/-- what a slice of one's own hands to an append -/
theorem own_src {w w' : World} {v : Value} {ao : Option Addr} {c : Nat} {L : List ByteArray} (h : Own w 9 1 v L.length (Sc L)) (hv : v = .slice ao L.length c) (hk : Kp (fun _ => False) w w') :
    (ao = none → L.length = 0 ∧ c = 0) ∧ ∀ ad, ao = some ad → ∀ j u, (Sc L)[j]? = some u → w'.cell? (ad.add j) = some u := by
  rcases h.shape with ⟨rfl, hn, hx⟩ | ⟨g, cap, rfl, _⟩
  · simp only [Value.slice.injEq] at hv
    obtain ⟨rfl, _, rfl⟩ := hv
    exact ⟨fun _ => ⟨hn, rfl⟩, fun ad e => by cases e⟩
  · cases hv
    refine ⟨(fun e => by cases e), fun ad e j u hu => ?_⟩
    cases e
    rw [Addr.add_lit, Nat.zero_add]
    have hc := h.cell hu
    have hb : g < w.heap.size := h.lt (by simp [Value.ownBlock])
    exact (hk.cell _ hb (fun h => h)).trans hc
theorem in_new {w : World} {o : Obj} {v : Value} (h : SameOrNew (w.alloc o) (.slice (some ⟨w.heap.size, 0, none⟩) 0 0) v) : ∀ k, In v k → w.heap.size ≤ k := by
  intro k h2
  rcases h with h | h
  · have e : (Value.slice (some ⟨w.heap.size, 0, none⟩) 0 0).ownBlock = some k := h ▸ h2
    have : w.heap.size = k := by simpa [Value.ownBlock] using e
    omega
  · have := h k h2; simp at this; omega
theorem kp_new {w w3 : World} {o : Obj} (h : Kp (In (.slice (some ⟨w.heap.size, 0, none⟩) 0 0)) (w.alloc o) w3) : Kp (fun _ => False) w w3 :=
  ((Kp.refl _ w).alloc o).trans_new h (fun k h1 h2 => by
    have : w.heap.size = k := by simpa [In, Value.ownBlock] using h2
    omega)
set_option maxRecDepth 100000 in
theorem fadd_any (p : Nat) (v : Value) (L : List ByteArray) (x : ByteArray) (w : World) (hp : RfAt w p v L) (hx : Has x L = false) (hL : L.length ≤ 1000000000) :
    Calls Try.prog 15 #[.pointer (some ⟨p, 0, none⟩), .string x] w fun e w' => e = .returned (.bool true) ∧ (∃ v', RfAt w' p v' (L ++ [x]) ∧ ∀ k, v'.ownBlock = some k → w.heap.size ≤ k) ∧ Kp (· = p) w w' := by
  have c0 := cell_of hp.head 0
  simp only [List.getElem?_toArray, List.getElem?_cons_zero] at c0
  have f0 := frozen_of hp.head 0
  have hlt := lt_of_block hp.head
  obtain ⟨ao, cap, rfl⟩ := hp.row.slice
  have HS := Lib.hid (SRd.own hp.row rfl); have HZ := Lib.hid (Iz_not hx)
  have hsrc := own_src hp.row rfl ((Kp.refl (fun _ => False) w).alloc (.cells #[] 9))
  have HN := Lib.hid hsrc.1; have HC := Lib.hid hsrc.2
  have HP := Lib.hid hp
  have HE := Lib.hid (own_weaken (World.ownsRow_lit (base := w.heap.size) (e := 9) (size := 1) w #[] 0 (Nat.le_refl _) (by unfold maxLen; omega) rfl))
  obtain ⟨i0, hi, hz0, hz1, hz2⟩ := info_parts str_info
  clear hp hx hsrc
  have c0a := (World.cell?_alloc_past (w := w) (.cells #[] 9) p 0 hlt).trans c0
  go_enter Try.func15, Try.ntmps15
  go_wp2_with fail
  refine (rhas_any ao cap L x _ HS.out (by omega)).mono ?_; rintro e w1 ⟨rfl, rfl⟩
  rw [HZ.out]
  go_wp2_with (first | (at_builtin; refine wpList_append_prec _ rfl _ _ 24 rfl 9 i0 _ 1 16 Try.underlying24 hi hz0 hz1 hz2 rfl (by decide) _ 0 [] rfl HE.out ao L.length cap (Sc L) rfl HN.out (Sc_len1 _) HC.out (Sc_one _) (by unfold maxLen; omega) (by omega) ?_; intro v2 w3 hown3 hk3 hsn3 _; rw [Nat.zero_add, List.nil_append] at hown3; have hk4 : Kp (In (.slice (some ⟨w.heap.size, 0, none⟩) 0 0)) (w.alloc (.cells #[] 9)) w3 := hk3; have hsn4 : SameOrNew (w.alloc (.cells #[] 9)) (.slice (some ⟨w.heap.size, 0, none⟩) 0 0) v2 := hsn3; have HO3 := Lib.hid hown3; have HSN3 := Lib.hid hsn4; have HK3 := Lib.hid hk4; obtain ⟨a3, c3, rfl⟩ := HO3.out.slice; clear hown3 hk3 hsn3 hk4 hsn4) | (at_builtin; refine wpList_append_prec _ rfl _ _ 24 rfl 9 i0 _ 1 16 Try.underlying24 hi hz0 hz1 hz2 rfl (by decide) _ L.length (Sc L) rfl (by exact HO3.out.alloc _) _ 1 1 [.string x] rfl (fun h => by cases h) rfl lit_news one_string (by unfold maxLen; omega) (by omega) ?_; intro v5 w5 hown5 hk5 hsn5 _; have hk6 : Kp (In (.slice a3 L.length c3)) (w3.alloc (.cells #[.string x] 9)) w5 := hk5; have hsn6 : SameOrNew (w3.alloc (.cells #[.string x] 9)) (.slice a3 L.length c3) v5 := hsn5; have HO5 := Lib.hid hown5; have HK5 := Lib.hid hk6; have HSN5 := Lib.hid hsn6; have hin3 := in_new HSN3.out; have hk3a := kp_new HK3.out; have hk5a : Kp (fun _ => False) w w5 := (hk3a.alloc (.cells #[.string x] 9)).trans_new HK5.out (fun k h1 h2 => absurd (hin3 k h2) (by omega)); have k0 := (hk5a.cell 0 hlt (fun h => h)).trans c0; have e0 := (hk5a.frozen 0 hlt (fun h => h)).trans f0; have HK5A := Lib.hid hk5a; have HIN3 := Lib.hid hin3; obtain ⟨a5, c5, rfl⟩ := HO5.out.slice; clear hown5 hk5 hsn5 hk6 hsn6 hin3 hk3a hk5a))
  go_ret
  have hnew : ∀ k, (Value.slice a5 (L.length + 1) c5).ownBlock = some k → w.heap.size ≤ k := fun k hk => by
    rcases HSN5.out with h | h
    · exact HIN3.out k (h.symm.trans hk)
    · have := h k hk
      have h3 := HK5A.out.size
      have h4 := HK3.out.size
      simp at this h4
      omega
  refine ⟨rfl, ⟨_, ⟨heap_set (HK5A.out.keep HP.out.head (fun h => h)) _, ?_, fun h => by have := hnew _ h; omega⟩, hnew⟩, (HK5A.out.mono (fun _ _ h => h.elim)).setCell _ _ (Or.inl rfl)⟩
  have hl : (L ++ [x]).length = L.length + 1 := by simp
  rw [hl, show Sc (L ++ [x]) = Sc L ++ [.string x] by simp [Sc]]
  exact Own.keep HO5.out ((Kp.refl (· = p) w5).setCell ⟨p, 0, none⟩ _ (Or.inl rfl)) (fun k hk h => by have := hnew k hk; have h3 : k = p := h; omega)
end Go.Proofs.Ytbiahndpfbmoeaa
