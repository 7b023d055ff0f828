/- What a Ring does, the rest: whose turn it is. Condition: it holds no more names than fit into memory. -/
import Derived.Test.YtbiahndpfbmoeaaRing
namespace Go.Proofs.Ytbiahndpfbmoeaa
open Go.RowKit

theorem rnext_no (p : Nat) (v : Value) (L R : List ByteArray) (ar : Option Addr) (cr : Nat) (w : World) (hp : RgAt w p v L) (hr : SRd w ar R) (hL : L.length ≤ 1000000000) (hR : R.length ≤ 1000000000) (hx : ¬ Fx R L < L.length) :
    Calls Try.prog 18 #[.pointer (some ⟨p, 0, none⟩), .slice ar R.length cr] w fun e w' => e = .returned (.tuple #[.string ByteArray.empty, .bool false]) ∧ Kp (fun _ => False) w w' := by
  have c0 := cell_of hp.head 0
  simp only [List.getElem?_toArray, List.getElem?_cons_zero] at c0
  have hlt := lt_of_block hp.head
  obtain ⟨ao, cap, rfl⟩ := hp.row.slice
  have hk := (Kp.refl (fun _ => False) w).alloc (.cells #[.slice ar R.length cr] 24)
  have HS := Lib.hid ((SRd.own hp.row rfl).keep hk (fun _ _ _ _ h => h))
  have HR := Lib.hid (hr.keep hk (fun _ _ _ _ h => h))
  have HB := Lib.hid (cell_of (heap_new (w := w) (.cells #[.slice ar R.length cr] 24)) 0)
  have HZ := Lib.hid (show Fz R L = -1 by rw [Fz, if_neg hx])
  clear hp hr hx hk
  go_enter Try.func18, Try.ntmps18
  go_wp2_with fail
  refine (sfind_any ao cap w.heap.size L R ar cr _ HS.out hL HB.out HR.out hR).mono ?_; rintro e w1 ⟨rfl, rfl⟩
  rw [HZ.out]
  go_wp2_with fail
  go_ret2
  exact ⟨rfl, (by repeat (first | exact Kp.refl _ _ | apply Kp.drew | apply Kp.drewN | refine Kp.setCell ?_ _ _ (Or.inl rfl) | apply Kp.alloc))⟩

/-- the ring behind a turn -/
def Turn (i : Nat) (L : List ByteArray) : List ByteArray := Cut i L ++ [L.getD i ByteArray.empty]
theorem Turn_len {i : Nat} {L : List ByteArray} (hi : i < L.length) : (Turn i L).length = L.length := by unfold Turn; rw [List.length_append, Cut_len hi]; simp; omega
def Rturn (p : Nat) (v : Value) (i : Nat) (L : List ByteArray) (w : World) (e : Ending) (w' : World) : Prop :=
  e = .returned (.tuple #[.string (L.getD i ByteArray.empty), .bool true]) ∧ (∃ v', RgAt w' p v' (Turn i L) ∧ SameOrNew w v v') ∧ Kp (fun k => k = p ∨ In v k) w w'
set_option maxRecDepth 100000 in
theorem rnext_any (p : Nat) (v : Value) (L R : List ByteArray) (ar : Option Addr) (cr i : Nat) (w : World) (hp : RgAt w p v L) (hr : SRd w ar R) (hL : L.length ≤ 1000000000) (hR : R.length ≤ 1000000000) (hi : Fx R L = i) (hx : i < L.length) :
    Calls Try.prog 18 #[.pointer (some ⟨p, 0, none⟩), .slice ar R.length cr] w (Rturn p v i L w) := by
  have c0 := cell_of hp.head 0
  simp only [List.getElem?_toArray, List.getElem?_cons_zero] at c0
  have f0 := frozen_of hp.head 0
  have hlt := lt_of_block hp.head
  rcases hp.row.shape with ⟨_, h0, _⟩ | ⟨g, cap, rfl, hcap, _, hg⟩
  · omega
  have hgp : g ≠ p := fun e => hp.apart (by simp [Value.ownBlock, e])
  have hk := (Kp.refl (fun _ => False) w).alloc (.cells #[.slice ar R.length cr] 24)
  have HP := Lib.hid (hp.keep hk (fun h => h) (fun _ _ h => h)); have HK0 := Lib.hid hk
  have HS := Lib.hid ((SRd.own hp.row rfl).keep hk (fun _ _ _ _ h => h))
  have HR := Lib.hid (hr.keep hk (fun _ _ _ _ h => h))
  have HB := Lib.hid (cell_of (heap_new (w := w) (.cells #[.slice ar R.length cr] 24)) 0)
  have HZ := Lib.hid (show Fz R L = (i : Int) by rw [Fz, hi, if_pos hx])
  clear hp hr hk hi
  obtain ⟨i0, hi, hz0, hz1, hz2⟩ := info_parts str_info
  have hw1 : IntKind.i64.wrap ((i : Int) + 1) = (i : Int) + 1 := IntWalk.i64_in _ (by omega)
  obtain ⟨y, hy⟩ : ∃ y, y = L.getD i ByteArray.empty := ⟨_, rfl⟩
  have HY := Lib.hid hy
  have HG := Lib.hid (show (w.alloc (.cells #[.slice ar R.length cr] 24)).cell? ⟨g, i, none⟩ = some (.string y) from HP.out.row.cell (by rw [hy]; simp [Sc, List.getElem?_eq_getElem hx, List.getD]))
  clear hy
  go_enter Try.func18, Try.ntmps18
  go_wp2_with fail
  refine (sfind_any _ cap w.heap.size L R ar cr _ HS.out hL HB.out HR.out hR).mono ?_; rintro e w1 ⟨rfl, rfl⟩
  rw [HZ.out]
  have hgy := HG.out
  go_wp2_with fail
  refine (sdel_any g cap i L _ HP.out.row hx).mono ?_; rintro e w2 ⟨rfl, ho, hk⟩
  have k0 := (hk.cell 0 (show p < (w.alloc _).heap.size by simp; omega) (fun h => hgp h.symm)).trans ((World.cell?_alloc_past _ _ _ hlt).trans c0)
  have e0 := (hk.frozen 0 (show p < (w.alloc _).heap.size by simp; omega) (fun h => hgp h.symm)).trans ((World.frozen?_alloc_past _ _ _ hlt).trans f0)
  have HH2 := Lib.hid (hk.keep HP.out.head (fun h => hgp h.symm))
  have hlt2 := lt_of_block HH2.out
  have HO := Lib.hid ho; have HK := Lib.hid hk; clear ho hk
  obtain ⟨m, hm⟩ : ∃ m, m = L.length - 1 := ⟨_, rfl⟩
  rw [← hm] at HO
  have HM := Lib.hid hm
  have hm2 : m ≤ 1000000000 := by omega
  rw [← hm]
  clear hm
  go_wp2_with (at_builtin; go_loud (refine wpList_append_prec _ rfl _ _ 24 rfl 9 i0 _ 1 16 Try.underlying24 hi hz0 hz1 hz2 rfl (by decide) _ m (Sc (L.take i ++ L.drop (i + 1))) rfl (by exact HO.out.alloc _) _ 1 1 [.string y] rfl (fun h => by cases h) rfl lit_news one_string (by unfold maxLen; omega) (by omega) ?_; intro v' w3 hown1 hk1 hsn _; have hsn2 : SameOrNew _ (.slice (some ⟨g, 0, none⟩) m cap) v' := hsn; have hk2 : Kp (In (.slice (some ⟨g, 0, none⟩) m cap)) _ w3 := hk1; have hnp : ¬ In (.slice (some ⟨g, 0, none⟩) m cap) p := (fun h => hgp (by simpa [In, Value.ownBlock] using h)); have k1 := (hk2.cell 0 (show p < (w2.alloc _).heap.size by simp; omega) hnp).trans ((World.cell?_alloc_past _ _ _ hlt2).trans k0); have e1 := (hk2.frozen 0 (show p < (w2.alloc _).heap.size by simp; omega) hnp).trans ((World.frozen?_alloc_past _ _ _ hlt2).trans e0); have HO1 := Lib.hid hown1; have HK2 := Lib.hid hk2; have HSN := Lib.hid hsn2; obtain ⟨ao1, cap1, rfl⟩ := HO1.out.slice; clear hown1 hsn hk1 hk2 hsn2))
  go_ret2
  have hs1 : SameOrNew w2 (.slice (some ⟨g, 0, none⟩) m cap) (.slice ao1 (m + 1) cap1) := HSN.out.mono (by simp)
  have hne := hs1.ne hlt2 (fun h => hgp (by simpa [Value.ownBlock] using h))
  have hkw : Kp (In (.slice (some ⟨g, 0, none⟩) m cap)) w2 w3 := ((Kp.refl _ w2).alloc _).trans HK2.out
  have hs0 : SameOrNew w (.slice (some ⟨g, 0, none⟩) L.length cap) (.slice ao1 (m + 1) cap1) := by
    rcases hs1 with h | h
    · exact Or.inl (h.trans (by simp [Value.ownBlock]))
    · exact Or.inr (fun k hk => Nat.le_trans (Nat.le_trans HK0.out.size HK.out.size) (h k hk))
  have hk12 : Kp (fun k => k = p ∨ In (.slice (some ⟨g, 0, none⟩) L.length cap) k) w w2 := (HK0.out.mono (fun _ _ h => h.elim)).trans (HK.out.mono (fun k _ h => Or.inr (by simp [In, Value.ownBlock, h.symm])))
  refine ⟨by rw [← HY.out]; rfl, ⟨_, ⟨heap_set (HK2.out.keep (heap_old _ HH2.out) (fun h => hgp (by simpa [In, Value.ownBlock] using h))) _, ?_, hne⟩, hs0⟩, (hk12.trans (hkw.mono (fun k _ h => Or.inr (by simpa [In, Value.ownBlock] using h)))).setCell _ _ (Or.inl (Or.inl rfl))⟩
  have hl : (Turn i L).length = m + 1 := by rw [Turn_len hx, HM.out]; omega
  rw [hl, show Sc (Turn i L) = Sc (L.take i ++ L.drop (i + 1)) ++ [.string y] by unfold Turn Cut; rw [HY.out]; simp [Sc]]
  exact Own.keep HO1.out ((Kp.refl (· = p) w3).setCell ⟨p, 0, none⟩ _ (Or.inl rfl)) (fun k hk h => hne (by rw [hk, h]))
end Go.Proofs.Ytbiahndpfbmoeaa
