/- What the reference's ring does where it lies in another block. Condition: it holds no name twice, and no more than fit into memory. -/
import Derived.Test.YtbiahndpfbmoeaaRefRing3
namespace Go.Proofs.Ytbiahndpfbmoeaa
open Go.RowKit

/-- cell o of block p is the reference's ring of these names; v is its slice -/
structure RfG (w : World) (p o : Nat) (cs : Array Value) (T : TypeId) (v : Value) (L : List ByteArray) : Prop where
  head : w.heap[p]? = some (.cells cs T (0, 0))
  spot : cs[o]? = some v
  row : Own w 9 1 v L.length (Sc L)
theorem RfG.spotted {w : World} {p o : Nat} {cs : Array Value} {T : TypeId} {v : Value} {L : List ByteArray} (h : RfG w p o cs T v L) (v' : Value) : (cs.setIfInBounds o v')[o]? = some v' := by
  have hl := (Array.getElem?_eq_some_iff.1 h.spot).1
  simp [hl]
theorem gadd_no (p o : Nat) (cs : Array Value) (T : TypeId) (v : Value) (L : List ByteArray) (x : ByteArray) (w : World) (hp : RfG w p o cs T v L) (hx : Has x L = true) (hL : L.length ≤ 1000000000) :
    Calls Try.prog 15 #[.pointer (some ⟨p, o, none⟩), .string x] w fun e w' => e = .returned (.bool false) ∧ w = w' := by
  have c0 : w.cell? ⟨p, o, none⟩ = some v := (cell_of hp.head o).trans hp.spot
  obtain ⟨ao, cap, rfl⟩ := hp.row.slice
  have HS := Lib.hid (SRd.own hp.row rfl); have HZ := Lib.hid (Iz_of hx)
  clear hp hx
  go_enter Try.func15, Try.ntmps15
  go_wp2_with fail
  refine (rhas_any ao cap L x _ HS.out (by omega)).mono ?_; rintro e w1 ⟨rfl, rfl⟩
  rw [HZ.out]
  go_wp2_with fail
  go_ret
  exact ⟨rfl, rfl⟩
theorem gdrop_no (p o : Nat) (cs : Array Value) (T : TypeId) (v : Value) (L : List ByteArray) (x : ByteArray) (w : World) (hp : RfG w p o cs T v L) (hx : Has x L = false) (hL : L.length ≤ 1000000000) :
    Calls Try.prog 17 #[.pointer (some ⟨p, o, none⟩), .string x] w fun e w' => e = .returned (.bool false) ∧ w = w' := by
  have c0 : w.cell? ⟨p, o, none⟩ = some v := (cell_of hp.head o).trans hp.spot
  obtain ⟨ao, cap, rfl⟩ := hp.row.slice
  have HS := Lib.hid (SRd.own hp.row rfl); have HZ := Lib.hid (Iz_not hx)
  clear hp hx
  go_enter Try.func17, Try.ntmps17
  go_wp2_with fail
  refine (rhas_any ao cap L x _ HS.out (by omega)).mono ?_; rintro e w1 ⟨rfl, rfl⟩
  rw [HZ.out]
  go_wp2_with fail
  go_ret
  exact ⟨rfl, rfl⟩

set_option maxRecDepth 100000 in
theorem gadd_any (p o : Nat) (cs : Array Value) (T : TypeId) (v : Value) (L : List ByteArray) (x : ByteArray) (w : World) (hp : RfG w p o cs T v L) (hx : Has x L = false) (hL : L.length ≤ 1000000000) :
    Calls Try.prog 15 #[.pointer (some ⟨p, o, none⟩), .string x] w fun e w' => e = .returned (.bool true) ∧ (∃ v', RfG w' p o (cs.setIfInBounds o v') T v' (L ++ [x]) ∧ ∀ k, v'.ownBlock = some k → w.heap.size ≤ k) ∧ Kp (· = p) w w' := by
  have c0 : w.cell? ⟨p, o, none⟩ = some v := (cell_of hp.head o).trans hp.spot
  have f0 := frozen_of hp.head o
  have hlt := lt_of_block hp.head
  obtain ⟨ao, cap, rfl⟩ := hp.row.slice
  have HS := Lib.hid (SRd.own hp.row rfl); have HZ := Lib.hid (Iz_not hx)
  have hsrc := own_src hp.row rfl ((Kp.refl (fun _ => False) w).alloc (.cells #[] 9))
  have HN := Lib.hid hsrc.1; have HC := Lib.hid hsrc.2
  have HP := Lib.hid hp
  have HE := Lib.hid (own_weaken (World.ownsRow_lit (base := w.heap.size) (e := 9) (size := 1) w #[] 0 (Nat.le_refl _) (by unfold maxLen; omega) rfl))
  obtain ⟨i0, hi, hz0, hz1, hz2⟩ := info_parts str_info
  clear hp hx hsrc
  have c0a := (World.cell?_alloc_past (w := w) (.cells #[] 9) p o hlt).trans c0
  go_enter Try.func15, Try.ntmps15
  go_wp2_with fail
  refine (rhas_any ao cap L x _ HS.out (by omega)).mono ?_; rintro e w1 ⟨rfl, rfl⟩
  rw [HZ.out]
  go_wp2_with (first | (at_builtin; refine wpList_append_prec _ rfl _ _ 24 rfl 9 i0 _ 1 16 Try.underlying24 hi hz0 hz1 hz2 rfl (by decide) _ 0 [] rfl HE.out ao L.length cap (Sc L) rfl HN.out (Sc_len1 _) HC.out (Sc_one _) (by unfold maxLen; omega) (by omega) ?_; intro v2 w3 hown3 hk3 hsn3 _; rw [Nat.zero_add, List.nil_append] at hown3; have hk4 : Kp (In (.slice (some ⟨w.heap.size, 0, none⟩) 0 0)) (w.alloc (.cells #[] 9)) w3 := hk3; have hsn4 : SameOrNew (w.alloc (.cells #[] 9)) (.slice (some ⟨w.heap.size, 0, none⟩) 0 0) v2 := hsn3; have HO3 := Lib.hid hown3; have HSN3 := Lib.hid hsn4; have HK3 := Lib.hid hk4; obtain ⟨a3, c3, rfl⟩ := HO3.out.slice; clear hown3 hk3 hsn3 hk4 hsn4) | (at_builtin; refine wpList_append_prec _ rfl _ _ 24 rfl 9 i0 _ 1 16 Try.underlying24 hi hz0 hz1 hz2 rfl (by decide) _ L.length (Sc L) rfl (by exact HO3.out.alloc _) _ 1 1 [.string x] rfl (fun h => by cases h) rfl lit_news one_string (by unfold maxLen; omega) (by omega) ?_; intro v5 w5 hown5 hk5 hsn5 _; have hk6 : Kp (In (.slice a3 L.length c3)) (w3.alloc (.cells #[.string x] 9)) w5 := hk5; have hsn6 : SameOrNew (w3.alloc (.cells #[.string x] 9)) (.slice a3 L.length c3) v5 := hsn5; have HO5 := Lib.hid hown5; have HK5 := Lib.hid hk6; have HSN5 := Lib.hid hsn6; have hin3 := in_new HSN3.out; have hk3a := kp_new HK3.out; have hk5a : Kp (fun _ => False) w w5 := (hk3a.alloc (.cells #[.string x] 9)).trans_new HK5.out (fun k h1 h2 => absurd (hin3 k h2) (by omega)); have k0 := (hk5a.cell o hlt (fun h => h)).trans c0; have e0 := (hk5a.frozen o hlt (fun h => h)).trans f0; have HK5A := Lib.hid hk5a; have HIN3 := Lib.hid hin3; obtain ⟨a5, c5, rfl⟩ := HO5.out.slice; clear hown5 hk5 hsn5 hk6 hsn6 hin3 hk3a hk5a))
  go_ret
  have hnew : ∀ k, (Value.slice a5 (L.length + 1) c5).ownBlock = some k → w.heap.size ≤ k := fun k hk => by
    rcases HSN5.out with h | h
    · exact HIN3.out k (h.symm.trans hk)
    · have := h k hk
      have h3 := HK5A.out.size
      have h4 := HK3.out.size
      simp at this h4
      omega
  refine ⟨rfl, ⟨_, ⟨heap_set (HK5A.out.keep HP.out.head (fun h => h)) _, HP.out.spotted _, ?_⟩, hnew⟩, (HK5A.out.mono (fun _ _ h => h.elim)).setCell _ _ (Or.inl rfl)⟩
  have hl : (L ++ [x]).length = L.length + 1 := by simp
  rw [hl, show Sc (L ++ [x]) = Sc L ++ [.string x] by simp [Sc]]
  exact Own.keep HO5.out ((Kp.refl (· = p) w5).setCell ⟨p, o, none⟩ _ (Or.inl rfl)) (fun k hk h => by have := hnew k hk; have h3 : k = p := h; omega)
def Gdropped (p o : Nat) (cs : Array Value) (T : TypeId) (i : Nat) (L : List ByteArray) (w : World) (e : Ending) (w' : World) : Prop := e = .returned (.bool true) ∧ (∃ v', RfG w' p o (cs.setIfInBounds o v') T v' (Cut i L) ∧ ∀ k, v'.ownBlock = some k → w.heap.size ≤ k) ∧ Kp (· = p) w w'
theorem gdrop_close {w w5 : World} {p o i g cap m : Nat} {cs : Array Value} {T : TypeId} {v5 : Value} {L : List ByteArray} (hp : RfG w p o cs T (.slice (some ⟨g, 0, none⟩) L.length cap) L) (hlt : p < w.heap.size) (hi : i < L.length) (hm : m = L.length - 1)
    (ho : w5.ownsRow w.heap.size 9 1 v5 m (Sc (L.take i) ++ Sc (L.drop (i + 1)))) (hk : Kp (fun _ => False) w w5) :
    Gdropped p o cs T i L w (.returned (.bool true)) (w5.setCell ⟨p, o, none⟩ v5) := by
  have hnew : ∀ k, v5.ownBlock = some k → w.heap.size ≤ k := fun k h => (World.ownsRow.lt ho k h).1
  refine ⟨rfl, ⟨v5, ⟨heap_set (hk.keep hp.head (fun h => h)) _, hp.spotted _, ?_⟩, hnew⟩, (hk.mono (fun _ _ h => h.elim)).setCell _ _ (Or.inl rfl)⟩
  rw [Cut_len hi, ← hm, show Sc (Cut i L) = Sc (L.take i) ++ Sc (L.drop (i + 1)) by unfold Cut; rw [Sc_app]]
  exact Own.keep (own_weaken ho) ((Kp.refl (· = p) w5).setCell ⟨p, o, none⟩ _ (Or.inl rfl)) (fun k hk' h => by have := hnew k hk'; have h3 : k = p := h; omega)
set_option maxRecDepth 100000 in
set_option maxHeartbeats 1600000 in
theorem gdrop_any (p o : Nat) (cs : Array Value) (T : TypeId) (v : Value) (L : List ByteArray) (x : ByteArray) (w : World) (hp : RfG w p o cs T v L) (hx : Has x L = true) (hL : L.length ≤ 1000000000) :
    Calls Try.prog 17 #[.pointer (some ⟨p, o, none⟩), .string x] w (Gdropped p o cs T (Ix x L) L w) := by
  have hi := Has_ix hx
  have hz := Iz_of hx
  obtain ⟨i, hI⟩ : ∃ i, i = Ix x L := ⟨_, rfl⟩
  rw [← hI] at hi hz ⊢
  have c0 : w.cell? ⟨p, o, none⟩ = some v := (cell_of hp.head o).trans hp.spot
  have f0 := frozen_of hp.head o
  have hlt := lt_of_block hp.head
  rcases hp.row.shape with ⟨_, h0, _⟩ | ⟨g, cap, rfl, hcap, hcm, hg⟩
  · omega
  have HP := Lib.hid hp
  have HS := Lib.hid (SRd.own hp.row rfl); have HZ := Lib.hid hz
  have HCE := Lib.hid (show ∀ w', Kp (fun _ => False) w w' → ∀ j u, (Sc L)[j]? = some u → w'.cell? ⟨g, j, none⟩ = some u from fun w' hk j u hu => (hk.cell _ hg (fun h => h)).trans (hp.row.cell hu))
  clear hp hx hz hI
  obtain ⟨i0, hi0, hz0, hz1, hz2⟩ := info_parts str_info
  have hw1 : IntKind.i64.wrap ((i : Int) + 1) = (i : Int) + 1 := IntWalk.i64_in _ (by omega)
  have q1 : (0 : Int) ≤ (i : Int) := by omega
  have q2 : (i : Int) ≤ (cap : Int) := by omega
  have q3 : (0 : Int) ≤ (i : Int) + 1 := by omega
  have q4 : (i : Int) + 1 ≤ (L.length : Int) := by omega
  have q5 : ((i : Int) + 1).toNat = i + 1 := by omega
  have hd0 := World.ownsRow_lit (base := w.heap.size) (e := 9) (size := 1) w.drew #[] 0 (Nat.le_refl _) (by unfold maxLen; omega) rfl
  have HD0 := Lib.hid hd0; clear hd0
  have HN1 := Lib.hid (show ∀ j u, (Sc (L.take i))[j]? = some u → (w.drew.alloc (.cells #[] 9)).cell? ((⟨g, 0, none⟩ : Addr).add j) = some u from fun j u hu => by
    rw [Addr.add_lit, Nat.zero_add]
    refine HCE.out _ (((Kp.refl _ w).drew).alloc _) j u ?_
    rw [Sc, List.map_take, List.getElem?_take] at hu
    split at hu
    · exact hu
    · cases hu)
  have hl1 : (Sc (L.take i)).length = i * 1 := by rw [Sc_len, List.length_take]; omega
  have hl2 : (Sc (L.drop (i + 1))).length = (L.length - (i + 1)) * 1 := by rw [Sc_len, List.length_drop]; omega
  have HL1 := Lib.hid hl1; have HL2 := Lib.hid hl2; clear hl1 hl2
  by_cases hcc : cap = i + 1
  · subst hcc
    have hLl : L.length = i + 1 := by omega
    have HN2 := Lib.hid (show ∀ w', Kp (fun _ => False) w w' → ∀ j u, (Sc (L.drop (i + 1)))[j]? = some u → w'.cell? ((⟨g, 0, none⟩ : Addr).add j) = some u from fun w' hk j u hu => by
      rw [List.drop_eq_nil_of_le (by omega)] at hu
      simp [Sc] at hu)
    have hl3 : (Sc (L.drop (i + 1))).length = 0 * 1 := by rw [Sc_len, List.length_drop]; omega
    clear hLl HL2
    have HL2 := Lib.hid hl3
    clear hl3
    have q6 : (i : Int) ≤ (i : Int) + 1 := by omega
    go_enter Try.func17, Try.ntmps17
    go_wp2_with fail
    refine (rhas_any _ (i + 1) L x _ HS.out (by omega)).mono ?_; rintro e w1 ⟨rfl, rfl⟩
    rw [HZ.out]
    go_wp2_with fail
    go_region_law (first | (refine step_append_own rfl _ _ 24 rfl w.heap.size 9 i0 _ 1 16 Try.underlying24 hi0 hz0 hz1 hz2 rfl (by decide) _ 0 [] rfl HD0.out ⟨g, 0, none⟩ i (i + 1) (Sc (L.take i)) rfl HL1.out HN1.out (Sc_one _) (by unfold maxLen; omega) (by omega) (by simp) ?_; intro v3 w3 hown3 hg3 hnil3; have hk3 : Kp (fun _ => False) w w3 := (Kp.refl _ w).drew.trans (kp_new (w := w.drew) (o := .cells #[] 9) (Kp.of_grown' (v := .slice (some ⟨w.drew.heap.size, 0, none⟩) 0 0) hg3)); have k0 := (hk3.cell o hlt (fun h => h)).trans c0; have e0 := (hk3.frozen o hlt (fun h => h)).trans f0; have HO3 := Lib.hid hown3; have HK3 := Lib.hid hk3; clear hown3 hg3 hnil3 hk3) | (refine step_append_own rfl _ _ 24 rfl w.heap.size 9 i0 _ 1 16 Try.underlying24 hi0 hz0 hz1 hz2 rfl (by decide) _ _ _ rfl HO3.out ⟨g, 0, none⟩ 0 0 (Sc (L.drop (i + 1))) rfl HL2.out (HN2.out _ HK3.out) (Sc_one _) (by unfold maxLen; omega) (by omega) HK3.out.size ?_; intro v5 w5 hown5 hg5 hnil5; have HK5 := Lib.hid (kp_own HK3.out HO3.out hg5); have HO5 := Lib.hid hown5; have k5 := (HK5.out.cell o hlt (fun h => h)).trans c0; have e5 := (HK5.out.frozen o hlt (fun h => h)).trans f0; obtain ⟨a5, c5, rfl⟩ := (own_weaken hown5).slice; clear hown5 hg5 hnil5))
    all_goals
      go_wp2_with fail
      go_ret
      exact gdrop_close (m := i + 0) HP.out hlt hi (by omega) (by have h := HO5.out; rw [List.nil_append, Nat.zero_add] at h; exact h) HK5.out
  have HN2 := Lib.hid (show ∀ w', Kp (fun _ => False) w w' → ∀ j u, (Sc (L.drop (i + 1)))[j]? = some u → w'.cell? ((⟨g, i + 1, none⟩ : Addr).add j) = some u from fun w' hk j u hu => by
    rw [Addr.add_lit]
    refine HCE.out _ hk (i + 1 + j) u ?_
    rw [Sc, List.map_drop, List.getElem?_drop] at hu
    exact hu)
  go_enter Try.func17, Try.ntmps17
  go_wp2_with fail
  refine (rhas_any _ cap L x _ HS.out (by omega)).mono ?_; rintro e w1 ⟨rfl, rfl⟩
  rw [HZ.out]
  go_wp2_with fail
  go_region_law (first | (refine step_append_own rfl _ _ 24 rfl w.heap.size 9 i0 _ 1 16 Try.underlying24 hi0 hz0 hz1 hz2 rfl (by decide) _ 0 [] rfl HD0.out ⟨g, 0, none⟩ i cap (Sc (L.take i)) rfl HL1.out HN1.out (Sc_one _) (by unfold maxLen; omega) (by omega) (by simp) ?_; intro v3 w3 hown3 hg3 hnil3; have hk3 : Kp (fun _ => False) w w3 := (Kp.refl _ w).drew.trans (kp_new (w := w.drew) (o := .cells #[] 9) (Kp.of_grown' (v := .slice (some ⟨w.drew.heap.size, 0, none⟩) 0 0) hg3)); have k0 := (hk3.cell o hlt (fun h => h)).trans c0; have e0 := (hk3.frozen o hlt (fun h => h)).trans f0; have HO3 := Lib.hid hown3; have HK3 := Lib.hid hk3; clear hown3 hg3 hnil3 hk3) | (refine step_append_own rfl _ _ 24 rfl w.heap.size 9 i0 _ 1 16 Try.underlying24 hi0 hz0 hz1 hz2 rfl (by decide) _ _ _ rfl HO3.out ⟨g, i + 1, none⟩ (L.length - (i + 1)) (cap - (i + 1)) (Sc (L.drop (i + 1))) rfl HL2.out (HN2.out _ HK3.out) (Sc_one _) (by unfold maxLen; omega) (by omega) HK3.out.size ?_; intro v5 w5 hown5 hg5 hnil5; have HK5 := Lib.hid (kp_own HK3.out HO3.out hg5); have HO5 := Lib.hid hown5; have k5 := (HK5.out.cell o hlt (fun h => h)).trans c0; have e5 := (HK5.out.frozen o hlt (fun h => h)).trans f0; obtain ⟨a5, c5, rfl⟩ := (own_weaken hown5).slice; clear hown5 hg5 hnil5))
  all_goals
    go_wp2_with fail
    go_ret
    exact gdrop_close (m := i + (L.length - (i + 1))) HP.out hlt hi (by omega) (by have h := HO5.out; rw [List.nil_append, Nat.zero_add] at h; exact h) HK5.out
def Gturn (p o : Nat) (cs : Array Value) (T : TypeId) (i : Nat) (L : List ByteArray) (w : World) (e : Ending) (w' : World) : Prop := e = .returned (.tuple #[.string (L.getD i ByteArray.empty), .bool true]) ∧ (∃ v', RfG w' p o (cs.setIfInBounds o v') T v' (Turn i L) ∧ ∀ k, v'.ownBlock = some k → w.heap.size ≤ k) ∧ Kp (· = p) w w'
/-- what Next hands back -/
def Gnext (p o : Nat) (cs : Array Value) (T : TypeId) (R L : List ByteArray) (w : World) (e : Ending) (w' : World) : Prop :=
  if Fx R L < L.length then Gturn p o cs T (Fx R L) L w e w' else e = .returned (.tuple #[.string ByteArray.empty, .bool false]) ∧ w = w'
theorem gnext_any (p o : Nat) (cs : Array Value) (T : TypeId) (v : Value) (L R : List ByteArray) (ar : Option Addr) (cr : Nat) (w : World) (hp : RfG w p o cs T v L) (hr : SRd w ar R) (hL : L.length ≤ 100000000) (hR : R.length ≤ 1000000000) (hn : L.Nodup) :
    Calls Try.prog 19 #[.pointer (some ⟨p, o, none⟩), .slice ar R.length cr] w (Gnext p o cs T R L w) := by
  have c0 : w.cell? ⟨p, o, none⟩ = some v := (cell_of hp.head o).trans hp.spot
  obtain ⟨ao, cap, rfl⟩ := hp.row.slice
  have HS := Lib.hid (SRd.own hp.row rfl); have HR := Lib.hid hr; have HP := Lib.hid hp; have HN := Lib.hid hn
  clear hp hr hn
  go_enter Try.func19, Try.ntmps19
  go_wp2_with fail
  go_loopg [6] L.length (fun k i wr => ∃ j : Nat, k = L.length - j ∧ j ≤ L.length ∧ i = .int .i64 j ∧ wr = w ∧ ∀ t, t < j → Has (L.getD t ByteArray.empty) R = false)
  case atStart => exact ⟨0, rfl, Nat.zero_le _, rfl, rfl, fun t ht => absurd ht (Nat.not_lt_zero _)⟩
  case round =>
    obtain ⟨j, hk, hj, rfl, rfl, hno⟩ := hrel
    have HKk := Lib.hid hk; have HNO := Lib.hid hno; clear hk hno
    by_cases hlt : j < L.length
    · obtain ⟨bb, off, rfl, _, hc'⟩ := HS.out j hlt
      obtain ⟨y, hy⟩ : ∃ y, y = L.getD j ByteArray.empty := ⟨_, rfl⟩
      have hc : wr.cell? ⟨bb, off + j, none⟩ = some (.string (L.getD j ByteArray.empty)) := hc'
      clear hc'
      rw [← hy] at hc
      have HY := Lib.hid hy; clear hy
      go_wp2_with fail
      refine (rhas_any ar cr R y _ HR.out (by omega)).mono ?_; rintro e w1 ⟨rfl, rfl⟩
      cases hyx : Has y R with
      | true =>
        have HF := Lib.hid (Fx_eq hlt HNO.out (by rw [← HY.out]; exact hyx))
        have hIx : Ix y L = j := by
          have h1 := Ix_min hlt HY.out.symm
          have h2 := Fx_le_Ix hyx L
          rw [HF.out] at h2
          omega
        have hyL : Has y L = true := by unfold Has; rw [decide_eq_true_eq, hIx]; exact hlt
        have hcn := cut_not hlt HN.out
        rw [← HY.out] at hcn
        have HIX := Lib.hid hIx; have HYL := Lib.hid hyL; have HCN := Lib.hid hcn
        rw [Iz_of hyx]
        clear hIx hyL hcn hyx
        go_wp2_with fail
        refine (gdrop_any p o cs T _ L y _ HP.out HYL.out (by omega)).mono ?_; rintro e w2 ⟨rfl, ⟨v2, hp2, hv2⟩, hk2⟩
        rw [HIX.out] at hp2
        have HP2 := Lib.hid hp2; have HV2 := Lib.hid hv2; have HK2 := Lib.hid hk2; clear hp2 hv2 hk2
        go_wp2_with fail
        refine (gadd_any p o _ T v2 (Cut j L) y _ HP2.out HCN.out (by rw [Cut_len hlt]; omega)).mono ?_; rintro e w3 ⟨rfl, ⟨v3, hp3, hv3⟩, hk3⟩
        have HP3 := Lib.hid hp3; have HV3 := Lib.hid hv3; have HK3 := Lib.hid hk3; clear hp3 hv3 hk3
        go_wp2_with fail
        go_ret2
        unfold Gnext
        rw [HF.out, if_pos hlt]
        refine ⟨by rw [← HY.out]; rfl, ⟨v3, ?_, fun k hk => Nat.le_trans HK2.out.size (HV3.out k hk)⟩, HK2.out.trans HK3.out⟩
        unfold Turn
        rw [← HY.out]
        have h3 := HP3.out
        rw [Array.setIfInBounds_setIfInBounds] at h3
        exact h3
      | false =>
        have HX := Lib.hid hyx
        rw [Iz_not hyx]
        clear hyx
        go_wp2_with fail
        go_roundg (L.length - (j + 1))
        case measure => rw [HKk.out]; omega
        case rel => exact ⟨j + 1, rfl, by omega, by go_num, rfl, fun t ht => by
          by_cases e : t = j
          · subst e; rw [← HY.out]; exact HX.out
          · exact HNO.out t (by omega)⟩
    · have hge := Fx_ge (Nat.le_refl L.length) (fun t ht => HNO.out t (by omega))
      have HGE := Lib.hid hge; clear hge
      go_wp2_with fail
      go_ret2
      unfold Gnext
      rw [if_neg (by have := HGE.out; omega)]
      exact ⟨rfl, rfl⟩
end Go.Proofs.Ytbiahndpfbmoeaa
