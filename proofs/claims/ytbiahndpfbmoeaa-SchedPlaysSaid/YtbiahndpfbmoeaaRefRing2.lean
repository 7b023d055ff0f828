/- What the reference's ring does, the rest: Drop. Condition: it holds no more names than fit into memory. -/
import Derived.Test.YtbiahndpfbmoeaaRefRing
namespace Go.Proofs.Ytbiahndpfbmoeaa
open Go.RowKit

theorem step_append_own {P : Program} {w : World} {ops : Array Oper} {o : Oper} {a : Act} {K : Act → World → Prop} {Q : Exit → Act → World → Prop} {E : Prop} (hgd : o.guard = none) (s x : Operand) (t : TypeId)
    (ho : o.op = .call { callee := .builtin .append, args := #[s, x], argTypes := #[t, t] })
    (base : Nat) (e : TypeId) (i : TypeInfo) (z : Value) (size bytes : Nat) (ht : P.underlying t = some (.slice e)) (hi : P.info? e = some i) (hz : i.zero = some z)
    (hsize : i.size = size) (hby : i.bytes = bytes) (hzs : z.cells.size = size) (hsz : 0 < size)
    (v : Value) (n : Nat) (xs : List Value) (hs : a.eval s = v) (hown : w.ownsRow base e size v n xs)
    (ad : Addr) (m c : Nat) (news : List Value) (hx : a.eval x = .slice (some ad) m c) (hl : news.length = m * size) (hnews : ∀ j u, news[j]? = some u → w.cell? (ad.add j) = some u) (h1 : ∀ u ∈ news, u.oneCell' = true)
    (h63 : n + m ≤ maxLen) (hbytes : (n + m) * bytes ≤ 140737488355328) (hbase : base ≤ w.heap.size)
    (h : ∀ v' w', w'.ownsRow base e size v' (n + m) (xs ++ news) → w.grownBy w' v.ownBlock → (v' = .slice none 0 0 ↔ v = .slice none 0 0 ∧ m = 0) → K (a.put o.dst v') w') :
    if Region.wanted o (yielded ops a.tmps) = true then Oper.wp P o a w K Q else E := by
  have hw : Region.wanted o (yielded ops a.tmps) = true := by simp [Region.wanted, hgd]
  rw [if_pos hw]
  exact wp_append_own w s x t ho base e i z size bytes ht hi hz hsize hby hzs hsz v n xs hs hown ad m c news hx hl hnews h1 h63 hbytes hbase h

theorem kp_own {w w3 w5 : World} {v : Value} {e : TypeId} {sz n : Nat} {xs : List Value} (hk : Kp (fun _ => False) w w3) (ho : w3.ownsRow w.heap.size e sz v n xs) (hg : w3.grownBy w5 v.ownBlock) : Kp (fun _ => False) w w5 :=
  hk.trans_new (Kp.of_grown' hg) (fun k h1 h2 => by have := (World.ownsRow.lt ho k h2).1; omega)
def Fdropped (p i : Nat) (L : List ByteArray) (w : World) (e : Ending) (w' : World) : Prop := e = .returned (.bool true) ∧ (∃ v', RfAt w' p v' (Cut i L) ∧ ∀ k, v'.ownBlock = some k → w.heap.size ≤ k) ∧ Kp (· = p) w w'
theorem fdrop_close {w w5 : World} {p i g cap m : Nat} {v5 : Value} {L : List ByteArray} (hp : RfAt w p (.slice (some ⟨g, 0, none⟩) L.length cap) L) (hlt : p < w.heap.size) (hi : i < L.length) (hm : m = L.length - 1)
    (ho : w5.ownsRow w.heap.size 9 1 v5 m (Sc (L.take i) ++ Sc (L.drop (i + 1)))) (hk : Kp (fun _ => False) w w5) :
    Fdropped p i L w (.returned (.bool true)) (w5.setCell ⟨p, 0, none⟩ v5) := by
  have hnew : ∀ k, v5.ownBlock = some k → w.heap.size ≤ k := fun k h => (World.ownsRow.lt ho k h).1
  refine ⟨rfl, ⟨v5, ⟨heap_set (hk.keep hp.head (fun h => h)) _, ?_, fun h => by have := hnew _ h; omega⟩, hnew⟩, (hk.mono (fun _ _ h => h.elim)).setCell _ _ (Or.inl rfl)⟩
  rw [Cut_len hi, ← hm, show Sc (Cut i L) = Sc (L.take i) ++ Sc (L.drop (i + 1)) by unfold Cut; rw [Sc_app]]
  exact Own.keep (own_weaken ho) ((Kp.refl (· = p) w5).setCell ⟨p, 0, none⟩ _ (Or.inl rfl)) (fun k hk' h => by have := hnew k hk'; have h3 : k = p := h; omega)
set_option maxRecDepth 100000 in
set_option maxHeartbeats 1600000 in
theorem fdrop_any (p : Nat) (v : Value) (L : List ByteArray) (x : ByteArray) (w : World) (hp : RfAt w p v L) (hx : Has x L = true) (hL : L.length ≤ 1000000000) :
    Calls Try.prog 17 #[.pointer (some ⟨p, 0, none⟩), .string x] w (Fdropped p (Ix x L) L w) := by
  have hi := Has_ix hx
  have hz := Iz_of hx
  obtain ⟨i, hI⟩ : ∃ i, i = Ix x L := ⟨_, rfl⟩
  rw [← hI] at hi hz ⊢
  have c0 := cell_of hp.head 0
  simp only [List.getElem?_toArray, List.getElem?_cons_zero] at c0
  have f0 := frozen_of hp.head 0
  have hlt := lt_of_block hp.head
  rcases hp.row.shape with ⟨_, h0, _⟩ | ⟨g, cap, rfl, hcap, hcm, hg⟩
  · omega
  have HP := Lib.hid hp
  have HS := Lib.hid (SRd.own hp.row rfl); have HZ := Lib.hid hz
  have HCE := Lib.hid (show ∀ w', Kp (fun _ => False) w w' → ∀ j u, (Sc L)[j]? = some u → w'.cell? ⟨g, j, none⟩ = some u from fun w' hk j u hu => (hk.cell _ hg (fun h => h)).trans (hp.row.cell hu))
  clear hp hx hz hI
  obtain ⟨i0, hi0, hz0, hz1, hz2⟩ := info_parts str_info
  have hw1 : IntKind.i64.wrap ((i : Int) + 1) = (i : Int) + 1 := IntWalk.i64_in _ (by omega)
  have q1 : (0 : Int) ≤ (i : Int) := by omega
  have q2 : (i : Int) ≤ (cap : Int) := by omega
  have q3 : (0 : Int) ≤ (i : Int) + 1 := by omega
  have q4 : (i : Int) + 1 ≤ (L.length : Int) := by omega
  have q5 : ((i : Int) + 1).toNat = i + 1 := by omega
  have hd0 := World.ownsRow_lit (base := w.heap.size) (e := 9) (size := 1) w.drew #[] 0 (Nat.le_refl _) (by unfold maxLen; omega) rfl
  have HD0 := Lib.hid hd0; clear hd0
  have HN1 := Lib.hid (show ∀ j u, (Sc (L.take i))[j]? = some u → (w.drew.alloc (.cells #[] 9)).cell? ((⟨g, 0, none⟩ : Addr).add j) = some u from fun j u hu => by
    rw [Addr.add_lit, Nat.zero_add]
    refine HCE.out _ (((Kp.refl _ w).drew).alloc _) j u ?_
    rw [Sc, List.map_take, List.getElem?_take] at hu
    split at hu
    · exact hu
    · cases hu)
  have hl1 : (Sc (L.take i)).length = i * 1 := by rw [Sc_len, List.length_take]; omega
  have hl2 : (Sc (L.drop (i + 1))).length = (L.length - (i + 1)) * 1 := by rw [Sc_len, List.length_drop]; omega
  have HL1 := Lib.hid hl1; have HL2 := Lib.hid hl2; clear hl1 hl2
  by_cases hcc : cap = i + 1
  · subst hcc
    have hLl : L.length = i + 1 := by omega
    have HN2 := Lib.hid (show ∀ w', Kp (fun _ => False) w w' → ∀ j u, (Sc (L.drop (i + 1)))[j]? = some u → w'.cell? ((⟨g, 0, none⟩ : Addr).add j) = some u from fun w' hk j u hu => by
      rw [List.drop_eq_nil_of_le (by omega)] at hu
      simp [Sc] at hu)
    have hl3 : (Sc (L.drop (i + 1))).length = 0 * 1 := by rw [Sc_len, List.length_drop]; omega
    clear hLl HL2
    have HL2 := Lib.hid hl3
    clear hl3
    have q6 : (i : Int) ≤ (i : Int) + 1 := by omega
    go_enter Try.func17, Try.ntmps17
    go_wp2_with fail
    refine (rhas_any _ (i + 1) L x _ HS.out (by omega)).mono ?_; rintro e w1 ⟨rfl, rfl⟩
    rw [HZ.out]
    go_wp2_with fail
    go_region_law (first | (refine step_append_own rfl _ _ 24 rfl w.heap.size 9 i0 _ 1 16 Try.underlying24 hi0 hz0 hz1 hz2 rfl (by decide) _ 0 [] rfl HD0.out ⟨g, 0, none⟩ i (i + 1) (Sc (L.take i)) rfl HL1.out HN1.out (Sc_one _) (by unfold maxLen; omega) (by omega) (by simp) ?_; intro v3 w3 hown3 hg3 hnil3; have hk3 : Kp (fun _ => False) w w3 := (Kp.refl _ w).drew.trans (kp_new (w := w.drew) (o := .cells #[] 9) (Kp.of_grown' (v := .slice (some ⟨w.drew.heap.size, 0, none⟩) 0 0) hg3)); have k0 := (hk3.cell 0 hlt (fun h => h)).trans c0; have e0 := (hk3.frozen 0 hlt (fun h => h)).trans f0; have HO3 := Lib.hid hown3; have HK3 := Lib.hid hk3; clear hown3 hg3 hnil3 hk3) | (refine step_append_own rfl _ _ 24 rfl w.heap.size 9 i0 _ 1 16 Try.underlying24 hi0 hz0 hz1 hz2 rfl (by decide) _ _ _ rfl HO3.out ⟨g, 0, none⟩ 0 0 (Sc (L.drop (i + 1))) rfl HL2.out (HN2.out _ HK3.out) (Sc_one _) (by unfold maxLen; omega) (by omega) HK3.out.size ?_; intro v5 w5 hown5 hg5 hnil5; have HK5 := Lib.hid (kp_own HK3.out HO3.out hg5); have HO5 := Lib.hid hown5; have k5 := (HK5.out.cell 0 hlt (fun h => h)).trans c0; have e5 := (HK5.out.frozen 0 hlt (fun h => h)).trans f0; obtain ⟨a5, c5, rfl⟩ := (own_weaken hown5).slice; clear hown5 hg5 hnil5))
    all_goals
      go_wp2_with fail
      go_ret
      exact fdrop_close (m := i + 0) HP.out hlt hi (by omega) (by have h := HO5.out; rw [List.nil_append, Nat.zero_add] at h; exact h) HK5.out
  have HN2 := Lib.hid (show ∀ w', Kp (fun _ => False) w w' → ∀ j u, (Sc (L.drop (i + 1)))[j]? = some u → w'.cell? ((⟨g, i + 1, none⟩ : Addr).add j) = some u from fun w' hk j u hu => by
    rw [Addr.add_lit]
    refine HCE.out _ hk (i + 1 + j) u ?_
    rw [Sc, List.map_drop, List.getElem?_drop] at hu
    exact hu)
  go_enter Try.func17, Try.ntmps17
  go_wp2_with fail
  refine (rhas_any _ cap L x _ HS.out (by omega)).mono ?_; rintro e w1 ⟨rfl, rfl⟩
  rw [HZ.out]
  go_wp2_with fail
  go_region_law (first | (refine step_append_own rfl _ _ 24 rfl w.heap.size 9 i0 _ 1 16 Try.underlying24 hi0 hz0 hz1 hz2 rfl (by decide) _ 0 [] rfl HD0.out ⟨g, 0, none⟩ i cap (Sc (L.take i)) rfl HL1.out HN1.out (Sc_one _) (by unfold maxLen; omega) (by omega) (by simp) ?_; intro v3 w3 hown3 hg3 hnil3; have hk3 : Kp (fun _ => False) w w3 := (Kp.refl _ w).drew.trans (kp_new (w := w.drew) (o := .cells #[] 9) (Kp.of_grown' (v := .slice (some ⟨w.drew.heap.size, 0, none⟩) 0 0) hg3)); have k0 := (hk3.cell 0 hlt (fun h => h)).trans c0; have e0 := (hk3.frozen 0 hlt (fun h => h)).trans f0; have HO3 := Lib.hid hown3; have HK3 := Lib.hid hk3; clear hown3 hg3 hnil3 hk3) | (refine step_append_own rfl _ _ 24 rfl w.heap.size 9 i0 _ 1 16 Try.underlying24 hi0 hz0 hz1 hz2 rfl (by decide) _ _ _ rfl HO3.out ⟨g, i + 1, none⟩ (L.length - (i + 1)) (cap - (i + 1)) (Sc (L.drop (i + 1))) rfl HL2.out (HN2.out _ HK3.out) (Sc_one _) (by unfold maxLen; omega) (by omega) HK3.out.size ?_; intro v5 w5 hown5 hg5 hnil5; have HK5 := Lib.hid (kp_own HK3.out HO3.out hg5); have HO5 := Lib.hid hown5; have k5 := (HK5.out.cell 0 hlt (fun h => h)).trans c0; have e5 := (HK5.out.frozen 0 hlt (fun h => h)).trans f0; obtain ⟨a5, c5, rfl⟩ := (own_weaken hown5).slice; clear hown5 hg5 hnil5))
  all_goals
    go_wp2_with fail
    go_ret
    exact fdrop_close (m := i + (L.length - (i + 1))) HP.out hlt hi (by omega) (by have h := HO5.out; rw [List.nil_append, Nat.zero_add] at h; exact h) HK5.out
end Go.Proofs.Ytbiahndpfbmoeaa
