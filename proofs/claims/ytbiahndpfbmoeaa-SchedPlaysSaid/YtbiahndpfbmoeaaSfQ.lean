/- What the law's look at both does: it finds them alike. Condition: there are no more recipients than fit into memory. -/
import Derived.Test.YtbiahndpfbmoeaaSfM
import Derived.Test.YtbiahndpfbmoeaaSfA
import Derived.Test.YtbiahndpfbmoeaaSfE
namespace Go.Proofs.Ytbiahndpfbmoeaa
open Go.RowKit SatAid Go.Deep

theorem TRd.keep {w w' : World} {ao : Option Addr} {T : List (Int × Int × ByteArray)} (h : TRd w ao T) (hk : Kp (fun _ => False) w w') : TRd w' ao T := by
  intro i x hx
  obtain ⟨g, e, hg, c0, c1, c2⟩ := h i x hx
  exact ⟨g, e, Nat.lt_of_lt_of_le hg hk.size, (hk.cell _ hg (fun h => h)).trans c0, (hk.cell _ hg (fun h => h)).trans c1, (hk.cell _ hg (fun h => h)).trans c2⟩
def Alike (W w : World) (p q N : Nat) (s r : Sd) (now : Int) (e : Ending) (w' : World) : Prop :=
  e = .returned (.bool true) ∧ ∃ s' r', SJ W w' p s' q r' N ∧ Nx w w' s s' r r' ∧ Alk now s' r'
set_option maxRecDepth 100000 in
set_option maxHeartbeats 6400000 in
theorem alike_any {W w : World} {p q N : Nat} {s r : Sd} {now : Int} (h : SJ W w p s q r N) (ha : Alk now s r) (hn2 : now ≤ 1099511627776) (hN : N ≤ 1000000) :
    Calls Try.prog 34 #[.pointer (some ⟨p, 0, none⟩), .pointer (some ⟨q, 0, none⟩), .int .i64 now] w (Alike W w p q N s r now) := by
  obtain ⟨vl, vp, hm⟩ := h.mi
  obtain ⟨al, cl, hvl⟩ := hm.lst.slice
  obtain ⟨L, hL⟩ : ∃ L, L = (ab s).W.length := ⟨_, rfl⟩
  have hL2 : r.Ws.length = L := by rw [hL, ha.aq.W.length_eq]; show _ = (r.Ws.map wx).length; rw [List.length_map]
  obtain ⟨T, hT⟩ : ∃ T, T = aStarts (ab s) := ⟨_, rfl⟩
  have hT2 : aStarts (ab r) = T := by rw [hT]; exact (ha.aq.starts h.uk).symm
  have hTl : s.G.length = T.length := by rw [hT]; unfold aStarts; rw [List.length_map]; rfl
  have hTr : r.G.length = T.length := by rw [← hT2]; unfold aStarts; rw [List.length_map]; rfl
  have hTm : T.length ≤ 1000000 := by rw [← hTr]; exact Nat.le_trans hm.glen hN
  have hgng := hm.gng
  rw [hT2] at hgng
  obtain ⟨bG, cG, hvg, hbG⟩ := TRd.own hgng hTr
  obtain ⟨Q0, hQ0⟩ : ∃ Q, Q = s.A0 := ⟨_, rfl⟩
  obtain ⟨Q1, hQ1⟩ : ∃ Q, Q = s.A1 := ⟨_, rfl⟩
  have hR0 : r.A0 = Q0 := by rw [hQ0]; exact ha.aq.A0.symm
  have hR1 : r.A1 = Q1 := by rw [hQ1]; exact ha.aq.A1.symm
  have hg0 := hm.rg0
  have hg1 := hm.rg1
  rw [hR0] at hg0
  rw [hR1] at hg1
  obtain ⟨a0, k0, hv0⟩ := hg0.slice
  obtain ⟨a1, k1, hv1⟩ := hg1.slice
  have hs0 := SRd.own hg0 hv0
  have hs1 := SRd.own hg1 hv1
  have hm0 : Q0.length ≤ 1000000000 := by rw [← hR0]; exact Nat.le_trans hm.l0 (by omega)
  have hm1 : Q1.length ≤ 1000000000 := by rw [← hR1]; exact Nat.le_trans hm.l1 (by omega)
  have c12 : w.cell? ⟨q, 12, none⟩ = some (.slice al L cl) := (cell_of hm.head 12).trans (by show some vl = _; rw [hvl, hL2])
  have c13 : w.cell? ⟨q, 13, none⟩ = some (.slice bG T.length cG) := (cell_of hm.head 13).trans (by show some r.vg = _; rw [hvg])
  have c15 : w.cell? ⟨q, 15, none⟩ = some (.slice a0 Q0.length k0) := (cell_of hm.head 15).trans (by show some r.v0 = _; rw [hv0])
  have c16 : w.cell? ⟨q, 16, none⟩ = some (.slice a1 Q1.length k1) := (cell_of hm.head 16).trans (by show some r.v1 = _; rw [hv1])
  have lq := lt_of_block hm.head
  have HK := Lib.hid (show ∀ w', Kp (fun _ => False) w w' → w'.cell? ⟨q, 12, none⟩ = some (.slice al L cl) ∧ w'.cell? ⟨q, 13, none⟩ = some (.slice bG T.length cG) ∧ w'.cell? ⟨q, 15, none⟩ = some (.slice a0 Q0.length k0) ∧ w'.cell? ⟨q, 16, none⟩ = some (.slice a1 Q1.length k1) from fun w' hk =>
    ⟨(hk.cell _ lq (fun h => h)).trans c12, (hk.cell _ lq (fun h => h)).trans c13, (hk.cell _ lq (fun h => h)).trans c15, (hk.cell _ lq (fun h => h)).trans c16⟩)
  have HJ := Lib.hid h; have HA := Lib.hid ha
  have HLEN := Lib.hid (show ∀ w', Kp (fun _ => False) w w' → Calls Try.prog 38 #[.pointer (some ⟨p, 0, none⟩)] w' fun e w2 => e = .returned (.int .i64 L) ∧ w' = w2 from fun w' hk => by
    rw [hL]; exact slen_any p N s w' (h.calm hk).si.si)
  have HGO := Lib.hid (show ∀ w', Kp (fun _ => False) w w' → Calls Try.prog 36 #[.pointer (some ⟨p, 0, none⟩)] w' fun e w2 => ∃ ao cap, e = .returned (.slice ao T.length cap) ∧ TRd w2 ao T ∧ Kp (fun _ => False) w w2 from fun w' hk => by
    refine (sgoing_any p N s w' (h.calm hk).si.si hN).mono ?_
    rintro e w2 ⟨v, rfl, ho, hk2⟩
    rw [← hT] at ho
    obtain ⟨ao, cap, rfl, hr⟩ := TRd.own (own_weaken ho) hTl
    exact ⟨ao, cap, rfl, hr, hk.trans hk2⟩)
  have HS0 := Lib.hid (show ∀ w', Kp (fun _ => False) w w' → Calls Try.prog 39 #[.pointer (some ⟨p, 0, none⟩), .bool false] w' fun e w2 => ∃ ao cap, e = .returned (.slice ao Q0.length cap) ∧ SRd w2 ao Q0 ∧ Kp (fun _ => False) w w2 from fun w' hk => by
    refine (ssenders_any p N s false w' (h.calm hk).si.si hN).mono ?_
    rintro e w2 ⟨v, rfl, ho, hk2⟩
    have ho2 := own_weaken ho
    simp only [Bool.false_eq_true, if_false] at ho2
    rw [← hQ0] at ho2
    obtain ⟨ao, cap, rfl⟩ := ho2.slice
    exact ⟨ao, cap, rfl, SRd.own ho2 rfl, hk.trans hk2⟩)
  have HS1 := Lib.hid (show ∀ w', Kp (fun _ => False) w w' → Calls Try.prog 39 #[.pointer (some ⟨p, 0, none⟩), .bool true] w' fun e w2 => ∃ ao cap, e = .returned (.slice ao Q1.length cap) ∧ SRd w2 ao Q1 ∧ Kp (fun _ => False) w w2 from fun w' hk => by
    refine (ssenders_any p N s true w' (h.calm hk).si.si hN).mono ?_
    rintro e w2 ⟨v, rfl, ho, hk2⟩
    have ho2 := own_weaken ho
    simp only [if_true] at ho2
    rw [← hQ1] at ho2
    obtain ⟨ao, cap, rfl⟩ := ho2.slice
    exact ⟨ao, cap, rfl, SRd.own ho2 rfl, hk.trans hk2⟩)
  have HBG := Lib.hid (show ∀ w', Kp (fun _ => False) w w' → TRd w' bG T from fun w' hk => TRd.keep hbG hk)
  have HR0 := Lib.hid (show ∀ w', Kp (fun _ => False) w w' → SRd w' a0 Q0 from fun w' hk => hs0.keep hk (fun _ _ _ _ h => h))
  have HR1 := Lib.hid (show ∀ w', Kp (fun _ => False) w w' → SRd w' a1 Q1 from fun w' hk => hs1.keep hk (fun _ _ _ _ h => h))
  clear h ha hm hvl hL hL2 hT hT2 hTl hTr hgng hvg hbG hQ0 hQ1 hR0 hR1 hg0 hg1 hv0 hv1 hs0 hs1
  go_enter Try.func34, Try.ntmps34
  go_wp2_with fail
  refine region_E 999 (fun w' => Kp (fun _ => False) w w') (by kernel_rfl) (Kp.refl _ _).drew (fun hS => ?_)
  refine takeE (i := 0) (v := ?_) rfl (by kernel_rfl) (by kernel_rfl) (by kernel_rfl) (by kernel_rfl) (fun _ _ _ h => h) hS (Or.inl ⟨by rfl, ?_⟩) ?_
  rotate_left
  · intro w hSw; obtain ⟨f12, f13, f15, f16⟩ := HK.out w hSw; go_simp <;> with_reducible rfl
  try simp only [Act.put, List.setIfInBounds_toArray, List.set_cons_zero, List.set_cons_succ]
  refine takeE (i := 2) (v := ?_) rfl (by kernel_rfl) (by kernel_rfl) (by kernel_rfl) (by kernel_rfl) (fun _ _ _ h => h) hS (Or.inl ⟨by rfl, ?_⟩) ?_
  rotate_left
  · intro w hSw; obtain ⟨f12, f13, f15, f16⟩ := HK.out w hSw; go_simp <;> with_reducible rfl
  try simp only [Act.put, List.setIfInBounds_toArray, List.set_cons_zero, List.set_cons_succ]
  refine takeE (i := 3) (v := ?_) rfl (by kernel_rfl) (by kernel_rfl) (by kernel_rfl) (by kernel_rfl) (fun _ _ _ h => h) hS (Or.inl ⟨by rfl, ?_⟩) ?_
  rotate_left
  · intro w hSw; obtain ⟨f12, f13, f15, f16⟩ := HK.out w hSw; go_simp <;> with_reducible rfl
  try simp only [Act.put, List.setIfInBounds_toArray, List.set_cons_zero, List.set_cons_succ]
  refine takeE (i := 4) (v := ?_) rfl (by kernel_rfl) (by kernel_rfl) (by kernel_rfl) (by kernel_rfl) (fun _ _ _ h => h) hS (Or.inl ⟨by rfl, ?_⟩) ?_
  rotate_left
  · intro w hSw; obtain ⟨f12, f13, f15, f16⟩ := HK.out w hSw; go_simp <;> with_reducible rfl
  try simp only [Act.put, List.setIfInBounds_toArray, List.set_cons_zero, List.set_cons_succ]
  refine takeE (i := 5) (v := ?_) rfl (by kernel_rfl) (by kernel_rfl) (by kernel_rfl) (by kernel_rfl) (fun _ _ _ h => h) hS (Or.inl ⟨by rfl, ?_⟩) ?_
  rotate_left
  · intro w hSw; obtain ⟨f12, f13, f15, f16⟩ := HK.out w hSw; go_simp <;> with_reducible rfl
  try simp only [Act.put, List.setIfInBounds_toArray, List.set_cons_zero, List.set_cons_succ]
  refine takeE (i := 6) (v := ?_) rfl (by kernel_rfl) (by kernel_rfl) (by kernel_rfl) (by kernel_rfl) (fun _ _ _ h => h) hS (Or.inl ⟨by rfl, ?_⟩) ?_
  rotate_left
  · intro w hSw; obtain ⟨f12, f13, f15, f16⟩ := HK.out w hSw; go_simp <;> with_reducible rfl
  try simp only [Act.put, List.setIfInBounds_toArray, List.set_cons_zero, List.set_cons_succ]
  refine readyE (rs := [1]) (by kernel_rfl) (by simp) ?_
  refine consE (o := _) rfl (fun K hK => ?_) nilE
  -- 1 call
  go_simp
  refine (HLEN.out _ hS).mono ?_
  rintro e wL ⟨rfl, rfl⟩
  refine keepE hK hS (fun hS => ?_)
  clear hK K
  try simp only [Act.put, List.setIfInBounds_toArray, List.set_cons_zero, List.set_cons_succ]
  refine takeE (i := 7) (v := ?_) rfl (by kernel_rfl) (by kernel_rfl) (by kernel_rfl) (by kernel_rfl) (fun _ _ _ h => h) hS (Or.inl ⟨by rfl, ?_⟩) ?_
  rotate_left
  · intro w hSw; obtain ⟨f12, f13, f15, f16⟩ := HK.out w hSw; go_simp <;> with_reducible rfl
  try simp only [Act.put, List.setIfInBounds_toArray, List.set_cons_zero, List.set_cons_succ]
  refine takeE (i := 8) (v := ?_) rfl (by kernel_rfl) (by kernel_rfl) (by kernel_rfl) (by kernel_rfl) (fun _ _ _ h => h) hS (Or.inl ⟨by rfl, ?_⟩) ?_
  rotate_left
  · intro w hSw; obtain ⟨f12, f13, f15, f16⟩ := HK.out w hSw; go_simp <;> with_reducible rfl
  try simp only [Act.put, List.setIfInBounds_toArray, List.set_cons_zero, List.set_cons_succ]
  refine takeE (i := 9) (v := ?_) rfl (by kernel_rfl) (by kernel_rfl) (by kernel_rfl) (by kernel_rfl) (fun _ _ _ h => h) hS (Or.inl ⟨by rfl, ?_⟩) ?_
  rotate_left
  · intro w hSw; obtain ⟨f12, f13, f15, f16⟩ := HK.out w hSw; go_simp <;> with_reducible rfl
  try simp only [Act.put, List.setIfInBounds_toArray, List.set_cons_zero, List.set_cons_succ]
  refine takeE (i := 11) (v := ?_) rfl (by kernel_rfl) (by kernel_rfl) (by kernel_rfl) (by kernel_rfl) (fun _ _ _ h => h) hS (Or.inl ⟨by rfl, ?_⟩) ?_
  rotate_left
  · intro w hSw; obtain ⟨f12, f13, f15, f16⟩ := HK.out w hSw; go_simp <;> with_reducible rfl
  try simp only [Act.put, List.setIfInBounds_toArray, List.set_cons_zero, List.set_cons_succ]
  refine takeE (i := 12) (v := ?_) rfl (by kernel_rfl) (by kernel_rfl) (by kernel_rfl) (by kernel_rfl) (fun _ _ _ h => h) hS (Or.inl ⟨by rfl, ?_⟩) ?_
  rotate_left
  · intro w hSw; obtain ⟨f12, f13, f15, f16⟩ := HK.out w hSw; go_simp <;> with_reducible rfl
  try simp only [Act.put, List.setIfInBounds_toArray, List.set_cons_zero, List.set_cons_succ]
  refine takeE (i := 13) (v := ?_) rfl (by kernel_rfl) (by kernel_rfl) (by kernel_rfl) (by kernel_rfl) (fun _ _ _ h => h) hS (Or.inl ⟨by rfl, ?_⟩) ?_
  rotate_left
  · intro w hSw; obtain ⟨f12, f13, f15, f16⟩ := HK.out w hSw; go_simp <;> with_reducible rfl
  try simp only [Act.put, List.setIfInBounds_toArray, List.set_cons_zero, List.set_cons_succ]
  refine takeE (i := 14) (v := ?_) rfl (by kernel_rfl) (by kernel_rfl) (by kernel_rfl) (by kernel_rfl) (fun _ _ _ h => h) hS (Or.inl ⟨by rfl, ?_⟩) ?_
  rotate_left
  · intro w hSw; obtain ⟨f12, f13, f15, f16⟩ := HK.out w hSw; go_simp <;> with_reducible rfl
  try simp only [Act.put, List.setIfInBounds_toArray, List.set_cons_zero, List.set_cons_succ]
  refine readyE (rs := [10]) (by kernel_rfl) (by simp) ?_
  refine consE (o := _) rfl (fun K hK => ?_) nilE
  -- 10 call
  go_simp
  refine (HGO.out _ hS).mono ?_
  rintro e z2 ⟨aA, kA, rfl, hrA, hkA⟩
  refine keepE hK hkA (fun hS => ?_)
  clear hK K
  try simp only [Act.put, List.setIfInBounds_toArray, List.set_cons_zero, List.set_cons_succ]
  refine readyE (rs := [15]) (by kernel_rfl) (by simp) ?_
  refine consE (o := _) rfl (fun K hK => ?_) nilE
  -- 15 call
  go_simp
  refine (fsame_any aA bG kA cG T _ hrA (HBG.out _ hS) hTm).mono ?_
  rintro e z3 ⟨rfl, hkB⟩
  refine keepE hK (hS.trans hkB) (fun hS => ?_)
  clear hK K
  try simp only [Act.put, List.setIfInBounds_toArray, List.set_cons_zero, List.set_cons_succ]
  refine takeE (i := 16) (v := ?_) rfl (by kernel_rfl) (by kernel_rfl) (by kernel_rfl) (by kernel_rfl) (fun _ _ _ h => h) hS (Or.inl ⟨by rfl, ?_⟩) ?_
  rotate_left
  · intro w hSw; obtain ⟨f12, f13, f15, f16⟩ := HK.out w hSw; go_simp <;> with_reducible rfl
  try simp only [Act.put, List.setIfInBounds_toArray, List.set_cons_zero, List.set_cons_succ]
  refine takeE (i := 17) (v := ?_) rfl (by kernel_rfl) (by kernel_rfl) (by kernel_rfl) (by kernel_rfl) (fun _ _ _ h => h) hS (Or.inl ⟨by rfl, ?_⟩) ?_
  rotate_left
  · intro w hSw; obtain ⟨f12, f13, f15, f16⟩ := HK.out w hSw; go_simp <;> with_reducible rfl
  try simp only [Act.put, List.setIfInBounds_toArray, List.set_cons_zero, List.set_cons_succ]
  refine takeE (i := 18) (v := ?_) rfl (by kernel_rfl) (by kernel_rfl) (by kernel_rfl) (by kernel_rfl) (fun _ _ _ h => h) hS (Or.inl ⟨by rfl, ?_⟩) ?_
  rotate_left
  · intro w hSw; obtain ⟨f12, f13, f15, f16⟩ := HK.out w hSw; go_simp <;> with_reducible rfl
  try simp only [Act.put, List.setIfInBounds_toArray, List.set_cons_zero, List.set_cons_succ]
  refine takeE (i := 19) (v := ?_) rfl (by kernel_rfl) (by kernel_rfl) (by kernel_rfl) (by kernel_rfl) (fun _ _ _ h => h) hS (Or.inl ⟨by rfl, ?_⟩) ?_
  rotate_left
  · intro w hSw; obtain ⟨f12, f13, f15, f16⟩ := HK.out w hSw; go_simp <;> with_reducible rfl
  try simp only [Act.put, List.setIfInBounds_toArray, List.set_cons_zero, List.set_cons_succ]
  refine takeE (i := 21) (v := ?_) rfl (by kernel_rfl) (by kernel_rfl) (by kernel_rfl) (by kernel_rfl) (fun _ _ _ h => h) hS (Or.inl ⟨by rfl, ?_⟩) ?_
  rotate_left
  · intro w hSw; obtain ⟨f12, f13, f15, f16⟩ := HK.out w hSw; go_simp <;> with_reducible rfl
  try simp only [Act.put, List.setIfInBounds_toArray, List.set_cons_zero, List.set_cons_succ]
  refine takeE (i := 22) (v := ?_) rfl (by kernel_rfl) (by kernel_rfl) (by kernel_rfl) (by kernel_rfl) (fun _ _ _ h => h) hS (Or.inl ⟨by rfl, ?_⟩) ?_
  rotate_left
  · intro w hSw; obtain ⟨f12, f13, f15, f16⟩ := HK.out w hSw; go_simp <;> with_reducible rfl
  try simp only [Act.put, List.setIfInBounds_toArray, List.set_cons_zero, List.set_cons_succ]
  refine takeE (i := 23) (v := ?_) rfl (by kernel_rfl) (by kernel_rfl) (by kernel_rfl) (by kernel_rfl) (fun _ _ _ h => h) hS (Or.inl ⟨by rfl, ?_⟩) ?_
  rotate_left
  · intro w hSw; obtain ⟨f12, f13, f15, f16⟩ := HK.out w hSw; go_simp <;> with_reducible rfl
  try simp only [Act.put, List.setIfInBounds_toArray, List.set_cons_zero, List.set_cons_succ]
  refine takeE (i := 24) (v := ?_) rfl (by kernel_rfl) (by kernel_rfl) (by kernel_rfl) (by kernel_rfl) (fun _ _ _ h => h) hS (Or.inl ⟨by rfl, ?_⟩) ?_
  rotate_left
  · intro w hSw; obtain ⟨f12, f13, f15, f16⟩ := HK.out w hSw; go_simp <;> with_reducible rfl
  try simp only [Act.put, List.setIfInBounds_toArray, List.set_cons_zero, List.set_cons_succ]
  refine takeE (i := 25) (v := ?_) rfl (by kernel_rfl) (by kernel_rfl) (by kernel_rfl) (by kernel_rfl) (fun _ _ _ h => h) hS (Or.inl ⟨by rfl, ?_⟩) ?_
  rotate_left
  · intro w hSw; obtain ⟨f12, f13, f15, f16⟩ := HK.out w hSw; go_simp <;> with_reducible rfl
  try simp only [Act.put, List.setIfInBounds_toArray, List.set_cons_zero, List.set_cons_succ]
  refine takeE (i := 26) (v := ?_) rfl (by kernel_rfl) (by kernel_rfl) (by kernel_rfl) (by kernel_rfl) (fun _ _ _ h => h) hS (Or.inl ⟨by rfl, ?_⟩) ?_
  rotate_left
  · intro w hSw; obtain ⟨f12, f13, f15, f16⟩ := HK.out w hSw; go_simp <;> with_reducible rfl
  try simp only [Act.put, List.setIfInBounds_toArray, List.set_cons_zero, List.set_cons_succ]
  refine readyE (rs := [20]) (by kernel_rfl) (by simp) ?_
  refine consE (o := _) rfl (fun K hK => ?_) nilE
  -- 20 call
  go_simp
  refine (HS0.out _ hS).mono ?_
  rintro e z4 ⟨aC, kC, rfl, hrC, hkC⟩
  refine keepE hK hkC (fun hS => ?_)
  clear hK K
  try simp only [Act.put, List.setIfInBounds_toArray, List.set_cons_zero, List.set_cons_succ]
  refine readyE (rs := [27]) (by kernel_rfl) (by simp) ?_
  refine consE (o := _) rfl (fun K hK => ?_) nilE
  -- 27 call
  go_simp
  refine (texts_same aC a0 kC k0 Q0 _ hrC (HR0.out _ hS) hm0).mono ?_
  rintro e z5 ⟨rfl, hkD⟩
  refine keepE hK (hS.trans hkD) (fun hS => ?_)
  clear hK K
  try simp only [Act.put, List.setIfInBounds_toArray, List.set_cons_zero, List.set_cons_succ]
  refine takeE (i := 28) (v := ?_) rfl (by kernel_rfl) (by kernel_rfl) (by kernel_rfl) (by kernel_rfl) (fun _ _ _ h => h) hS (Or.inl ⟨by rfl, ?_⟩) ?_
  rotate_left
  · intro w hSw; obtain ⟨f12, f13, f15, f16⟩ := HK.out w hSw; go_simp <;> with_reducible rfl
  try simp only [Act.put, List.setIfInBounds_toArray, List.set_cons_zero, List.set_cons_succ]
  refine takeE (i := 29) (v := ?_) rfl (by kernel_rfl) (by kernel_rfl) (by kernel_rfl) (by kernel_rfl) (fun _ _ _ h => h) hS (Or.inl ⟨by rfl, ?_⟩) ?_
  rotate_left
  · intro w hSw; obtain ⟨f12, f13, f15, f16⟩ := HK.out w hSw; go_simp <;> with_reducible rfl
  try simp only [Act.put, List.setIfInBounds_toArray, List.set_cons_zero, List.set_cons_succ]
  refine takeE (i := 30) (v := ?_) rfl (by kernel_rfl) (by kernel_rfl) (by kernel_rfl) (by kernel_rfl) (fun _ _ _ h => h) hS (Or.inl ⟨by rfl, ?_⟩) ?_
  rotate_left
  · intro w hSw; obtain ⟨f12, f13, f15, f16⟩ := HK.out w hSw; go_simp <;> with_reducible rfl
  try simp only [Act.put, List.setIfInBounds_toArray, List.set_cons_zero, List.set_cons_succ]
  refine takeE (i := 31) (v := ?_) rfl (by kernel_rfl) (by kernel_rfl) (by kernel_rfl) (by kernel_rfl) (fun _ _ _ h => h) hS (Or.inl ⟨by rfl, ?_⟩) ?_
  rotate_left
  · intro w hSw; obtain ⟨f12, f13, f15, f16⟩ := HK.out w hSw; go_simp <;> with_reducible rfl
  try simp only [Act.put, List.setIfInBounds_toArray, List.set_cons_zero, List.set_cons_succ]
  refine takeE (i := 33) (v := ?_) rfl (by kernel_rfl) (by kernel_rfl) (by kernel_rfl) (by kernel_rfl) (fun _ _ _ h => h) hS (Or.inl ⟨by rfl, ?_⟩) ?_
  rotate_left
  · intro w hSw; obtain ⟨f12, f13, f15, f16⟩ := HK.out w hSw; go_simp <;> with_reducible rfl
  try simp only [Act.put, List.setIfInBounds_toArray, List.set_cons_zero, List.set_cons_succ]
  refine takeE (i := 34) (v := ?_) rfl (by kernel_rfl) (by kernel_rfl) (by kernel_rfl) (by kernel_rfl) (fun _ _ _ h => h) hS (Or.inl ⟨by rfl, ?_⟩) ?_
  rotate_left
  · intro w hSw; obtain ⟨f12, f13, f15, f16⟩ := HK.out w hSw; go_simp <;> with_reducible rfl
  try simp only [Act.put, List.setIfInBounds_toArray, List.set_cons_zero, List.set_cons_succ]
  refine takeE (i := 35) (v := ?_) rfl (by kernel_rfl) (by kernel_rfl) (by kernel_rfl) (by kernel_rfl) (fun _ _ _ h => h) hS (Or.inl ⟨by rfl, ?_⟩) ?_
  rotate_left
  · intro w hSw; obtain ⟨f12, f13, f15, f16⟩ := HK.out w hSw; go_simp <;> with_reducible rfl
  try simp only [Act.put, List.setIfInBounds_toArray, List.set_cons_zero, List.set_cons_succ]
  refine takeE (i := 36) (v := ?_) rfl (by kernel_rfl) (by kernel_rfl) (by kernel_rfl) (by kernel_rfl) (fun _ _ _ h => h) hS (Or.inl ⟨by rfl, ?_⟩) ?_
  rotate_left
  · intro w hSw; obtain ⟨f12, f13, f15, f16⟩ := HK.out w hSw; go_simp <;> with_reducible rfl
  try simp only [Act.put, List.setIfInBounds_toArray, List.set_cons_zero, List.set_cons_succ]
  refine takeE (i := 37) (v := ?_) rfl (by kernel_rfl) (by kernel_rfl) (by kernel_rfl) (by kernel_rfl) (fun _ _ _ h => h) hS (Or.inl ⟨by rfl, ?_⟩) ?_
  rotate_left
  · intro w hSw; obtain ⟨f12, f13, f15, f16⟩ := HK.out w hSw; go_simp <;> with_reducible rfl
  try simp only [Act.put, List.setIfInBounds_toArray, List.set_cons_zero, List.set_cons_succ]
  refine takeE (i := 38) (v := ?_) rfl (by kernel_rfl) (by kernel_rfl) (by kernel_rfl) (by kernel_rfl) (fun _ _ _ h => h) hS (Or.inl ⟨by rfl, ?_⟩) ?_
  rotate_left
  · intro w hSw; obtain ⟨f12, f13, f15, f16⟩ := HK.out w hSw; go_simp <;> with_reducible rfl
  try simp only [Act.put, List.setIfInBounds_toArray, List.set_cons_zero, List.set_cons_succ]
  refine readyE (rs := [32]) (by kernel_rfl) (by simp) ?_
  refine consE (o := _) rfl (fun K hK => ?_) nilE
  -- 32 call
  go_simp
  refine (HS1.out _ hS).mono ?_
  rintro e z6 ⟨aE, kE, rfl, hrE, hkE⟩
  refine keepE hK hkE (fun hS => ?_)
  clear hK K
  try simp only [Act.put, List.setIfInBounds_toArray, List.set_cons_zero, List.set_cons_succ]
  refine readyE (rs := [39]) (by kernel_rfl) (by simp) ?_
  refine consE (o := _) rfl (fun K hK => ?_) nilE
  -- 39 call
  go_simp
  refine (texts_same aE a1 kE k1 Q1 _ hrE (HR1.out _ hS) hm1).mono ?_
  rintro e z7 ⟨rfl, hkF⟩
  refine keepE hK (hS.trans hkF) (fun hS => ?_)
  clear hK K
  try simp only [Act.put, List.setIfInBounds_toArray, List.set_cons_zero, List.set_cons_succ]
  refine takeE (i := 40) (v := ?_) rfl (by kernel_rfl) (by kernel_rfl) (by kernel_rfl) (by kernel_rfl) (fun _ _ _ h => h) hS (Or.inl ⟨by rfl, ?_⟩) ?_
  rotate_left
  · intro w hSw; obtain ⟨f12, f13, f15, f16⟩ := HK.out w hSw; go_simp <;> with_reducible rfl
  try simp only [Act.put, List.setIfInBounds_toArray, List.set_cons_zero, List.set_cons_succ]
  refine takeE (i := 41) (v := ?_) rfl (by kernel_rfl) (by kernel_rfl) (by kernel_rfl) (by kernel_rfl) (fun _ _ _ h => h) hS (Or.inl ⟨by rfl, ?_⟩) ?_
  rotate_left
  · intro w hSw; obtain ⟨f12, f13, f15, f16⟩ := HK.out w hSw; go_simp <;> with_reducible rfl
  try simp only [Act.put, List.setIfInBounds_toArray, List.set_cons_zero, List.set_cons_succ]
  refine doneE (by kernel_rfl) ?_ _
  go_wp2_with fail
  obtain ⟨n, hnP⟩ : ∃ n, n = r.Ps.length := ⟨_, rfl⟩
  have HJ7 := Lib.hid (HJ.out.calm hS); have HNX := Lib.hid (show Nx w z7 s s r r from Nx.calm hS); have HNP := Lib.hid hnP
  clear hnP hS hrA hrC hrE hkA hkB hkC hkD hkE hkF HLEN HGO HS0 HS1 HBG HR0 HR1 HK c12 c13 c15 c16 lq
  go_loopg [7] n (fun k i wr => ∃ (j : Nat) (s1 r1 : Sd), k = n - j ∧ j ≤ n ∧ i = .int .i64 j ∧ SJ W wr p s1 q r1 N ∧ Nx w wr s s1 r r1 ∧ Alk now s1 r1 ∧ r1.Ps.length = n)
  case atStart => exact ⟨0, s, r, rfl, Nat.zero_le _, rfl, HJ7.out, HNX.out, HA.out, HNP.out.symm⟩
  case round =>
    obtain ⟨j, s1, r1, hk, hj, rfl, hJ, hnx, hal, hlen⟩ := hrel
    obtain ⟨vl1, vp1, hm1⟩ := hJ.mi
    obtain ⟨ap, cp, hvp⟩ := hm1.prr.slice
    have c14 : wr.cell? ⟨q, 14, none⟩ = some (.slice ap n cp) := (cell_of hm1.head 14).trans (by show some vp1 = _; rw [hvp, hlen])
    have hnN : n ≤ 1000000 := by rw [← hlen]; exact Nat.le_trans hm1.pslen hN
    have HKk := Lib.hid hk; clear hk
    by_cases hlt : j < n
    · obtain ⟨y, hy⟩ : ∃ y, r1.Ps[j]? = some y := ⟨_, List.getElem?_eq_getElem (by rw [hlen]; exact hlt)⟩
      have hym := List.mem_of_getElem? hy
      rcases hm1.prr.shape with ⟨_, h0, _⟩ | ⟨g, cap, hv, hcap, hcm, hg⟩
      · omega
      rw [hv] at hvp
      simp only [Value.slice.injEq] at hvp
      obtain ⟨rfl, _, rfl⟩ := hvp
      obtain ⟨d0, d1, d2, lgp⟩ := hm1.pcell hy (show vp1.ownBlock = some g by rw [hv]; rfl)
      have hds : y.dom.size ≤ maxLen := hJ.dsz _ (hm1.pok y hym).2.2.2.2.2
      obtain ⟨p1, p2, p3⟩ := pn_of hm1.doms hym
      have eN : vN s1 y.dom = y.now := (hal.n _).trans p1
      have eB : vB s1 y.dom = y.busy := (hal.b _).trans p2
      obtain ⟨lv, hlv⟩ : ∃ l, l = (Pnow r1 y now).l := ⟨_, rfl⟩
      have eT : vT s1 now y.dom = lv := by rw [hal.t now _ (Int.le_refl _) hn2, p3, hlv]; rfl
      have hk6 : Kp (fun _ => False) wr (wr.alloc (.cells #[.string y.dom, .pointer (some ⟨y.wb, 0, none⟩), .pointer (some ⟨y.tb, 0, none⟩)] 120)) := (by repeat (first | exact Kp.refl _ _ | apply Kp.drew | apply Kp.drewN | refine Kp.setCell ?_ _ _ (Or.inl rfl) | apply Kp.alloc))
      have hb6 := heap_new (w := wr) (.cells #[.string y.dom, .pointer (some ⟨y.wb, 0, none⟩), .pointer (some ⟨y.tb, 0, none⟩)] 120)
      have HKB6 := Lib.hid (hJ.newb (Nat.le_refl _) hb6)
      have HJ6 := Lib.hid (hJ.calm hk6)
      have HNX6 := Lib.hid (hnx.trans (Nx.calm hk6))
      have HM1 := Lib.hid hm1; have HAL := Lib.hid hal; have HY := Lib.hid hy; have HYM := Lib.hid hym; have HLV := Lib.hid hlv; have HET := Lib.hid eT; have HL := Lib.hid hlen; have HDS := Lib.hid hds
      have q0 : (0 : Int) ≤ (j : Int) := by omega
      have q1 : (j : Int) < (n : Int) := by omega
      clear hm1 hal hy hym hlv hlen hJ hnx hk6 hb6 hds p1 p2 p3 hg hv
      go_wp2_with fail
      refine (swindow_any p N s1 y.dom _ HJ6.out.si.si HDS.out).mono ?_; rintro e w7 ⟨rfl, hk7⟩
      rw [eN, eB]
      have HJ7b := Lib.hid (HJ6.out.calm hk7)
      have HKB7 := Lib.hid (HKB6.out.calm hk7)
      have HNX7 := Lib.hid (HNX6.out.trans (Nx.calm hk7))
      obtain ⟨b6, hb6⟩ : ∃ b, b = wr.heap.size := ⟨_, rfl⟩
      rw [← hb6] at HKB7 ⊢
      have b2 : w7.cell? ⟨b6, 2, none⟩ = some (.pointer (some ⟨y.tb, 0, none⟩)) := (cell_of HKB7.out.at_ 2).trans rfl
      clear hk7 HKB6 hb6 d0 d1 d2 c14
      go_wp2_with fail
      obtain ⟨vl7, vp7, hm7⟩ := HJ7b.out.mi
      refine (pgo_any q N r1 vl7 vp7 y now _ hm7 HYM.out HAL.out.tR hn2).mono ?_; rintro e w8 ⟨rfl, h8, vq8, st8⟩
      obtain ⟨r2, hr2⟩ : ∃ r2, r2 = fQ r1 (Pnow r1 y now) := ⟨_, rfl⟩
      rw [← hr2] at h8 vq8 st8
      have hJ8 : SJ W w8 p s1 q r2 N := HJ7b.out.stepM h8 st8 (by rw [hr2]; rfl) (by rw [hr2]; exact HJ7b.out.dsz) (Nat.le_refl N)
      have hnx8 : Nx w7 w8 s1 s1 r1 r2 := Nx.stepM st8
      have hkb8 := hnx8 _ _ HKB7.out
      have hy2 : Pnow r1 y now ∈ r2.Ps := by rw [hr2]; exact List.mem_of_getElem? (psub_get HY.out rfl)
      have HL2 := Lib.hid (show r2.Ps.length = n from by rw [hr2]; show (Psub r1.Ps _).length = n; unfold Psub; rw [List.length_map]; exact HL.out)
      obtain ⟨S9, hS9d⟩ : ∃ S : World → Prop, S = fun w' => w'.cell? ⟨b6, 0, none⟩ = some (.string y.dom) ∧ w'.cell? ⟨b6, 1, none⟩ = some (.pointer (some ⟨y.wb, 0, none⟩)) ∧ w'.cell? ⟨b6, 2, none⟩ = some (.pointer (some ⟨y.tb, 0, none⟩)) ∧ w'.cell? ⟨y.wb, 1, none⟩ = some (.int .i64 y.now) ∧ w'.cell? ⟨y.wb, 2, none⟩ = some (.int .i64 y.busy) ∧ w'.cell? ⟨y.tb, 2, none⟩ = some (.int .i64 lv) := ⟨_, rfl⟩
      have HSF := Lib.hid (show ∀ w', S9 w' → w'.cell? ⟨b6, 0, none⟩ = some (.string y.dom) ∧ w'.cell? ⟨b6, 1, none⟩ = some (.pointer (some ⟨y.wb, 0, none⟩)) ∧ w'.cell? ⟨b6, 2, none⟩ = some (.pointer (some ⟨y.tb, 0, none⟩)) ∧ w'.cell? ⟨y.wb, 1, none⟩ = some (.int .i64 y.now) ∧ w'.cell? ⟨y.wb, 2, none⟩ = some (.int .i64 y.busy) ∧ w'.cell? ⟨y.tb, 2, none⟩ = some (.int .i64 lv) from fun w' h => by rw [hS9d] at h; exact h)
      have hSat : ∀ (w' : World) (s' : Sd), SJ W w' p s' q r2 N → Kb w' s' r2 b6 (.cells #[.string y.dom, .pointer (some ⟨y.wb, 0, none⟩), .pointer (some ⟨y.tb, 0, none⟩)] 120 (0, 0)) → S9 w' := fun w' s' hJ' hkb' => by
        obtain ⟨vl9, vp9, hm9⟩ := hJ'.mi
        rw [hS9d, HLV.out]
        exact ⟨(cell_of hkb'.at_ 0).trans rfl, (cell_of hkb'.at_ 1).trans rfl, (cell_of hkb'.at_ 2).trans rfl, (cell_of (hm9.prw _ hy2) 1).trans rfl, (cell_of (hm9.prw _ hy2) 2).trans rfl, (cell_of (hm9.prt _ hy2) 2).trans rfl⟩
      have hJ8d := hJ8.calm (Kp.refl (fun _ => False) w8).drew
      have hkb8d := hkb8.calm (Kp.refl (fun _ => False) w8).drew
      have HS9 := Lib.hid (hSat _ _ hJ8d hkb8d)
      have HNX8 := Lib.hid ((HNX7.out.trans hnx8).trans (Nx.calm (Kp.refl (fun _ => False) w8).drew))
      have HLF := Lib.hid (show Calls Try.prog 37 #[.pointer (some ⟨p, 0, none⟩), .string y.dom, .int .i64 now] w8.drew fun e w9 => e = .returned (.int .i64 lv) ∧ S9 w9 ∧ ∃ s2, SJ W w9 p s2 q r2 N ∧ Nx w8.drew w9 s1 s2 r2 r2 ∧ Alk now s2 r2 from by
        refine (sleft_any p N s1 y.dom now w8.drew hJ8d.si.si HDS.out HAL.out.tS hn2).mono ?_
        rintro e w9 ⟨rfl, Ps', col', hi9, st9, vq9⟩
        have hJ9 := hJ8d.stepS (hJ8d.si.next hi9 st9) st9 (Nat.le_refl N)
        have hnx9 : Nx w8.drew w9 s1 _ r2 r2 := Nx.stepS st9
        refine ⟨by rw [HET.out], hSat _ _ hJ9 (hnx9 _ _ hkb8d), _, hJ9, hnx9, HAL.out.step vq9 vq8 ?_ rfl (by rw [hr2]; rfl) HAL.out.inv⟩
        rw [hr2]; exact HAL.out.aq)
      clear hm7 h8 vq8 st8 hJ8 hnx8 hkb8 hy2 hSat hJ8d hkb8d b2 hS9d hr2
      go_upto_region 9 with fail
      refine region_E 999 (S9) (by kernel_rfl) (HS9.out) (fun hS => ?_)
      refine takeE (i := 0) (v := ?_) rfl (by kernel_rfl) (by kernel_rfl) (by kernel_rfl) (by kernel_rfl) (fun _ _ _ h => h) hS (Or.inl ⟨by rfl, ?_⟩) ?_
      rotate_left
      · intro w hSw; obtain ⟨e0, e1, e2, f1, f2, f3⟩ := HSF.out w hSw; go_simp <;> with_reducible rfl
      try simp only [Act.put, List.setIfInBounds_toArray, List.set_cons_zero, List.set_cons_succ]
      refine takeE (i := 1) (v := ?_) rfl (by kernel_rfl) (by kernel_rfl) (by kernel_rfl) (by kernel_rfl) (fun _ _ _ h => h) hS (Or.inl ⟨by rfl, ?_⟩) ?_
      rotate_left
      · intro w hSw; obtain ⟨e0, e1, e2, f1, f2, f3⟩ := HSF.out w hSw; go_simp <;> with_reducible rfl
      try simp only [Act.put, List.setIfInBounds_toArray, List.set_cons_zero, List.set_cons_succ]
      refine takeE (i := 2) (v := ?_) rfl (by kernel_rfl) (by kernel_rfl) (by kernel_rfl) (by kernel_rfl) (fun _ _ _ h => h) hS (Or.inl ⟨by rfl, ?_⟩) ?_
      rotate_left
      · intro w hSw; obtain ⟨e0, e1, e2, f1, f2, f3⟩ := HSF.out w hSw; go_simp <;> with_reducible rfl
      try simp only [Act.put, List.setIfInBounds_toArray, List.set_cons_zero, List.set_cons_succ]
      refine takeE (i := 3) (v := ?_) rfl (by kernel_rfl) (by kernel_rfl) (by kernel_rfl) (by kernel_rfl) (fun _ _ _ h => h) hS (Or.inl ⟨by rfl, ?_⟩) ?_
      rotate_left
      · intro w hSw; obtain ⟨e0, e1, e2, f1, f2, f3⟩ := HSF.out w hSw; go_simp <;> with_reducible rfl
      try simp only [Act.put, List.setIfInBounds_toArray, List.set_cons_zero, List.set_cons_succ]
      refine takeE (i := 4) (v := ?_) rfl (by kernel_rfl) (by kernel_rfl) (by kernel_rfl) (by kernel_rfl) (fun _ _ _ h => h) hS (Or.inl ⟨by rfl, ?_⟩) ?_
      rotate_left
      · intro w hSw; obtain ⟨e0, e1, e2, f1, f2, f3⟩ := HSF.out w hSw; go_simp <;> with_reducible rfl
      try simp only [Act.put, List.setIfInBounds_toArray, List.set_cons_zero, List.set_cons_succ]
      refine takeE (i := 5) (v := ?_) rfl (by kernel_rfl) (by kernel_rfl) (by kernel_rfl) (by kernel_rfl) (fun _ _ _ h => h) hS (Or.inl ⟨by rfl, ?_⟩) ?_
      rotate_left
      · intro w hSw; obtain ⟨e0, e1, e2, f1, f2, f3⟩ := HSF.out w hSw; go_simp <;> with_reducible rfl
      try simp only [Act.put, List.setIfInBounds_toArray, List.set_cons_zero, List.set_cons_succ]
      refine takeE (i := 6) (v := ?_) rfl (by kernel_rfl) (by kernel_rfl) (by kernel_rfl) (by kernel_rfl) (fun _ _ _ h => h) hS (Or.inl ⟨by rfl, ?_⟩) ?_
      rotate_left
      · intro w hSw; obtain ⟨e0, e1, e2, f1, f2, f3⟩ := HSF.out w hSw; go_simp <;> with_reducible rfl
      try simp only [Act.put, List.setIfInBounds_toArray, List.set_cons_zero, List.set_cons_succ]
      refine takeE (i := 7) (v := ?_) rfl (by kernel_rfl) (by kernel_rfl) (by kernel_rfl) (by kernel_rfl) (fun _ _ _ h => h) hS (Or.inl ⟨by rfl, ?_⟩) ?_
      rotate_left
      · intro w hSw; obtain ⟨e0, e1, e2, f1, f2, f3⟩ := HSF.out w hSw; go_simp <;> with_reducible rfl
      try simp only [Act.put, List.setIfInBounds_toArray, List.set_cons_zero, List.set_cons_succ]
      refine takeE (i := 8) (v := ?_) rfl (by kernel_rfl) (by kernel_rfl) (by kernel_rfl) (by kernel_rfl) (fun _ _ _ h => h) hS (Or.inl ⟨by rfl, ?_⟩) ?_
      rotate_left
      · intro w hSw; obtain ⟨e0, e1, e2, f1, f2, f3⟩ := HSF.out w hSw; go_simp <;> with_reducible rfl
      try simp only [Act.put, List.setIfInBounds_toArray, List.set_cons_zero, List.set_cons_succ]
      refine takeE (i := 9) (v := ?_) rfl (by kernel_rfl) (by kernel_rfl) (by kernel_rfl) (by kernel_rfl) (fun _ _ _ h => h) hS (Or.inl ⟨by rfl, ?_⟩) ?_
      rotate_left
      · intro w hSw; obtain ⟨e0, e1, e2, f1, f2, f3⟩ := HSF.out w hSw; go_simp <;> with_reducible rfl
      try simp only [Act.put, List.setIfInBounds_toArray, List.set_cons_zero, List.set_cons_succ]
      refine takeE (i := 10) (v := ?_) rfl (by kernel_rfl) (by kernel_rfl) (by kernel_rfl) (by kernel_rfl) (fun _ _ _ h => h) hS (Or.inl ⟨by rfl, ?_⟩) ?_
      rotate_left
      · intro w hSw; obtain ⟨e0, e1, e2, f1, f2, f3⟩ := HSF.out w hSw; go_simp <;> with_reducible rfl
      try simp only [Act.put, List.setIfInBounds_toArray, List.set_cons_zero, List.set_cons_succ]
      refine takeE (i := 11) (v := ?_) rfl (by kernel_rfl) (by kernel_rfl) (by kernel_rfl) (by kernel_rfl) (fun _ _ _ h => h) hS (Or.inl ⟨by rfl, ?_⟩) ?_
      rotate_left
      · intro w hSw; obtain ⟨e0, e1, e2, f1, f2, f3⟩ := HSF.out w hSw; go_simp <;> with_reducible rfl
      try simp only [Act.put, List.setIfInBounds_toArray, List.set_cons_zero, List.set_cons_succ]
      refine takeE (i := 12) (v := ?_) rfl (by kernel_rfl) (by kernel_rfl) (by kernel_rfl) (by kernel_rfl) (fun _ _ _ h => h) hS (Or.inl ⟨by rfl, ?_⟩) ?_
      rotate_left
      · intro w hSw; obtain ⟨e0, e1, e2, f1, f2, f3⟩ := HSF.out w hSw; go_simp <;> with_reducible rfl
      try simp only [Act.put, List.setIfInBounds_toArray, List.set_cons_zero, List.set_cons_succ]
      refine takeE (i := 13) (v := ?_) rfl (by kernel_rfl) (by kernel_rfl) (by kernel_rfl) (by kernel_rfl) (fun _ _ _ h => h) hS (Or.inl ⟨by rfl, ?_⟩) ?_
      rotate_left
      · intro w hSw; obtain ⟨e0, e1, e2, f1, f2, f3⟩ := HSF.out w hSw; go_simp <;> with_reducible rfl
      try simp only [Act.put, List.setIfInBounds_toArray, List.set_cons_zero, List.set_cons_succ]
      refine takeE (i := 14) (v := ?_) rfl (by kernel_rfl) (by kernel_rfl) (by kernel_rfl) (by kernel_rfl) (fun _ _ _ h => h) hS (Or.inl ⟨by rfl, ?_⟩) ?_
      rotate_left
      · intro w hSw; obtain ⟨e0, e1, e2, f1, f2, f3⟩ := HSF.out w hSw; go_simp <;> with_reducible rfl
      try simp only [Act.put, List.setIfInBounds_toArray, List.set_cons_zero, List.set_cons_succ]
      refine takeE (i := 15) (v := ?_) rfl (by kernel_rfl) (by kernel_rfl) (by kernel_rfl) (by kernel_rfl) (fun _ _ _ h => h) hS (Or.inl ⟨by rfl, ?_⟩) ?_
      rotate_left
      · intro w hSw; obtain ⟨e0, e1, e2, f1, f2, f3⟩ := HSF.out w hSw; go_simp <;> with_reducible rfl
      try simp only [Act.put, List.setIfInBounds_toArray, List.set_cons_zero, List.set_cons_succ]
      refine takeE (i := 16) (v := ?_) rfl (by kernel_rfl) (by kernel_rfl) (by kernel_rfl) (by kernel_rfl) (fun _ _ _ h => h) hS (Or.inl ⟨by rfl, ?_⟩) ?_
      rotate_left
      · intro w hSw; obtain ⟨e0, e1, e2, f1, f2, f3⟩ := HSF.out w hSw; go_simp <;> with_reducible rfl
      try simp only [Act.put, List.setIfInBounds_toArray, List.set_cons_zero, List.set_cons_succ]
      refine takeE (i := 17) (v := ?_) rfl (by kernel_rfl) (by kernel_rfl) (by kernel_rfl) (by kernel_rfl) (fun _ _ _ h => h) hS (Or.inl ⟨by rfl, ?_⟩) ?_
      rotate_left
      · intro w hSw; obtain ⟨e0, e1, e2, f1, f2, f3⟩ := HSF.out w hSw; go_simp <;> with_reducible rfl
      try simp only [Act.put, List.setIfInBounds_toArray, List.set_cons_zero, List.set_cons_succ]
      refine takeE (i := 18) (v := ?_) rfl (by kernel_rfl) (by kernel_rfl) (by kernel_rfl) (by kernel_rfl) (fun _ _ _ h => h) hS (Or.inl ⟨by rfl, ?_⟩) ?_
      rotate_left
      · intro w hSw; obtain ⟨e0, e1, e2, f1, f2, f3⟩ := HSF.out w hSw; go_simp <;> with_reducible rfl
      try simp only [Act.put, List.setIfInBounds_toArray, List.set_cons_zero, List.set_cons_succ]
      refine takeE (i := 19) (v := ?_) rfl (by kernel_rfl) (by kernel_rfl) (by kernel_rfl) (by kernel_rfl) (fun _ _ _ h => h) hS (Or.inl ⟨by rfl, ?_⟩) ?_
      rotate_left
      · intro w hSw; obtain ⟨e0, e1, e2, f1, f2, f3⟩ := HSF.out w hSw; go_simp <;> with_reducible rfl
      try simp only [Act.put, List.setIfInBounds_toArray, List.set_cons_zero, List.set_cons_succ]
      refine takeE (i := 20) (v := ?_) rfl (by kernel_rfl) (by kernel_rfl) (by kernel_rfl) (by kernel_rfl) (fun _ _ _ h => h) hS (Or.inl ⟨by rfl, ?_⟩) ?_
      rotate_left
      · intro w hSw; obtain ⟨e0, e1, e2, f1, f2, f3⟩ := HSF.out w hSw; go_simp <;> with_reducible rfl
      try simp only [Act.put, List.setIfInBounds_toArray, List.set_cons_zero, List.set_cons_succ]
      refine takeE (i := 22) (v := ?_) rfl (by kernel_rfl) (by kernel_rfl) (by kernel_rfl) (by kernel_rfl) (fun _ _ _ h => h) hS (Or.inl ⟨by rfl, ?_⟩) ?_
      rotate_left
      · intro w hSw; obtain ⟨e0, e1, e2, f1, f2, f3⟩ := HSF.out w hSw; go_simp <;> with_reducible rfl
      try simp only [Act.put, List.setIfInBounds_toArray, List.set_cons_zero, List.set_cons_succ]
      refine takeE (i := 23) (v := ?_) rfl (by kernel_rfl) (by kernel_rfl) (by kernel_rfl) (by kernel_rfl) (fun _ _ _ h => h) hS (Or.inl ⟨by rfl, ?_⟩) ?_
      rotate_left
      · intro w hSw; obtain ⟨e0, e1, e2, f1, f2, f3⟩ := HSF.out w hSw; go_simp <;> with_reducible rfl
      try simp only [Act.put, List.setIfInBounds_toArray, List.set_cons_zero, List.set_cons_succ]
      refine takeE (i := 24) (v := ?_) rfl (by kernel_rfl) (by kernel_rfl) (by kernel_rfl) (by kernel_rfl) (fun _ _ _ h => h) hS (Or.inl ⟨by rfl, ?_⟩) ?_
      rotate_left
      · intro w hSw; obtain ⟨e0, e1, e2, f1, f2, f3⟩ := HSF.out w hSw; go_simp <;> with_reducible rfl
      try simp only [Act.put, List.setIfInBounds_toArray, List.set_cons_zero, List.set_cons_succ]
      refine takeE (i := 25) (v := ?_) rfl (by kernel_rfl) (by kernel_rfl) (by kernel_rfl) (by kernel_rfl) (fun _ _ _ h => h) hS (Or.inl ⟨by rfl, ?_⟩) ?_
      rotate_left
      · intro w hSw; obtain ⟨e0, e1, e2, f1, f2, f3⟩ := HSF.out w hSw; go_simp <;> with_reducible rfl
      try simp only [Act.put, List.setIfInBounds_toArray, List.set_cons_zero, List.set_cons_succ]
      refine takeE (i := 26) (v := ?_) rfl (by kernel_rfl) (by kernel_rfl) (by kernel_rfl) (by kernel_rfl) (fun _ _ _ h => h) hS (Or.inl ⟨by rfl, ?_⟩) ?_
      rotate_left
      · intro w hSw; obtain ⟨e0, e1, e2, f1, f2, f3⟩ := HSF.out w hSw; go_simp <;> with_reducible rfl
      try simp only [Act.put, List.setIfInBounds_toArray, List.set_cons_zero, List.set_cons_succ]
      refine readyE (rs := [21]) (by kernel_rfl) (by simp) ?_
      refine consE (o := _) rfl (fun K hK => ?_) nilE
      -- 21 call
      go_simp
      refine HLF.out.mono ?_
      rintro e z1 ⟨rfl, hS9, hR9⟩
      have HR9 := Lib.hid hR9
      clear hR9
      refine keepE hK hS9 (fun hS => ?_)
      clear hK K
      try simp only [Act.put, List.setIfInBounds_toArray, List.set_cons_zero, List.set_cons_succ]
      refine takeE (i := 27) (v := ?_) rfl (by kernel_rfl) (by kernel_rfl) (by kernel_rfl) (by kernel_rfl) (fun _ _ _ h => h) hS (Or.inl ⟨by rfl, ?_⟩) ?_
      rotate_left
      · intro w hSw; obtain ⟨e0, e1, e2, f1, f2, f3⟩ := HSF.out w hSw; go_simp <;> with_reducible rfl
      try simp only [Act.put, List.setIfInBounds_toArray, List.set_cons_zero, List.set_cons_succ]
      refine takeE (i := 28) (v := ?_) rfl (by kernel_rfl) (by kernel_rfl) (by kernel_rfl) (by kernel_rfl) (fun _ _ _ h => h) hS (Or.inl ⟨by rfl, ?_⟩) ?_
      rotate_left
      · intro w hSw; obtain ⟨e0, e1, e2, f1, f2, f3⟩ := HSF.out w hSw; go_simp <;> with_reducible rfl
      try simp only [Act.put, List.setIfInBounds_toArray, List.set_cons_zero, List.set_cons_succ]
      refine doneE (by kernel_rfl) ?_ _
      go_wp2_with fail
      obtain ⟨s2, hJ9, hnx9, hal9⟩ := HR9.out
      go_roundg (n - (j + 1))
      case measure => rw [HKk.out]; omega
      case rel => exact ⟨j + 1, s2, r2, rfl, by omega, by go_num, hJ9, HNX8.out.trans hnx9, hal9, HL2.out⟩
    · have HJr := Lib.hid hJ; have HNr := Lib.hid hnx; have HAr := Lib.hid hal
      have q1 : ¬ (j : Int) < (n : Int) := by omega
      clear hm1 hJ hnx hal hvp
      go_wp2_with fail
      go_ret
      exact ⟨rfl, s1, r1, HJr.out, HNr.out, HAr.out⟩
end Go.Proofs.Ytbiahndpfbmoeaa
