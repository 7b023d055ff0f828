/- What container/heap's Fix, Push and Remove do with package due's alarms. Condition: there are no more than fit into memory. -/
import Derived.Test.YtjipppejcpokkaaDue3
namespace Go.Proofs.Ytjipppejcpokkaa
open Go.RowKit

theorem hfix_any (p : Nat) (v m : Value) (L : List Al) (i : Nat) (w : World) (h : AlAt w p v m L) (hi : i < L.length) (hL : L.length ≤ 1000000000) (hm : MidAt L L.length i) :
    Calls Try.prog 17 #[.iface 56 (.pointer (some ⟨p, 0, none⟩)), .int .i64 i] w (Upped p v m L L.length w) := by
  have HH := Lib.hid h; have HM := Lib.hid hm
  have hm1 := find_len p v w h.cell
  clear h hm
  go_enter Try.func17, Try.ntmps17
  go_wp2_with fail
  refine (alen_any v L _ HH.out.row).mono ?_; rintro e w1 ⟨rfl, rfl⟩
  go_wp2_with fail
  refine (hdown_any p v m L L.length i _ HH.out (Nat.le_refl _) hL (by omega) HM.out).mono ?_
  intro e w2 hd
  rcases hd with ⟨rfl, hr⟩ | ⟨rfl, hw, hu⟩
  · have HR := Lib.hid hr; clear hr
    go_wp2_with fail
    (first | go_end0 | refine bodyPost_ret (results_none rfl _ _ _) rfl ?_)
    exact ⟨rfl, HR.out⟩
  · have HA := Lib.hid (HH.out.drewn hw); have HW := Lib.hid hw; have HU := Lib.hid hu
    clear hw hu
    go_wp2_with fail
    refine (hup_any p v m L L.length i _ HA.out hi (Nat.le_refl _) hL HU.out).mono ?_; rintro e w3 ⟨rfl, L', hp, hg, ha, hh, hk⟩
    have HR := Lib.hid (show Sifted p v m L L.length w w3 from ⟨L', hp, hg, ha, hh, ((Kp.refl _ w).drewn HW.out).trans hk⟩)
    clear hp hg ha hh hk
    go_wp2_with fail
    (first | go_end0 | refine bodyPost_ret (results_none rfl _ _ _) rfl ?_)
    exact ⟨rfl, HR.out⟩

/-- one more, sifted -/
def Laid (p : Nat) (v m : Value) (L : List Al) (a : Al) (w : World) (e : Ending) (w' : World) : Prop :=
  e = .returned (.tuple #[]) ∧ (∃ v' L', L'.Perm (L ++ [a]) ∧ AlAt w' p v' m L' ∧ Heap L' (L.length + 1) ∧ SameOrNew w v v') ∧ Kp (fun k => k = p ∨ Bs v L k ∨ k = a.blk) w w'
theorem hpush_any (p : Nat) (v m : Value) (L : List Al) (a : Al) (z : Int) (w : World) (h : AlAt w p v m L) (hb : w.heap[a.blk]? = some (.cells #[.int .i64 a.id, .int .i64 a.at', .int .i64 z] 54 (0, 0))) (hbp : a.blk ≠ p) (hbv : v.ownBlock ≠ some a.blk) (hbl : ∀ x ∈ L, x.blk ≠ a.blk) (hL : L.length ≤ 100000000) (hh : Heap L L.length) :
    Calls Try.prog 18 #[.iface 56 (.pointer (some ⟨p, 0, none⟩)), .iface 51 (.pointer (some ⟨a.blk, 0, none⟩))] w (Laid p v m L a w) := by
  have HH := Lib.hid h; have HB := Lib.hid hb; have HBL := Lib.hid hbl; have HHH := Lib.hid hh; have HBV := Lib.hid hbv; have HBP := Lib.hid hbp
  have hm1 := find_push p w
  clear h hb hbl hh hbv hbp
  go_enter Try.func18, Try.ntmps18
  go_wp2_with fail
  refine (apush_any p v m L a z _ HH.out HB.out HBP.out HBV.out HBL.out (by omega)).mono ?_; rintro e w1 ⟨rfl, ⟨v1, ha1, hs1⟩, hk1⟩
  have hm2 := find_len p v1 w1 ha1.cell
  have hl : (L ++ [a]).length = L.length + 1 := by simp
  have HA1 := Lib.hid ha1; have HS1 := Lib.hid hs1; have HK1 := Lib.hid hk1; have HL := Lib.hid hl
  clear ha1 hs1 hk1 hl
  go_wp2_with fail
  refine (alen_any v1 (L ++ [a]) _ HA1.out.row).mono ?_; rintro e w2 ⟨rfl, rfl⟩
  rw [HL.out]
  have hq : ((L.length + 1 : Nat) : Int) - 1 = (L.length : Int) := by omega
  go_wp2_with fail
  refine (hup_any p v1 m (L ++ [a]) (L.length + 1) L.length _ HA1.out (by omega) (by rw [HL.out]; omega) (by rw [HL.out]; omega) (Heap.push HHH.out)).mono ?_; rintro e w3 ⟨rfl, L', hp, hg, ha, hh, hk⟩
  have HR := Lib.hid (show Laid p v m L a w (.returned (.tuple #[])) w3 from ⟨rfl, ⟨v1, L', hp, ha, hh, HS1.out⟩, (HK1.out.mono (fun k _ e => by rcases e with e | e | e; exact Or.inl e; exact Or.inr (Or.inl (Or.inl e)); exact Or.inr (Or.inr e))).trans_new hk (fun k hk e => by
    rcases e with e | ⟨x, hx, e⟩
    · exact Or.inr (Or.inl (Or.inl (HS1.out.inn hk e)))
    · rcases List.mem_append.1 hx with hx | hx
      · exact Or.inr (Or.inl (Or.inr ⟨x, hx, e⟩))
      · rw [List.mem_singleton] at hx; subst hx; exact Or.inr (Or.inr e.symm))⟩)
  clear hp hg ha hh hk
  go_wp2_with fail
  (first | go_end0 | refine bodyPost_ret (results_none rfl _ _ _) rfl ?_)
  exact HR.out

/-- the one at i taken out -/
def Taken (p : Nat) (v m : Value) (L : List Al) (i : Nat) (w : World) (e : Ending) (w' : World) : Prop :=
  (∃ x, e = .returned x) ∧ (∃ v' L', (L' ++ [G L i]).Perm L ∧ AlAt w' p v' m L' ∧ Heap L' L'.length ∧ v'.ownBlock = v.ownBlock) ∧ Kp (fun k => k = p ∨ Bs v L k) w w'
theorem take_last {L : List Al} {n : Nat} (h : L.length = n + 1) : L.take n ++ [G L n] = L := by
  have e : [G L n] = L.drop n := by
    rw [List.drop_eq_getElem_cons (by omega), List.drop_of_length_le (by omega)]
    have := G_get (L := L) (k := n) (by omega)
    rw [List.getElem?_eq_getElem (by omega)] at this
    rw [← Option.some.inj this]
  rw [e, List.take_append_drop]
theorem taken_close {p n i : Nat} {v m : Value} {L L' : List Al} {w w2 w3 : World} {e : Ending} (hl : L.length = n + 1) (hp : L'.Perm L) (hi : G L' n = G L i) (hh : Heap L' n) (hk : Kp (Bs v L) w w2) (hpop : Popped p v m L' w2 e w3) : Taken p v m L i w e w3 := by
  obtain ⟨rfl, ⟨v', ha, hv⟩, hk'⟩ := hpop
  have hl' := hp.length_eq
  have hn : L'.length - 1 = n := by omega
  rw [hn] at ha
  have ht : (L'.take n).length = n := by rw [List.length_take]; omega
  refine ⟨⟨_, rfl⟩, ⟨v', L'.take n, ?_, ha, ?_, hv⟩, (hk.mono (fun k _ e => Or.inr e)).trans (hk'.mono (fun k _ e => Or.inl e))⟩
  · rw [← hi, take_last (by omega)]; exact hp
  · rw [ht]; exact hh.congr (fun k hk => G_take hk)
set_option maxHeartbeats 1600000 in
theorem hremove_any (p : Nat) (v m : Value) (L : List Al) (i : Nat) (w : World) (h : AlAt w p v m L) (hi : i < L.length) (hL : L.length ≤ 1000000000) (hh : Heap L L.length) :
    Calls Try.prog 19 #[.iface 56 (.pointer (some ⟨p, 0, none⟩)), .int .i64 i] w (Taken p v m L i w) := by
  obtain ⟨n, hn⟩ : ∃ n, n = L.length - 1 := ⟨_, rfl⟩
  have hl : L.length = n + 1 := by omega
  have HH := Lib.hid h; have HHH := Lib.hid hh; have HL := Lib.hid hl
  have hm1 := find_len p v w h.cell
  have hq : ((n + 1 : Nat) : Int) - 1 = (n : Int) := by omega
  have hn9 : n + 1 ≤ 1000000000 := by omega
  have hin : i ≤ n := by omega
  clear h hh hn hl hi hL
  by_cases e : n = i
  · subst e
    go_enter Try.func19, Try.ntmps19
    go_wp2_with fail
    refine (alen_any v L _ HH.out.row).mono ?_; rintro e w1 ⟨rfl, rfl⟩
    rw [HL.out]
    have hm2 := find_pop p w
    go_wp2_with fail
    refine (apop_any p v m L _ HH.out (by rw [HL.out]; omega) (by rw [HL.out]; omega)).mono ?_; intro e w3 hpop
    have HR := Lib.hid (taken_close (i := n) HL.out (List.Perm.refl L) rfl (HHH.out.mono (m := n) (by rw [HL.out]; omega)) (Kp.refl _ w) hpop)
    obtain ⟨rfl, _⟩ := hpop
    go_wp2_with fail
    go_ret
    exact HR.out
  · have hne : ¬ (n : Int) = (i : Int) := by omega
    have hil : i < L.length := by rw [HL.out]; omega
    have hnl : n < L.length := by rw [HL.out]; omega
    have hSG : ∀ k, k < n → k ≠ i → G (Sw L i n) k = G L k := fun k hk hki => by rw [Sw_G hil hnl, if_neg (by omega), if_neg hki]
    have HMID := Lib.hid ((HHH.out.mono (m := n) (by omega)).mid (Sw L i n) i (by omega) hSG)
    have HSN := Lib.hid (show G (Sw L i n) n = G L i by rw [Sw_G hil hnl, if_pos rfl])
    have HSL := Lib.hid (show (Sw L i n).length = n + 1 by rw [Sw_len]; exact HL.out)
    clear hSG
    go_enter Try.func19, Try.ntmps19
    go_wp2_with fail
    refine (alen_any v L _ HH.out.row).mono ?_; rintro e w1 ⟨rfl, rfl⟩
    rw [HL.out]
    have hm2 := find_swap p v w HH.out.cell
    go_wp2_with fail
    refine (aswap_any p v m L i n _ HH.out hil hnl (by omega)).mono ?_; rintro e w2 ⟨rfl, ha2, hk2⟩
    have HA2 := Lib.hid ha2; have HK2 := Lib.hid hk2; clear ha2 hk2
    go_wp2_with fail
    refine (hdown_any p v m (Sw L i n) n i _ HA2.out (by rw [HSL.out]; omega) (by rw [HSL.out]; omega) (by rw [HSL.out]; omega) HMID.out).mono ?_
    intro e w3 hd
    rcases hd with ⟨rfl, L3, hp3, hg3, ha3, hh3, hk3⟩ | ⟨rfl, hw3, hu3⟩
    · have HP3 := Lib.hid (hp3.trans (Sw_perm hil hnl)); have HG3 := Lib.hid ((hg3 n (Nat.le_refl _)).trans HSN.out); have HA3 := Lib.hid ha3; have HH3 := Lib.hid hh3
      have HK3 := Lib.hid (HK2.out.trans (hk3.mono (fun k _ e => Bs.perm (Sw_perm hil hnl) e)))
      clear hp3 hg3 ha3 hh3 hk3
      have hm3 := find_pop p w3
      go_wp2_with fail
      refine (apop_any p v m L3 _ HA3.out (by rw [HP3.out.length_eq, HL.out]; omega) (by rw [HP3.out.length_eq, HL.out]; omega)).mono ?_; intro e w4 hpop
      have HR := Lib.hid (taken_close (i := i) HL.out HP3.out HG3.out HH3.out HK3.out hpop)
      obtain ⟨rfl, _⟩ := hpop
      go_wp2_with fail
      go_ret
      exact HR.out
    · have HA3 := Lib.hid (HA2.out.drewn hw3); have HU3 := Lib.hid hu3; have HK3 := Lib.hid (HK2.out.drewn hw3)
      clear hw3 hu3
      go_wp2_with fail
      refine (hup_any p v m (Sw L i n) n i _ HA3.out (by omega) (by rw [HSL.out]; omega) (by rw [HSL.out]; omega) HU3.out).mono ?_; rintro e w4 ⟨rfl, L4, hp4, hg4, ha4, hh4, hk4⟩
      have HP4 := Lib.hid (hp4.trans (Sw_perm hil hnl)); have HG4 := Lib.hid ((hg4 n (Nat.le_refl _)).trans HSN.out); have HA4 := Lib.hid ha4; have HH4 := Lib.hid hh4
      have HK4 := Lib.hid (HK3.out.trans (hk4.mono (fun k _ e => Bs.perm (Sw_perm hil hnl) e)))
      clear hp4 hg4 ha4 hh4 hk4
      have hm3 := find_pop p w4
      go_wp2_with fail
      refine (apop_any p v m L4 _ HA4.out (by rw [HP4.out.length_eq, HL.out]; omega) (by rw [HP4.out.length_eq, HL.out]; omega)).mono ?_; intro e w5 hpop
      have HR := Lib.hid (taken_close (i := i) HL.out HP4.out HG4.out HH4.out HK4.out hpop)
      obtain ⟨rfl, _⟩ := hpop
      go_wp2_with fail
      go_ret
      exact HR.out
end Go.Proofs.Ytjipppejcpokkaa
