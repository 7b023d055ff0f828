/- What container/heap does with package due's alarms. Condition: there are no more than fit into memory. -/
import Derived.Test.YtjipppejcpokkaaDue2
namespace Go.Proofs.Ytjipppejcpokkaa
open Go.RowKit

theorem wrapchk (T : TypeId) (a : Addr) (s s' : String) (w : World) : (Builtin.ssaWrapNilChk_ #[T] T #[.pointer (some a), strVal s, strVal s']).run Try.prog w = .ok (.pointer (some a)) w := by rfl
theorem find_less (p : Nat) (v : Value) (w : World) (h : w.cell? ⟨p, 0, none⟩ = some v) : (method 180 56 (.pointer (some ⟨p, 0, none⟩)) "Less").run Try.prog w = .ok (39, v) w := by
  have e : Array.find? (fun x => x.name == "Less") Try.t56.methods = some { name := "Less", sig := 49, path := #[], func := some (39, false) } := by kernel_rfl
  have hg : ∀ (v : Value) (w : World), (Place.get 56 (Place.val v)).run Try.prog w = .ok v w := fun v w => rfl
  have hw := wrapchk 56
  unfold method
  go_simp
  unfold follow receiverAt loadVar isAgg
  go_simp
theorem find_swap (p : Nat) (v : Value) (w : World) (h : w.cell? ⟨p, 0, none⟩ = some v) : (method 180 56 (.pointer (some ⟨p, 0, none⟩)) "Swap").run Try.prog w = .ok (40, v) w := by
  have e : Array.find? (fun x => x.name == "Swap") Try.t56.methods = some { name := "Swap", sig := 35, path := #[], func := some (40, false) } := by kernel_rfl
  have hg : ∀ (v : Value) (w : World), (Place.get 56 (Place.val v)).run Try.prog w = .ok v w := fun v w => rfl
  have hw := wrapchk 56
  unfold method
  go_simp
  unfold follow receiverAt loadVar isAgg
  go_simp
theorem find_len (p : Nat) (v : Value) (w : World) (h : w.cell? ⟨p, 0, none⟩ = some v) : (method 180 56 (.pointer (some ⟨p, 0, none⟩)) "Len").run Try.prog w = .ok (38, v) w := by
  have e : Array.find? (fun x => x.name == "Len") Try.t56.methods = some { name := "Len", sig := 44, path := #[], func := some (38, false) } := by kernel_rfl
  have hg : ∀ (v : Value) (w : World), (Place.get 56 (Place.val v)).run Try.prog w = .ok v w := fun v w => rfl
  have hw := wrapchk 56
  unfold method
  go_simp
  unfold follow receiverAt loadVar isAgg
  go_simp
theorem find_push (p : Nat) (w : World) : (method 180 56 (.pointer (some ⟨p, 0, none⟩)) "Push").run Try.prog w = .ok (42, .pointer (some ⟨p, 0, none⟩)) w := by kernel_rfl
theorem find_pop (p : Nat) (w : World) : (method 180 56 (.pointer (some ⟨p, 0, none⟩)) "Pop").run Try.prog w = .ok (41, .pointer (some ⟨p, 0, none⟩)) w := by kernel_rfl

theorem AlAt.drewN {w : World} {p : Nat} {v m : Value} {L : List Al} (h : AlAt w p v m L) (n : Nat) : AlAt (w.drewN n) p v m L := h.keep ((Kp.refl (fun _ => False) w).drewN n) (fun h => h) (fun _ _ h => h)
theorem AlAt.drewn {w w' : World} {p : Nat} {v m : Value} {L : List Al} (h : AlAt w p v m L) (hw : ∃ n, w' = w.drewN n) : AlAt w' p v m L := by
  obtain ⟨n, rfl⟩ := hw; exact h.drewN n
theorem drewn_trans {w w1 w2 : World} (h : ∃ n, w1 = w.drewN n) (g : ∃ n, w2 = w1.drewN n) : ∃ n, w2 = w.drewN n := by
  obtain ⟨n, rfl⟩ := h; obtain ⟨k, rfl⟩ := g; exact ⟨_, World.drewN_drewN _ _ _⟩
theorem Kp.drewn {S : Nat → Prop} {w w1 w2 : World} (h : Kp S w w1) (g : ∃ n, w2 = w1.drewN n) : Kp S w w2 := by
  obtain ⟨k, rfl⟩ := g; exact h.drewN k
theorem AlAt.cell {w : World} {p : Nat} {v m : Value} {L : List Al} (h : AlAt w p v m L) : w.cell? ⟨p, 0, none⟩ = some v := by
  have c0 := cell_of h.head 0
  simpa using c0
theorem Bs.perm {v : Value} {L L' : List Al} (h : L'.Perm L) {k : Nat} (hk : Bs v L' k) : Bs v L k := hk.imp id (fun ⟨a, ha, e⟩ => ⟨a, h.mem_iff.1 ha, e⟩)
/-- what sifting leaves -/
def Sifted (p : Nat) (v m : Value) (L : List Al) (n : Nat) (w w' : World) : Prop := ∃ L', L'.Perm L ∧ (∀ k, n ≤ k → G L' k = G L k) ∧ AlAt w' p v m L' ∧ Heap L' n ∧ Kp (Bs v L) w w'
def Upped (p : Nat) (v m : Value) (L : List Al) (n : Nat) (w : World) (e : Ending) (w' : World) : Prop := e = .returned (.tuple #[]) ∧ Sifted p v m L n w w'

theorem hup_any (p : Nat) (v m : Value) (L : List Al) (n j : Nat) (w : World) (h : AlAt w p v m L) (hj : j < n) (hn : n ≤ L.length) (hL : L.length ≤ 1000000000) (hu : UpAt L n j) :
    Calls Try.prog 21 #[.iface 56 (.pointer (some ⟨p, 0, none⟩)), .int .i64 j] w (Upped p v m L n w) := by
  have HH := Lib.hid h; have HU := Lib.hid hu
  clear h hu
  go_enter Try.func21, Try.ntmps21
  go_wp2_with fail
  go_loopg [1, 4] j (fun k jj _ wr => ∃ i : Nat, ∃ L' : List Al, k = i ∧ i < n ∧ jj = .int .i64 i ∧ L'.Perm L ∧ (∀ k, n ≤ k → G L' k = G L k) ∧ AlAt wr p v m L' ∧ UpAt L' n i ∧ Kp (Bs v L) w wr)
  case atStart => exact ⟨j, L, rfl, hj, rfl, List.Perm.refl _, fun _ _ => rfl, HH.out, HU.out, Kp.refl _ _⟩
  case round =>
    obtain ⟨i, L', hki, hi, rfl, hp, hgg, ha, hup, hk⟩ := hrel
    have hl : L'.length = L.length := hp.length_eq
    have HKI := Lib.hid hki; have HGG := Lib.hid hgg; have HP := Lib.hid hp; have HA := Lib.hid ha; have HUP := Lib.hid hup; have HK := Lib.hid hk; have HL := Lib.hid hl
    clear hki hp ha hup hk hl hgg
    by_cases h0 : i = 0
    · subst h0
      have hz : ((((0 : Nat) : Int) - 1).tdiv 2 : Int) = ((0 : Nat) : Int) := by decide
      go_wp2_with fail
      (first | go_end0 | refine bodyPost_ret (results_none rfl _ _ _) rfl ?_)
      exact ⟨rfl, L', HP.out, HGG.out, HA.out, Up_done HUP.out (Or.inl rfl), HK.out⟩
    · obtain ⟨q, hq⟩ : ∃ q, q = Par i := ⟨_, rfl⟩
      have hqi : q < i := by rw [hq]; unfold Par; omega
      have hpar : ((i : Int) - 1) / 2 = (q : Int) := by rw [hq]; unfold Par; omega
      have hqn : ¬ (q : Int) = (i : Int) := by omega
      have HQ := Lib.hid hq; clear hq
      have hm1 := find_less p v wr HA.out.cell
      have h1i : (1 : Int) ≤ (i : Int) := by omega
      have l1 : i < L'.length := by rw [HL.out]; omega
      have l2 : q < L'.length := by omega
      cases hlt : Lt (G L' i) (G L' q) with
      | true =>
        have HLT := Lib.hid hlt; clear hlt
        go_wp2_with fail
        refine (aless_any p v m L' i q _ HA.out l1 l2).mono ?_; rintro e w1 ⟨rfl, nn, rfl⟩
        rw [HLT.out]
        have hm2 := find_swap p v (wr.drewN nn) (HA.out.drewN nn).cell
        go_wp2_with fail
        refine (aswap_any p v m L' q i _ (HA.out.drewN nn) l2 l1 (by omega)).mono ?_; rintro e w2 ⟨rfl, ha2, hk2⟩
        have HA2 := Lib.hid ha2; have HK2 := Lib.hid hk2; clear ha2 hk2
        go_wp2_with fail
        go_roundg q
        case measure => rw [HKI.out]; omega
        case rel => exact ⟨q, Sw L' q i, rfl, by omega, rfl, (Sw_perm l2 l1).trans HP.out, (fun k hk => by rw [Sw_G l2 l1, if_neg (by omega), if_neg (by omega)]; exact HGG.out k hk), HA2.out, by
          have h := Up_step HUP.out (by rw [HL.out]; exact hn) hi (by omega) (by rw [← HQ.out]; exact HLT.out)
          rw [← HQ.out] at h
          exact h, (HK.out.drewN nn).trans (HK2.out.mono (fun k _ e => Bs.perm HP.out e))⟩
      | false =>
        have HLT := Lib.hid hlt; clear hlt
        go_wp2_with fail
        refine (aless_any p v m L' i q _ HA.out l1 l2).mono ?_; rintro e w1 ⟨rfl, nn, rfl⟩
        rw [HLT.out]
        go_wp2_with fail
        (first | go_end0 | refine bodyPost_ret (results_none rfl _ _ _) rfl ?_)
        exact ⟨rfl, L', HP.out, HGG.out, HA.out.drewN nn, Up_done HUP.out (Or.inr (by rw [← HQ.out]; exact HLT.out)), HK.out.drewN nn⟩

/-- what sifting down tells: something has moved and all is well; or nothing has, and what stands there is not too great -/
def Downed (p : Nat) (v m : Value) (L : List Al) (n i : Nat) (w : World) (e : Ending) (w' : World) : Prop :=
  (e = .returned (.bool true) ∧ ∃ L', L'.Perm L ∧ (∀ k, n ≤ k → G L' k = G L k) ∧ AlAt w' p v m L' ∧ Heap L' n ∧ Kp (Bs v L) w w') ∨ (e = .returned (.bool false) ∧ (∃ nn, w' = w.drewN nn) ∧ UpAt L n i)
/-- where a sifting down stands -/
def Dg (p : Nat) (v m : Value) (L L' : List Al) (n i0 i : Nat) (w wr : World) : Prop :=
  (i = i0 ∧ L' = L ∧ ∃ nn, wr = w.drewN nn) ∨ (i0 < i ∧ L'.Perm L ∧ (∀ k, n ≤ k → G L' k = G L k) ∧ AlAt wr p v m L' ∧ DownAt L' n i ∧ Kp (Bs v L) w wr)
theorem down_close {p : Nat} {v m : Value} {L L' : List Al} {n i0 i : Nat} {w wr wz : World} (h : Dg p v m L L' n i0 i w wr) (hz : ∃ z, wz = wr.drewN z) (hm : MidAt L' n i) (hc : Calm L' n i) : Downed p v m L n i0 w (.returned (.bool (decide (i0 < i)))) wz := by
  obtain ⟨z, rfl⟩ := hz
  rcases h with ⟨rfl, rfl, nn, rfl⟩ | ⟨hi, hp, hG, ha, hd, hk⟩
  · rw [decide_eq_false (by omega)]
    exact Or.inr ⟨rfl, ⟨_, World.drewN_drewN _ _ _⟩, Mid_up hm hc⟩
  · rw [decide_eq_true hi]
    exact Or.inl ⟨rfl, L', hp, hG, ha.drewN z, Down_done hd hc, hk.drewN z⟩
theorem down_next {p : Nat} {v m : Value} {L L' : List Al} {n i0 i j : Nat} {w wr wz w4 : World} (hn : n ≤ L.length) (h : Dg p v m L L' n i0 i w wr) (hm : MidAt L' n i) (hj : Kid L' n i j) (hlt : Lt (G L' j) (G L' i) = true) (ha4 : AlAt w4 p v m (Sw L' i j)) (hk4 : Kp (Bs v L') wz w4) (hz : ∃ z, wz = wr.drewN z) :
    i0 < j ∧ (Sw L' i j).Perm L ∧ (∀ k, n ≤ k → G (Sw L' i j) k = G L k) ∧ AlAt w4 p v m (Sw L' i j) ∧ DownAt (Sw L' i j) n j ∧ Kp (Bs v L) w w4 := by
  obtain ⟨z, rfl⟩ := hz
  have hp : L'.Perm L := by
    rcases h with ⟨_, rfl, _⟩ | ⟨_, hp, _⟩
    · exact List.Perm.refl _
    · exact hp
  have hk : Kp (Bs v L) w wr := by
    rcases h with ⟨_, _, nn, rfl⟩ | ⟨_, _, _, _, _, hk⟩
    · exact (Kp.refl _ w).drewN nn
    · exact hk
  have hG : ∀ k, n ≤ k → G L' k = G L k := by
    rcases h with ⟨_, rfl, _⟩ | ⟨_, _, hG, _⟩
    · exact fun _ _ => rfl
    · exact hG
  have hi0 : i0 ≤ i := by rcases h with ⟨e, _⟩ | ⟨e, _⟩ <;> omega
  have hl := hp.length_eq
  have hjl := hj.lt
  have hij : i < j := by rcases hj.kid with e | e <;> omega
  refine ⟨by omega, (Sw_perm (by omega) (by omega)).trans hp, fun k hk => ?_, ha4, Down_step hm (by omega) hj hlt, (hk.drewN z).trans (hk4.mono (fun k _ e => Bs.perm hp e))⟩
  rw [Sw_G (by omega) (by omega), if_neg (by omega), if_neg (by omega)]
  exact hG k hk
set_option maxHeartbeats 1600000 in
theorem hdown_any (p : Nat) (v m : Value) (L : List Al) (n i0 : Nat) (w : World) (h : AlAt w p v m L) (hn : n ≤ L.length) (hL : L.length ≤ 1000000000) (hi0 : i0 ≤ L.length) (hm : MidAt L n i0) :
    Calls Try.prog 20 #[.iface 56 (.pointer (some ⟨p, 0, none⟩)), .int .i64 i0, .int .i64 n] w (Downed p v m L n i0 w) := by
  have HH := Lib.hid h; have HM := Lib.hid hm
  clear h hm
  go_enter Try.func20, Try.ntmps20
  go_wp2_with fail
  go_loopg [7, 8, 9, 10] (L.length - i0) (fun k ii _ _ _ wr => ∃ i : Nat, ∃ L' : List Al, k = L.length - i ∧ i ≤ L.length ∧ ii = .int .i64 i ∧ Dg p v m L L' n i0 i w wr)
  case atStart => exact ⟨i0, L, rfl, hi0, rfl, Or.inl ⟨rfl, rfl, 0, rfl⟩⟩
  case round =>
    obtain ⟨i, L', hki, hi, rfl, hor⟩ := hrel
    have ha : AlAt wr p v m L' := by
      rcases hor with ⟨_, rfl, nn, rfl⟩ | ⟨_, _, _, ha, _⟩
      · exact HH.out.drewN nn
      · exact ha
    have hmid : MidAt L' n i := by
      rcases hor with ⟨rfl, rfl, _⟩ | ⟨_, _, _, _, hd, _⟩
      · exact HM.out
      · exact hd.mid
    have hl : L'.length = L.length := by
      rcases hor with ⟨_, rfl, _⟩ | ⟨_, hp, _⟩
      · rfl
      · exact hp.length_eq
    have hs : i0 ≤ i := by rcases hor with ⟨e, _⟩ | ⟨e, _⟩ <;> omega
    have HKI := Lib.hid hki; have HOR := Lib.hid hor; have HA := Lib.hid ha; have HMI := Lib.hid hmid; have HL := Lib.hid hl
    clear hki hor ha hmid hl
    have l0 := HL.out
    by_cases hlt : 2 * i + 1 < n
    · obtain ⟨c, hc⟩ : ∃ c, c = 2 * i + 1 := ⟨_, rfl⟩
      obtain ⟨d, hd⟩ : ∃ d, d = 2 * i + 2 := ⟨_, rfl⟩
      have hc' : 2 * (i : Int) + 1 = (c : Int) := by omega
      have hd' : (c : Int) + 1 = (d : Int) := by omega
      have b1 : c < n := by omega
      have b2 : i < c := by omega
      have b3 : c < d := by omega
      have b4 : c < L'.length := by omega
      have b5 : i < L'.length := by omega
      have b6 : n ≤ L'.length := by omega
      have hm1 := find_less p v wr HA.out.cell
      by_cases h2 : d < n
      · have b7 : d < L'.length := by omega
        cases hl2 : Lt (G L' d) (G L' c) with
        | true =>
          have HKID := Lib.hid (show Kid L' n i d by rw [hd]; exact Kid.mk2 (by omega) (by rw [← hc, ← hd]; exact hl2))
          have HLT := Lib.hid hl2; have HCD := Lib.hid (And.intro hc hd); clear hl2 hc hd l0 hlt
          go_wp2_with fail
          refine (aless_any p v m L' d c _ HA.out b7 b4).mono ?_; rintro e w1 ⟨rfl, hw1⟩
          rw [HLT.out]
          have HA1 := Lib.hid (HA.out.drewn hw1); have HW1 := Lib.hid hw1; clear hw1
          have l0 := HL.out
          have hm3 := find_less p v w1 (HA1.out).cell
          cases hl3 : Lt (G L' d) (G L' i) with
          | true =>
            have HLT3 := Lib.hid hl3; clear hl3
            go_wp2_with fail
            refine (aless_any p v m L' d i _ (HA1.out) (by omega) (by omega)).mono ?_; rintro e w3 ⟨rfl, hw3⟩
            rw [HLT3.out]
            have HA3 := Lib.hid ((HA1.out).drewn hw3); have HW3 := Lib.hid (drewn_trans (HW1.out) hw3); clear hw3
            have hm4 := find_swap p v w3 HA3.out.cell
            go_wp2_with fail
            refine (aswap_any p v m L' i d _ HA3.out (by omega) (by omega) (by omega)).mono ?_; rintro e w4 ⟨rfl, ha4, hk4⟩
            have HA4 := Lib.hid ha4; have HK4 := Lib.hid hk4; clear ha4 hk4
            go_wp2_with fail
            go_roundg (L.length - d)
            case measure => rw [HKI.out]; omega
            case rel => exact ⟨d, Sw L' i d, rfl, by omega, rfl, Or.inr (down_next hn HOR.out HMI.out HKID.out HLT3.out HA4.out HK4.out HW3.out)⟩
          | false =>
            have HLT3 := Lib.hid hl3; clear hl3
            go_wp2_with fail
            refine (aless_any p v m L' d i _ (HA1.out) (by omega) (by omega)).mono ?_; rintro e w3 ⟨rfl, hw3⟩
            rw [HLT3.out]
            have HW3 := Lib.hid (drewn_trans (HW1.out) hw3); clear hw3
            go_wp2_with fail
            go_ret
            exact down_close HOR.out HW3.out HMI.out (Calm.kid HKID.out HLT3.out)
        | false =>
          have HKID := Lib.hid (show Kid L' n i c by rw [hc]; exact Kid.mk1 (by omega) (fun _ => by rw [← hc, ← hd]; exact hl2))
          have HLT := Lib.hid hl2; have HCD := Lib.hid (And.intro hc hd); clear hl2 hc hd l0 hlt
          go_wp2_with fail
          refine (aless_any p v m L' d c _ HA.out b7 b4).mono ?_; rintro e w1 ⟨rfl, hw1⟩
          rw [HLT.out]
          have HA1 := Lib.hid (HA.out.drewn hw1); have HW1 := Lib.hid hw1; clear hw1
          have l0 := HL.out
          have hm3 := find_less p v w1 (HA1.out).cell
          cases hl3 : Lt (G L' c) (G L' i) with
          | true =>
            have HLT3 := Lib.hid hl3; clear hl3
            go_wp2_with fail
            refine (aless_any p v m L' c i _ (HA1.out) (by omega) (by omega)).mono ?_; rintro e w3 ⟨rfl, hw3⟩
            rw [HLT3.out]
            have HA3 := Lib.hid ((HA1.out).drewn hw3); have HW3 := Lib.hid (drewn_trans (HW1.out) hw3); clear hw3
            have hm4 := find_swap p v w3 HA3.out.cell
            go_wp2_with fail
            refine (aswap_any p v m L' i c _ HA3.out (by omega) (by omega) (by omega)).mono ?_; rintro e w4 ⟨rfl, ha4, hk4⟩
            have HA4 := Lib.hid ha4; have HK4 := Lib.hid hk4; clear ha4 hk4
            go_wp2_with fail
            go_roundg (L.length - c)
            case measure => rw [HKI.out]; omega
            case rel => exact ⟨c, Sw L' i c, rfl, by omega, rfl, Or.inr (down_next hn HOR.out HMI.out HKID.out HLT3.out HA4.out HK4.out HW3.out)⟩
          | false =>
            have HLT3 := Lib.hid hl3; clear hl3
            go_wp2_with fail
            refine (aless_any p v m L' c i _ (HA1.out) (by omega) (by omega)).mono ?_; rintro e w3 ⟨rfl, hw3⟩
            rw [HLT3.out]
            have HW3 := Lib.hid (drewn_trans (HW1.out) hw3); clear hw3
            go_wp2_with fail
            go_ret
            exact down_close HOR.out HW3.out HMI.out (Calm.kid HKID.out HLT3.out)
      · have HKID := Lib.hid (show Kid L' n i c by rw [hc]; exact Kid.mk1 (by omega) (fun h => absurd h (by omega)))
        have HCD := Lib.hid (And.intro hc hd); clear hc hd l0 hlt
        have l0 := HL.out
        have hm3 := find_less p v wr (HA.out).cell
        cases hl3 : Lt (G L' c) (G L' i) with
        | true =>
          have HLT3 := Lib.hid hl3; clear hl3
          go_wp2_with fail
          refine (aless_any p v m L' c i _ (HA.out) (by omega) (by omega)).mono ?_; rintro e w3 ⟨rfl, hw3⟩
          rw [HLT3.out]
          have HA3 := Lib.hid ((HA.out).drewn hw3); have HW3 := Lib.hid (drewn_trans (⟨0, rfl⟩) hw3); clear hw3
          have hm4 := find_swap p v w3 HA3.out.cell
          go_wp2_with fail
          refine (aswap_any p v m L' i c _ HA3.out (by omega) (by omega) (by omega)).mono ?_; rintro e w4 ⟨rfl, ha4, hk4⟩
          have HA4 := Lib.hid ha4; have HK4 := Lib.hid hk4; clear ha4 hk4
          go_wp2_with fail
          go_roundg (L.length - c)
          case measure => rw [HKI.out]; omega
          case rel => exact ⟨c, Sw L' i c, rfl, by omega, rfl, Or.inr (down_next hn HOR.out HMI.out HKID.out HLT3.out HA4.out HK4.out HW3.out)⟩
        | false =>
          have HLT3 := Lib.hid hl3; clear hl3
          go_wp2_with fail
          refine (aless_any p v m L' c i _ (HA.out) (by omega) (by omega)).mono ?_; rintro e w3 ⟨rfl, hw3⟩
          rw [HLT3.out]
          have HW3 := Lib.hid (drewn_trans (⟨0, rfl⟩) hw3); clear hw3
          go_wp2_with fail
          go_ret
          exact down_close HOR.out HW3.out HMI.out (Calm.kid HKID.out HLT3.out)
    · clear l0
      go_wp2_with fail
      go_ret
      exact down_close HOR.out ⟨0, rfl⟩ HMI.out (Calm.leaf (by omega))
end Go.Proofs.Ytjipppejcpokkaa
