/- DueMoves: the law returns true for every input. No condition. -/
import Derived.Test.YtjipppejcpokkaaDueNone
import Derived.Test.YtjipppejcpokkaaOpen
namespace Go.Proofs.Ytjipppejcpokkaa
open Go.RowKit Go.Maps Go.ChangeShapes Go.WideShapes Go.Deep

theorem DuAt.ids {w : World} {p : Nat} {S : List (Int × Int)} {N : Nat} {F : Nat → Prop} (h : DuAt w p S N F) : S.Pairwise (fun a b => a.1 ≠ b.1) := by
  obtain ⟨v, m, L, h1, h2, h3, h4⟩ := h
  refine (h2.pairwise_iff (fun {a b} (h : a.1 ≠ b.1) => h.symm)).1 ?_
  rcases h1.map with ⟨_, rfl⟩ | ⟨b, _, hm, _⟩
  · exact List.Pairwise.nil
  · have h5 := (hm.keyed due_keyed).1
    unfold Me at h5
    unfold Kl
    rw [List.pairwise_map] at h5 ⊢
    exact h5.imp (fun {a b} h e => h (by rw [show a.id = b.id from e]))
theorem DuAt.lim {w : World} {p : Nat} {S : List (Int × Int)} {N : Nat} {F : Nat → Prop} (h : DuAt w p S N F) : ∀ y ∈ S, y.2 ≤ 1099511627776 := by
  obtain ⟨v, m, L, h1, h2, h3, h4⟩ := h
  intro y hy
  obtain ⟨a, ha, rfl⟩ := kl_mem (h2.mem_iff.2 hy)
  exact h1.lim a ha
theorem del_head {s : Int × Int} {r : List (Int × Int)} (h : (s :: r).Pairwise (fun a b => a.1 ≠ b.1)) : Del s.1 (s :: r) = r := by
  have e : Del s.1 (s :: r) = Del s.1 r := by unfold Del; rw [List.filter_cons_of_neg (by simp)]
  rw [e]
  exact Del_none (fun y hy => fun e => (List.pairwise_cons.1 h).1 y hy e.symm)
theorem del_ins (id c : Int) (T : List (Int × Int)) : Del id (Ins (id, c) T) = Del id T := by
  induction T with
  | nil => simp [Ins, Del]
  | cons y r ih =>
    unfold Ins
    split
    · unfold Del at ih ⊢
      rw [List.filter_cons, List.filter_cons, ih]
    · unfold Del
      rw [List.filter_cons_of_neg (by simp)]
theorem del_del (id : Int) (T : List (Int × Int)) : Del id (Del id T) = Del id T := Del_none (fun _ hy => (Del_mem hy).2)
/-- two alarms of one's own -/
structure D2 (W w : World) (p q : Nat) (S T : List (Int × Int)) (N M : Nat) (F G : Nat → Prop) : Prop where
  x : DI W w p S N F
  y : DI W w q T M G
  apart : ∀ k, F k → ¬ G k
theorem D2.symm {W w : World} {p q : Nat} {S T : List (Int × Int)} {N M : Nat} {F G : Nat → Prop} (h : D2 W w p q S T N M F G) : D2 W w q p T S M N G F := ⟨h.y, h.x, fun k a b => h.apart k b a⟩
theorem D2.left {W w w1 : World} {p q : Nat} {S S' T : List (Int × Int)} {N N' M : Nat} {F F' G : Nat → Prop} (h : D2 W w p q S T N M F G) (hd : DuAt w1 p S' N' F') (hn : New w F F') (hk : Kp F w w1) : D2 W w1 p q S' T N' M F' G := by
  have hx := h.x.next hd hn hk
  refine ⟨hx, ⟨h.y.du.keep hk (fun k a b => h.apart k b a), h.y.new, hx.kp⟩, fun k a b => ?_⟩
  rcases hn k a with e | e
  · exact h.apart k e b
  · have := h.y.du.lt b; omega
theorem D2.right {W w w1 : World} {p q : Nat} {S T T' : List (Int × Int)} {N M M' : Nat} {F G G' : Nat → Prop} (h : D2 W w p q S T N M F G) (hd : DuAt w1 q T' M' G') (hn : New w G G') (hk : Kp G w w1) : D2 W w1 p q S T' N M' F G' := (h.symm.left hd hn hk).symm
theorem D2.calm {W w w1 : World} {p q : Nat} {S T : List (Int × Int)} {N M : Nat} {F G : Nat → Prop} (h : D2 W w p q S T N M F G) (hk : Kp (fun _ => False) w w1) : D2 W w1 p q S T N M F G := ⟨h.x.calm hk, h.y.calm hk, h.apart⟩
theorem D2.made (W : World) : ∃ F G, D2 W ((W.alloc (.cells #[.slice none 0 0, .map none] 28)).alloc (.cells #[.slice none 0 0, .map none] 28)) W.heap.size (W.heap.size + 1) [] [] 0 0 F G := by
  have h1 := DI.made W W (Kp.refl _ _)
  have h2 := DI.made W (W.alloc (.cells #[.slice none 0 0, .map none] 28)) h1.kp
  rw [World.size_alloc] at h2
  refine ⟨_, _, h1.calm ((Kp.refl _ _).alloc _), h2, fun k a b => ?_⟩
  have l1 : k = W.heap.size := by
    rcases a with a | (a | ⟨x, hx, _⟩) | a
    · exact a
    · simp [In, Value.ownBlock] at a
    · cases hx
    · cases a
  have l2 : k = W.heap.size + 1 := by
    rcases b with a | (a | ⟨x, hx, _⟩) | a
    · exact a
    · simp [In, Value.ownBlock] at a
    · cases hx
    · cases a
  omega

set_option maxRecDepth 100000 in
set_option maxHeartbeats 1600000 in
theorem dueMoves_law {H : Type} {enc : TypeId × Value → H} (W : World) {base : Nat} (v0 v1 v2 v3 v4 : Value) (d0 d1 d2 d3 d4 : DataW H) (p0 p1 p2 p3 p4 : List MemPlace)
    (k0 : Value.okWide Try.prog W .any base 47 v0) (k1 : Value.okWide Try.prog W .any base 47 v1) (k2 : Value.okWide Try.prog W .any base 3 v2) (k3 : Value.okWide Try.prog W .any base 3 v3) (k4 : Value.okWide Try.prog W .any base 3 v4)
    (h0 : DataW.Trod enc Try.prog W 0 (fun _ => true) true 47 v0 d0 p0) (h1 : DataW.Trod enc Try.prog W 0 (fun _ => true) true 47 v1 d1 p1) (h2 : DataW.Trod enc Try.prog W 0 (fun _ => true) true 3 v2 d2 p2) (h3 : DataW.Trod enc Try.prog W 0 (fun _ => true) true 3 v3 d3 p3) (h4 : DataW.Trod enc Try.prog W 0 (fun _ => true) true 3 v4 d4 p4) :
    Calls Try.prog 6 #[v0, v1, v2, v3, v4] W fun e W' => e = .returned (.bool true) ∧ Below W.heap.size W W' := by
  obtain ⟨id, rfl, rfl, rfl, hwf⟩ := open_int Try.underlying3 k2 h2
  obtain ⟨a, rfl, rfl, rfl, _⟩ := open_int Try.underlying3 k3 h3
  obtain ⟨b, rfl, rfl, rfl, _⟩ := open_int Try.underlying3 k4 h4
  obtain ⟨ai, n, ci, f, rfl, hci, hni, hri, hwi⟩ := open_introw Try.underlying47 (by kernel_rfl) Try.underlying3 k0 h0
  obtain ⟨aa, m, ca, g, rfl, hca, hna, hra, hwa⟩ := open_introw Try.underlying47 (by kernel_rfl) Try.underlying3 k1 h1
  clear h0 h1 h2 h3 h4 k0 k1 k2 k3 k4
  obtain ⟨F0, G0, h00⟩ := D2.made W
  have HI := Lib.hid hri; have HA := Lib.hid hra; have HWI := Lib.hid hwi; have H00 := Lib.hid h00
  clear hri hra hwi hwa h00
  go_enter Try.func6, Try.ntmps6
  go_wp2_with fail
  go_loopg [13] n (fun k i wr => ∃ (j : Nat) (S : List (Int × Int)) (F G : Nat → Prop), k = n - j ∧ j ≤ n ∧ j ≤ 60 ∧ i = .int .i64 j ∧ D2 W wr W.heap.size (W.heap.size + 1) S S j j F G)
  case atStart => exact ⟨0, [], F0, G0, rfl, Nat.zero_le _, by omega, rfl, H00.out⟩
  case round =>
    obtain ⟨j, S, F, G, hk, hj, hj60, rfl, hd⟩ := hrel
    have HKk := Lib.hid hk; have HD := Lib.hid hd; clear hk hd
    by_cases hlt : j < n ∧ j < m ∧ j < 60
    · obtain ⟨hl1, hl2, hl3⟩ := hlt
      obtain ⟨bi, oi, rfl, hbi, hc1⟩ := HI.out j hl1
      obtain ⟨ba, oa, rfl, hba, hc2⟩ := HA.out j hl2
      have g1 : wr.cell? ⟨bi, oi + j, none⟩ = some (.int .i64 (f j)) := (HD.out.x.kp.cell _ hbi (fun h => h)).trans hc1
      have g2 : wr.cell? ⟨ba, oa + j, none⟩ = some (.int .i64 (g j)) := (HD.out.x.kp.cell _ hba (fun h => h)).trans hc2
      have hwj := Lib.hid (HWI.out j hl1)
      obtain ⟨y, hy⟩ : ∃ y, y = f j := ⟨_, rfl⟩
      obtain ⟨t, ht⟩ : ∃ t, t = g j := ⟨_, rfl⟩
      rw [← hy] at g1 hwj
      rw [← ht] at g2
      clear hy ht hc1 hc2
      have q1 : (0 : Int) ≤ (j : Int) := by omega
      have q2 : (j : Int) < (n : Int) := by omega
      have q3 : (j : Int) < (m : Int) := by omega
      go_wp2_with fail
      refine still_tail 9 (by kernel_rfl) (by kernel_rfl) ?_
      simp only [List.take_succ_cons, List.take_zero, List.drop_succ_cons, List.drop_zero]
      repeat still_step
      refine wpStill_nil ?_
      go_wp2_with fail
      have hD1 := Lib.hid (HD.out.calm ((Kp.refl _ _).drew))
      refine (dset_any W.heap.size j S F y t _ hD1.out.x.du hwj.out (by omega)).mono ?_; rintro e w1 ⟨rfl, ⟨F1, hd, hn⟩, hk⟩
      have HD1 := Lib.hid (hD1.out.left hd hn hk); clear hd hn hk
      have g3 : w1.cell? ⟨bi, oi + j, none⟩ = some (.int .i64 y) := by
        have e1 := HD1.out.x.kp.cell (oi + j) hbi (fun h => h)
        have e2 := HD.out.x.kp.cell (oi + j) hbi (fun h => h)
        exact e1.trans (e2.symm.trans g1)
      have g4 : w1.cell? ⟨ba, oa + j, none⟩ = some (.int .i64 t) := by
        have e1 := HD1.out.x.kp.cell (oa + j) hba (fun h => h)
        have e2 := HD.out.x.kp.cell (oa + j) hba (fun h => h)
        exact e1.trans (e2.symm.trans g2)
      go_wp2_with fail
      refine still_tail 9 (by kernel_rfl) (by kernel_rfl) ?_
      simp only [List.take_succ_cons, List.take_zero, List.drop_succ_cons, List.drop_zero]
      repeat still_step
      refine wpStill_nil ?_
      go_wp2_with fail
      have hD2 := Lib.hid (HD1.out.calm ((Kp.refl _ _).drew))
      refine (dset_any (W.heap.size + 1) j S G y t _ hD2.out.y.du hwj.out (by omega)).mono ?_; rintro e w2 ⟨rfl, ⟨G1, hd, hn⟩, hk⟩
      have HD2 := Lib.hid (hD2.out.right hd hn hk); clear hd hn hk
      go_wp2_with fail
      go_roundg (n - (j + 1))
      case measure => rw [HKk.out]; omega
      case rel => exact ⟨j + 1, _, F1, G1, rfl, by omega, by omega, by go_num, HD2.out⟩
    · go_wp2_with fail
      all_goals
        refine (dset_any W.heap.size j S F id a _ HD.out.x.du hwf (by omega)).mono ?_; rintro e w1 ⟨rfl, ⟨F1, hd, hn⟩, hk⟩
        have HD1 := Lib.hid (HD.out.left hd hn hk); clear hd hn hk
        go_wp2_with fail
        refine (dset_any W.heap.size (j + 1) _ F1 id b _ HD1.out.x.du hwf (by omega)).mono ?_; rintro e w2 ⟨rfl, ⟨F2, hd, hn⟩, hk⟩
        have HD2 := Lib.hid (HD1.out.left hd hn hk); clear hd hn hk
        go_wp2_with fail
        refine (dset_any (W.heap.size + 1) j S G id b _ HD2.out.y.du hwf (by omega)).mono ?_; rintro e w3 ⟨rfl, ⟨G3, hd, hn⟩, hk⟩
        have hD3 := HD2.out.right hd hn hk
        clear hd hn hk
        rw [del_ins, del_del] at hD3
        obtain ⟨T, hT⟩ : ∃ T, T = Ins (id, SatAid.C b) (Del id S) := ⟨_, rfl⟩
        rw [← hT] at hD3
        have HD3 := Lib.hid hD3
        clear hD3 hT
        go_wp2_with fail
        refine (dlen_any W.heap.size T _ F2 _ HD3.out.x.du).mono ?_; rintro e w4 ⟨rfl, rfl⟩
        have htl : T.length ≤ 100 := Nat.le_trans HD3.out.x.du.length (by omega)
        go_wp2_with fail
        go_loopg [15] T.length (fun k i wr => ∃ (q : Nat) (R : List (Int × Int)) (F G : Nat → Prop), k = R.length ∧ q + R.length = T.length ∧ i = .int .i64 q ∧ D2 W wr W.heap.size (W.heap.size + 1) R R (j + 1 + 1) (j + 1) F G)
        case atStart => exact ⟨0, T, F2, G3, rfl, by omega, rfl, HD3.out⟩
        case round =>
          obtain ⟨q, R, F', G', hk, hq, rfl, hd⟩ := hrel
          have HKk := Lib.hid hk; have HDD := Lib.hid hd; clear hk hd
          match hR : R with
          | [] =>
            have hqT : q = T.length := by simpa using hq
            clear hR hq
            go_wp2_with fail
            refine (d20ans_any _).mono ?_; rintro e w5 ⟨rfl, hk5⟩
            have HE := Lib.hid (HDD.out.calm hk5); clear hk5
            go_wp2_with fail
            refine (dlen_any W.heap.size [] _ F' _ HE.out.x.du).mono ?_; rintro e w6 ⟨rfl, rfl⟩
            go_wp2_with fail
            refine (dlen_any (W.heap.size + 1) [] _ G' _ HE.out.y.du).mono ?_; rintro e w6 ⟨rfl, rfl⟩
            go_wp2_with fail
            refine (ddrop_no W.heap.size _ [] F' id _ HE.out.x.du rfl hwf).mono ?_; rintro e w6 ⟨rfl, rfl⟩
            go_wp2_with fail
            go_ret
            exact ⟨rfl, HE.out.x.kp.below (fun _ _ h => h)⟩
          | s :: r =>
            have hqT : q < T.length := by simp at hq; omega
            have hlim : s.2 ≤ SatAid.C 1125899906842624 := HDD.out.x.du.lim s (List.mem_cons_self ..)
            have hdel := del_head HDD.out.x.du.ids
            have HQ := Lib.hid hq; have HDEL := Lib.hid hdel
            clear hR hq hdel
            obtain ⟨s1, s2⟩ := s
            go_wp2_with fail
            refine (dfirst_due W.heap.size _ (s1, s2) r F' 1125899906842624 _ HDD.out.x.du hlim (by omega)).mono ?_; rintro e w5 ⟨rfl, ⟨F5, hd, hn⟩, hk⟩
            rw [HDEL.out] at hd
            have HE := Lib.hid (HDD.out.left hd hn hk); clear hd hn hk
            go_wp2_with fail
            refine (dfirst_due (W.heap.size + 1) _ (s1, s2) r G' 1125899906842624 _ HE.out.y.du hlim (by omega)).mono ?_; rintro e w6 ⟨rfl, ⟨G6, hd, hn⟩, hk⟩
            rw [HDEL.out] at hd
            have HE6 := Lib.hid (HE.out.right hd hn hk); clear hd hn hk
            go_wp2_with fail
            go_roundg r.length
            case measure => rw [HKk.out]; simp
            case rel => exact ⟨q + 1, r, F5, G6, rfl, by have := HQ.out; simp at this; omega, by go_num, HE6.out⟩
end Go.Proofs.Ytjipppejcpokkaa
