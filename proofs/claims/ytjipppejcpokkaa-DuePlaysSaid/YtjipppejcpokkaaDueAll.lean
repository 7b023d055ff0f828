/- DueAll: the law returns true for every input. No condition. -/
import Derived.Test.YtjipppejcpokkaaDueRef3
namespace Go.Proofs.Ytjipppejcpokkaa
open Go.RowKit Go.Maps Go.ChangeShapes Go.WideShapes Go.Deep

/-- alarms of one's own, and the reference's -/
structure DF (W w : World) (p q : Nat) (S T : List (Int × Int)) (N : Nat) (F : Nat → Prop) (u : Value) : Prop where
  x : DI W w p S N F
  y : FdAt w q u T
  yq : W.heap.size ≤ q
  yu : ∀ k, u.ownBlock = some k → W.heap.size ≤ k
  apart : ∀ k, F k → k ≠ q ∧ u.ownBlock ≠ some k
theorem FdAt.lt {w : World} {q k : Nat} {u : Value} {T : List (Int × Int)} (h : FdAt w q u T) (hk : u.ownBlock = some k) : k < w.heap.size := h.row.lt hk
theorem DF.left {W w w1 : World} {p q : Nat} {S S' T : List (Int × Int)} {N N' : Nat} {F F' : Nat → Prop} {u : Value} (h : DF W w p q S T N F u) (hd : DuAt w1 p S' N' F') (hn : New w F F') (hk : Kp F w w1) : DF W w1 p q S' T N' F' u := by
  refine ⟨h.x.next hd hn hk, h.y.keep hk (fun e => (h.apart q e).1 rfl) (fun k e e2 => (h.apart k e2).2 e), h.yq, h.yu, fun k a => ?_⟩
  rcases hn k a with e | e
  · exact h.apart k e
  · have l1 := lt_of_block h.y.head
    exact ⟨by omega, fun e2 => by have := h.y.lt e2; omega⟩
theorem DF.right {W w w1 : World} {p q : Nat} {S T T' : List (Int × Int)} {N : Nat} {F : Nat → Prop} {u u' : Value} (h : DF W w p q S T N F u) (hd : FdAt w1 q u' T') (hn : Rnew w u u') (hk : Kp (· = q) w w1) : DF W w1 p q S T' N F u' := by
  refine ⟨⟨h.x.du.keep hk (fun k e => (h.apart k e).1), h.x.new, h.x.kp.trans_new hk (fun k h1 e => by have e' : k = q := e; have := h.yq; omega)⟩, hd, h.yq, fun k e => ?_, fun k a => ⟨(h.apart k a).1, fun e => ?_⟩⟩
  · rcases hn k e with e | e
    · exact h.yu k e
    · exact Nat.le_trans h.x.kp.size e
  · rcases hn k e with e | e
    · exact (h.apart k a).2 e
    · have := h.x.du.lt a; omega
theorem DF.calm {W w w1 : World} {p q : Nat} {S T : List (Int × Int)} {N : Nat} {F : Nat → Prop} {u : Value} (h : DF W w p q S T N F u) (hk : Kp (fun _ => False) w w1) : DF W w1 p q S T N F u :=
  ⟨h.x.calm hk, h.y.keep hk (fun h => h) (fun _ _ h => h), h.yq, h.yu, h.apart⟩
theorem DF.made (W : World) : ∃ F, DF W ((W.alloc (.cells #[.slice none 0 0, .map none] 28)).alloc (.cells #[.slice none 0 0] 32)) W.heap.size (W.heap.size + 1) [] [] 0 F (.slice none 0 0) := by
  have h1 := DI.made W W (Kp.refl _ _)
  refine ⟨_, h1.calm ((Kp.refl _ _).alloc _), ⟨heap_new2 _ _, Own.nil _ _ _, by simp [Value.ownBlock]⟩, by omega, by simp [Value.ownBlock], fun k a => ?_⟩
  have l1 : k = W.heap.size := by
    rcases a with a | (a | ⟨x, hx, _⟩) | a
    · exact a
    · simp [In, Value.ownBlock] at a
    · cases hx
    · cases a
  exact ⟨by omega, by simp [Value.ownBlock]⟩

set_option maxRecDepth 100000 in
set_option maxHeartbeats 1600000 in
theorem dueAll_law {H : Type} {enc : TypeId × Value → H} (W : World) {base : Nat} (v0 v1 : Value) (d0 d1 : DataW H) (p0 p1 : List MemPlace)
    (k0 : Value.okWide Try.prog W .any base 47 v0) (k1 : Value.okWide Try.prog W .any base 47 v1)
    (h0 : DataW.Trod enc Try.prog W 0 (fun _ => true) true 47 v0 d0 p0) (h1 : DataW.Trod enc Try.prog W 0 (fun _ => true) true 47 v1 d1 p1) :
    Calls Try.prog 4 #[v0, v1] W fun e W' => e = .returned (.bool true) ∧ Below W.heap.size W W' := by
  obtain ⟨ai, n, ci, f, rfl, hci, hni, hri, hwi⟩ := open_introw Try.underlying47 (by kernel_rfl) Try.underlying3 k0 h0
  obtain ⟨aa, m, ca, g, rfl, hca, hna, hra, hwa⟩ := open_introw Try.underlying47 (by kernel_rfl) Try.underlying3 k1 h1
  clear h0 h1 k0 k1
  obtain ⟨F0, h00⟩ := DF.made W
  have HI := Lib.hid hri; have HA := Lib.hid hra; have HWI := Lib.hid hwi; have H00 := Lib.hid h00
  clear hri hra hwi hwa h00
  go_enter Try.func4, Try.ntmps4
  go_wp2_with fail
  go_loopg [7] n (fun k i wr => ∃ (j : Nat) (S : List (Int × Int)) (F : Nat → Prop) (u : Value), k = n - j ∧ j ≤ n ∧ j ≤ 200 ∧ i = .int .i64 j ∧ DF W wr W.heap.size (W.heap.size + 1) S S j F u)
  case atStart => exact ⟨0, [], F0, _, rfl, Nat.zero_le _, by omega, rfl, H00.out⟩
  case round =>
    obtain ⟨j, S, F, u, hk, hj, hj60, rfl, hd⟩ := hrel
    have HKk := Lib.hid hk; have HD := Lib.hid hd; clear hk hd
    by_cases hlt : j < n ∧ j < m ∧ j < 200
    · obtain ⟨hl1, hl2, hl3⟩ := hlt
      obtain ⟨bi, oi, rfl, hbi, hc1⟩ := HI.out j hl1
      obtain ⟨ba, oa, rfl, hba, hc2⟩ := HA.out j hl2
      have g1 : wr.cell? ⟨bi, oi + j, none⟩ = some (.int .i64 (f j)) := (HD.out.x.kp.cell _ hbi (fun h => h)).trans hc1
      have g2 : wr.cell? ⟨ba, oa + j, none⟩ = some (.int .i64 (g j)) := (HD.out.x.kp.cell _ hba (fun h => h)).trans hc2
      have hwj := Lib.hid (HWI.out j hl1)
      obtain ⟨y, hy⟩ : ∃ y, y = f j := ⟨_, rfl⟩
      obtain ⟨t, ht⟩ : ∃ t, t = g j := ⟨_, rfl⟩
      rw [← hy] at g1 hwj
      rw [← ht] at g2
      clear hy ht hc1 hc2
      have q1 : (0 : Int) ≤ (j : Int) := by omega
      have q2 : (j : Int) < (n : Int) := by omega
      have q3 : (j : Int) < (m : Int) := by omega
      have hsl := HD.out.x.du.length
      go_wp2_with fail
      refine still_tail 9 (by kernel_rfl) (by kernel_rfl) ?_
      simp only [List.take_succ_cons, List.take_zero, List.drop_succ_cons, List.drop_zero]
      repeat still_step
      refine wpStill_nil ?_
      go_wp2_with fail
      have hD1 := Lib.hid (HD.out.calm ((Kp.refl _ _).drew))
      refine (dset_any W.heap.size j S F y t _ hD1.out.x.du hwj.out (by omega)).mono ?_; rintro e w1 ⟨rfl, ⟨F1, hd, hn⟩, hk⟩
      have HD1 := Lib.hid (hD1.out.left hd hn hk); clear hd hn hk
      have g3 : w1.cell? ⟨bi, oi + j, none⟩ = some (.int .i64 y) := by
        have e1 := HD1.out.x.kp.cell (oi + j) hbi (fun h => h)
        have e2 := HD.out.x.kp.cell (oi + j) hbi (fun h => h)
        exact e1.trans (e2.symm.trans g1)
      have g4 : w1.cell? ⟨ba, oa + j, none⟩ = some (.int .i64 t) := by
        have e1 := HD1.out.x.kp.cell (oa + j) hba (fun h => h)
        have e2 := HD.out.x.kp.cell (oa + j) hba (fun h => h)
        exact e1.trans (e2.symm.trans g2)
      go_wp2_with fail
      refine still_tail 9 (by kernel_rfl) (by kernel_rfl) ?_
      simp only [List.take_succ_cons, List.take_zero, List.drop_succ_cons, List.drop_zero]
      repeat still_step
      refine wpStill_nil ?_
      go_wp2_with fail
      have hD2 := Lib.hid (HD1.out.calm ((Kp.refl _ _).drew))
      refine (rset_any (W.heap.size + 1) u S y t _ hD2.out.y HD.out.x.du.ids (by omega)).mono ?_; rintro e w2 ⟨rfl, ⟨u2, hd, hn⟩, hk⟩
      have HD2 := Lib.hid (hD2.out.right hd hn hk); clear hd hn hk
      go_wp2_with fail
      go_roundg (n - (j + 1))
      case measure => rw [HKk.out]; omega
      case rel => exact ⟨j + 1, _, F1, u2, rfl, by omega, by omega, by go_num, HD2.out⟩
    · have htl : S.length ≤ 200 := Nat.le_trans HD.out.x.du.length (by omega)
      go_wp2_with fail
      all_goals
        go_loopg [8] S.length (fun k i wr => ∃ (q : Nat) (R : List (Int × Int)) (F : Nat → Prop), k = R.length ∧ S.drop q = R ∧ q ≤ S.length ∧ i = .int .i64 q ∧ DF W wr W.heap.size (W.heap.size + 1) R S j F u)
        case atStart => exact ⟨0, S, F, rfl, rfl, Nat.zero_le _, rfl, HD.out⟩
        case round =>
          obtain ⟨q, R, F', hk, hq, hql, rfl, hd⟩ := hrel
          have HKk := Lib.hid hk; have HDD := Lib.hid hd; have HQ := Lib.hid hq; clear hk hd hq
          obtain ⟨ao, cap, rfl⟩ := HDD.out.y.row.slice
          have c0 := cell_of HDD.out.y.head 0
          simp only [List.getElem?_toArray, List.getElem?_cons_zero] at c0
          match hR : R with
          | [] =>
            have hqT : q = S.length := by have := congrArg List.length HQ.out; simp at this; omega
            subst hqT
            clear hR
            go_wp2_with fail
            refine (dfirst_nil W.heap.size _ F' 1125899906842624 _ HDD.out.x.du).mono ?_; rintro e w5 ⟨rfl, rfl⟩
            go_wp2_with fail
            refine (d20ans_any _).mono ?_; rintro e w5 ⟨rfl, hk5⟩
            have HE := Lib.hid (HDD.out.calm hk5); clear hk5
            go_wp2_with fail
            refine (dlen_any W.heap.size [] _ F' _ HE.out.x.du).mono ?_; rintro e w6 ⟨rfl, rfl⟩
            go_wp2_with fail
            go_ret
            exact ⟨rfl, HE.out.x.kp.below (fun _ _ h => h)⟩
          | s :: r =>
            have hqT : q < S.length := by have := congrArg List.length HQ.out; simp at this; omega
            have hlim : s.2 ≤ SatAid.C 1125899906842624 := HDD.out.x.du.lim s (List.mem_cons_self ..)
            have hdel := del_head HDD.out.x.du.ids
            have HDEL := Lib.hid hdel
            have hget : S[q]? = some s := by
              have := congrArg (fun l => l[0]?) HQ.out
              simpa using this
            have hnext : S.drop (q + 1) = r := by rw [← List.tail_drop, HQ.out]; rfl
            have HGET := Lib.hid hget; have HNX := Lib.hid hnext
            clear hR hdel hget hnext
            obtain ⟨s1, s2⟩ := s
            have q1 : (0 : Int) ≤ (q : Int) := by omega
            have q2 : (q : Int) < (S.length : Int) := by omega
            go_wp2_with fail
            refine (dfirst_due W.heap.size _ (s1, s2) r F' 1125899906842624 _ HDD.out.x.du hlim (by omega)).mono ?_; rintro e w5 ⟨rfl, ⟨F5, hd, hn⟩, hk⟩
            rw [HDEL.out] at hd
            have HE := Lib.hid (HDD.out.left hd hn hk); clear hd hn hk
            have c5 := cell_of HE.out.y.head 0
            simp only [List.getElem?_toArray, List.getElem?_cons_zero] at c5
            rcases HE.out.y.row.shape with ⟨_, h1, _⟩ | ⟨g', cap', he, hcap, hcm, hg'⟩
            · omega
            cases he
            have cj : w5.cell? ⟨g', q * 2, none⟩ = some (.int .i64 s1) := HE.out.y.row.cell (Ap_get HGET.out).1
            go_wp2_with fail
            go_roundg r.length
            case measure => rw [HKk.out]; simp
            case rel => exact ⟨q + 1, r, F5, rfl, HNX.out, by omega, by go_num, HE.out⟩
end Go.Proofs.Ytjipppejcpokkaa
