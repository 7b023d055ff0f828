/- What the reference's alarms do: Set. Condition: there are no more than fit into memory. -/
import Derived.Test.YtjipppejcpokkaaDueRef2
import Derived.Deep.CutBlock
import Derived.Deep.DeepCutAuto
namespace Go.Proofs.Ytjipppejcpokkaa
open Go.RowKit Go.Maps
theorem own_cap {w : World} {ao : Option Addr} {cap n : Nat} {T : TypeId} {sz : Nat} {xs : List Value} (h : Own w T sz (.slice ao n cap) n xs) : n ≤ cap := by
  rcases h.shape with ⟨h1, h2, _⟩ | ⟨g, cap', he, hcap, hcm, hg⟩
  · omega
  · cases he; exact hcap
theorem src_take_any {w : World} {ao : Option Addr} {cap k : Nat} {S : List (Int × Int)} (h : Own w 40 2 (.slice ao S.length cap) S.length (Ap S)) (hk : k ≤ S.length) : Src w ao k cap (Ap (S.take k)) := by
  rcases h.shape with ⟨h1, h2, _⟩ | ⟨g, cap', he, hcap, hcm, hg⟩
  · have hk0 : k = 0 := by omega
    subst hk0
    injection h1 with h3 h4 h5
    subst h3 h5
    exact ⟨fun _ => ⟨rfl, rfl⟩, rfl, fun _ _ _ e => by cases e⟩
  · cases he
    exact src_take h hk
theorem src_drop_any {w : World} {ao : Option Addr} {cap k : Nat} {S : List (Int × Int)} (h : Own w 40 2 (.slice ao S.length cap) S.length (Ap S)) (hk : k ≤ S.length) : Src w (if cap = k then ao else Option.map (fun x => x.add (k * 2)) ao) (S.length - k) (cap - k) (Ap (S.drop k)) := by
  rcases h.shape with ⟨h1, h2, _⟩ | ⟨g, cap', he, hcap, hcm, hg⟩
  · have hk0 : k = 0 := by omega
    subst hk0
    injection h1 with h3 h4 h5
    subst h3 h5
    have hS : S = [] := List.eq_nil_of_length_eq_zero (by omega)
    subst hS
    exact ⟨fun _ => ⟨rfl, rfl⟩, rfl, fun _ _ _ e => by cases e⟩
  · cases he
    by_cases hc : cap = k
    · rw [if_pos hc, show S.length - k = 0 by omega]
      exact src_end (by omega)
    · rw [if_neg hc]
      have := src_drop (c := cap - k) h hk
      rw [show Option.map (fun x => x.add (k * 2)) (some (⟨g, 0, none⟩ : Addr)) = some ⟨g, k * 2, none⟩ by rw [Option.map_some, Addr.add_lit, Nat.zero_add]]
      exact this
theorem rset_close {w wc w5 : World} {q j : Nat} {u u1 v5 : Value} {S S0 : List (Int × Int)} {id a t : Int} (hT : t = SatAid.C a) (hS : S = Del id S0) (hJ : Ins (id, t) S = S.take j ++ [(id, t)] ++ S.drop j) (hj : j ≤ S.length) (h1 : FdAt wc q u1 S) (_ : Rnew w u u1) (hk1 : Kp (· = q) w wc) (hlt : q < wc.heap.size)
    {m : Nat} (hm : m = S.length + 1) (ho : w5.ownsRow wc.heap.size 40 2 v5 m ([] ++ Ap (S.take j) ++ [.int .i64 id, .int .i64 t] ++ Ap (S.drop j))) (hk5 : Kp (fun _ => False) wc w5) :
    Rdone q u (Ins (id, SatAid.C a) (Del id S0)) (.tuple #[]) w (.returned (.tuple #[])) (w5.setCell ⟨q, 0, none⟩ v5) := by
  have hx : [] ++ Ap (S.take j) ++ [.int .i64 id, .int .i64 t] ++ Ap (S.drop j) = Ap (Ins (id, t) S) := by
    rw [hJ, Ap_app, Ap_app]; rfl
  rw [hx] at ho
  obtain ⟨⟨u', h3, h4⟩, h5⟩ := fnew_close h1 hlt (m := m) (by rw [hJ]; simp; omega) ho hk5
  subst hT hS
  exact ⟨rfl, ⟨u', h3, fun k hk => Or.inr (Nat.le_trans hk1.size (h4 k hk))⟩, hk1.trans h5⟩
set_option maxRecDepth 100000 in
set_option maxHeartbeats 16000000 in
theorem rset_any (q : Nat) (u : Value) (S0 : List (Int × Int)) (id a : Int) (w : World) (h : FdAt w q u S0) (hp : S0.Pairwise (fun a b => a.1 ≠ b.1)) (hL : S0.length ≤ 1000000) :
    Calls Try.prog 8 #[.pointer (some ⟨q, 0, none⟩), .int .i64 id, .int .i64 a] w (Rdone q u (Ins (id, SatAid.C a) (Del id S0)) (.tuple #[]) w) := by
  obtain ⟨i0, hi0, hz0, hz1, hz2⟩ := info_parts al_info
  have HH := Lib.hid h; have HP := Lib.hid hp; clear h hp
  obtain ⟨t, ht⟩ : ∃ t, t = SatAid.C a := ⟨_, rfl⟩
  have HT := Lib.hid ht; clear ht
  go_enter Try.func8, Try.ntmps8
  go_wp2_with fail
  refine (rdrop_any q u S0 id _ HH.out HP.out hL).mono ?_; rintro e w1 ⟨rfl, ⟨u1, h1, hn1⟩, hk1⟩
  have hl1 : (Del id S0).length ≤ 1000000 := Nat.le_trans (List.length_filter_le _ _) hL
  obtain ⟨S, hS⟩ : ∃ S, S = Del id S0 := ⟨_, rfl⟩
  rw [← hS] at h1 hl1
  obtain ⟨ao, cap, rfl⟩ := h1.row.slice
  have c0 := cell_of h1.head 0
  simp only [List.getElem?_toArray, List.getElem?_cons_zero] at c0
  have f0 := frozen_of h1.head 0
  have hlt := lt_of_block h1.head
  have HS := Lib.hid hS; have H1 := Lib.hid h1; have HN1 := Lib.hid hn1; have HK1 := Lib.hid hk1
  clear hS h1 hn1 hk1
  go_wp2_with fail
  refine (rclamp_any _ _).mono ?_; rintro e w2 ⟨rfl, rfl⟩
  rw [← HT.out]
  go_upto_block 0 with fail
  go_cut [6] from 12 to 54 (fun s6 wx => ∃ j : Nat, j ≤ S.length ∧ s6 = .int .i64 j ∧ wx = w1 ∧ (∀ i, i < j → LtP (S.getD i default) (id, t)) ∧ (j < S.length → ¬ LtP (S.getD j default) (id, t)))
  case first =>
    go_wp2_with fail
    go_loopg [6] S.length (fun k x wr => ∃ j : Nat, k = S.length - j ∧ j ≤ S.length ∧ x = .int .i64 j ∧ wr = w1 ∧ ∀ i, i < j → LtP (S.getD i default) (id, t))
    case atStart => exact ⟨0, rfl, Nat.zero_le _, rfl, rfl, fun i hi => absurd hi (Nat.not_lt_zero _)⟩
    case round =>
      obtain ⟨j, hk, hj, rfl, rfl, hb⟩ := hrel
      have HKk := Lib.hid hk; have HB := Lib.hid hb; clear hk hb
      have q1 : (0 : Int) ≤ (j : Int) := by omega
      have hsh := H1.out.row.shape
      by_cases hjl : j < S.length
      · rcases hsh with ⟨_, h1, _⟩ | ⟨g, cap', he, hcap, hcm, hg⟩
        · omega
        · cases he
          obtain ⟨x, hx⟩ : ∃ x, S[j]? = some x := ⟨_, List.getElem?_eq_getElem hjl⟩
          have hgd : S.getD j default = x := by rw [List.getD_eq_getElem?_getD, hx]; rfl
          have cj : wr.cell? ⟨g, j * 2, none⟩ = some (.int .i64 x.1) := H1.out.row.cell (Ap_get hx).1
          have cj2 : wr.cell? ⟨g, j * 2 + 1, none⟩ = some (.int .i64 x.2) := H1.out.row.cell (Ap_get hx).2
          obtain ⟨x1, x2⟩ := x
          have q2 : (j : Int) < (S.length : Int) := by omega
          have HGD := Lib.hid hgd; clear hx hgd
          by_cases hl1 : x2 < t
          · go_wp2_with fail
            go_roundg (S.length - (j + 1))
            case measure => rw [HKk.out]; omega
            case rel => exact ⟨j + 1, rfl, by omega, by go_num, rfl, fun i hi => by
              by_cases e : i = j
              · subst e; rw [HGD.out]; exact Or.inl hl1
              · exact HB.out i (by omega)⟩
          · by_cases hl2 : x2 = t
            · by_cases hl3 : x1 < id
              · have HT2 := Lib.hid hl2; subst hl2
                go_wp2_with fail
                go_roundg (S.length - (j + 1))
                case measure => rw [HKk.out]; omega
                case rel => exact ⟨j + 1, rfl, by omega, by go_num, rfl, fun i hi => by
                  by_cases e : i = j
                  · subst e; rw [HGD.out]; exact Or.inr ⟨rfl, hl3⟩
                  · exact HB.out i (by omega)⟩
              · subst hl2
                go_wp2_with fail
                go_meet
                exact ⟨j, by omega, rfl, rfl, HB.out, fun _ h => by rw [HGD.out] at h; unfold LtP at h; simp only at h; omega⟩
            · go_wp2_with fail
              go_meet
              exact ⟨j, by omega, rfl, rfl, HB.out, fun _ h => by rw [HGD.out] at h; unfold LtP at h; simp only at h; omega⟩
      · clear hsh
        go_wp2_with fail
        go_meet
        exact ⟨j, by omega, rfl, rfl, HB.out, fun h => absurd h (by omega)⟩
  case rest =>
    obtain ⟨j, hj, rfl, rfl, hb, he⟩ := hcut
    have HJ := Lib.hid (ins_split hj hb he); clear hb he
    have q1 : (0 : Int) ≤ (j : Int) := by omega
    have hcl : S.length ≤ cap := own_cap H1.out.row
    have HS1 := Lib.hid (src_take_any H1.out.row (k := j) (by omega))
    have p2 : (j : Int) ≤ (cap : Int) := by omega
    have p4 : (j : Int) ≤ (S.length : Int) := by omega
    have p5 : (S.length : Int) ≤ (cap : Int) := by omega
    have HS2 := Lib.hid (src_drop_any H1.out.row (k := j) (by omega))
    go_wp2_with fail
    go_region_law (first | (refine step_append_src rfl _ _ 30 rfl wc.heap.size 40 i0 _ 2 16 Try.underlying30 hi0 hz0 hz1 hz2 rfl (by decide) (.slice (some ⟨wc.heap.size, 0, none⟩) 0 0) 0 [] rfl (by first | exact own_empty (heap_new _) (by simp) | exact own_empty (heap_old _ (heap_new _)) (by simp) | exact own_empty (heap_new2 _ _) (by simp)) ao j cap (Ap (S.take j)) rfl HS1.out.none HS1.out.len (HS1.out.cell _ (by repeat (first | exact Kp.refl _ _ | apply Kp.drew | apply Kp.drewN | refine Kp.setCell ?_ _ _ (Or.inl rfl) | apply Kp.alloc))) (Ap_one _) (by unfold maxLen; omega) (by omega) (by simp <;> omega) ?_; intro v3 w3 hown3 hg3; have hg3' := Kp.of_grown' (v := .slice (some ⟨wc.heap.size, 0, none⟩) 0 0) hg3; have hk3 : Kp (fun _ => False) wc w3 := (show Kp (fun _ => False) wc _ from (by repeat (first | exact Kp.refl _ _ | apply Kp.drew | apply Kp.drewN | refine Kp.setCell ?_ _ _ (Or.inl rfl) | apply Kp.alloc))).trans_new hg3' (fun k h1 h2 => by have h3 : wc.heap.size = k := (by simpa [In, Value.ownBlock] using h2); omega); have k0 := (hk3.cell 0 hlt (fun h => h)).trans c0; have e0 := (hk3.frozen 0 hlt (fun h => h)).trans f0; have HG3 := Lib.hid hg3'; have HO3 := Lib.hid hown3; have HK3 := Lib.hid hk3; have hlt3 : q < w3.heap.size := Nat.lt_of_lt_of_le hlt hk3.size; clear hown3 hg3 hg3' hk3) | (refine step_append_src rfl _ _ 30 rfl wc.heap.size 40 i0 _ 2 16 Try.underlying30 hi0 hz0 hz1 hz2 rfl (by decide) (.slice (some ⟨wc.heap.size + 1, 0, none⟩) 0 0) 0 [] rfl (by first | exact own_empty (heap_new _) (by simp) | exact own_empty (heap_old _ (heap_new _)) (by simp) | exact own_empty (heap_new2 _ _) (by simp)) ao j cap (Ap (S.take j)) rfl HS1.out.none HS1.out.len (HS1.out.cell _ (by repeat (first | exact Kp.refl _ _ | apply Kp.drew | apply Kp.drewN | refine Kp.setCell ?_ _ _ (Or.inl rfl) | apply Kp.alloc))) (Ap_one _) (by unfold maxLen; omega) (by omega) (by simp <;> omega) ?_; intro v3 w3 hown3 hg3; have hg3' := Kp.of_grown' (v := .slice (some ⟨wc.heap.size + 1, 0, none⟩) 0 0) hg3; have hk3 : Kp (fun _ => False) wc w3 := (show Kp (fun _ => False) wc _ from (by repeat (first | exact Kp.refl _ _ | apply Kp.drew | apply Kp.drewN | refine Kp.setCell ?_ _ _ (Or.inl rfl) | apply Kp.alloc))).trans_new hg3' (fun k h1 h2 => by have h3 : wc.heap.size + 1 = k := (by simpa [In, Value.ownBlock] using h2); omega); have k0 := (hk3.cell 0 hlt (fun h => h)).trans c0; have e0 := (hk3.frozen 0 hlt (fun h => h)).trans f0; have HG3 := Lib.hid hg3'; have HO3 := Lib.hid hown3; have HK3 := Lib.hid hk3; have hlt3 : q < w3.heap.size := Nat.lt_of_lt_of_le hlt hk3.size; clear hown3 hg3 hg3' hk3) | (refine step_append_src rfl _ _ 30 rfl wc.heap.size 40 i0 _ 2 16 Try.underlying30 hi0 hz0 hz1 hz2 rfl (by decide) _ _ _ rfl (by first | exact HO3.out | exact HO3.out.alloc _) (some _) 1 1 [.int .i64 id, .int .i64 t] rfl (fun h => by cases h) rfl (by first | exact lit_news | exact news_at (HG3.out.keep (heap_new _) (by simp [In, Value.ownBlock])) | exact news_at (HG3.out.keep (heap_old _ (heap_new _)) (by simp [In, Value.ownBlock])) | exact news_at (HG3.out.keep (heap_new2 _ _) (by simp [In, Value.ownBlock]))) (Ap_one [(id, t)]) (by unfold maxLen; omega) (by omega) (by first | exact HK3.out.size | exact Nat.le_succ_of_le HK3.out.size | (have := HK3.out.size; simp; omega)) ?_; intro v4 w4 hown4 hg4; have hk4 : Kp (fun _ => False) wc w4 := (by first | exact kp_ownr HK3.out HO3.out hg4 | exact kp_ownr (HK3.out.alloc _) (HO3.out.alloc _) hg4); have k4 := (hk4.cell 0 hlt (fun h => h)).trans c0; have e4 := (hk4.frozen 0 hlt (fun h => h)).trans f0; have HO4 := Lib.hid hown4; have HK4 := Lib.hid hk4; have hlt4 : q < w4.heap.size := Nat.lt_of_lt_of_le hlt hk4.size; clear hown4 hg4 hk4) | (refine step_append_src rfl _ _ 30 rfl wc.heap.size 40 i0 _ 2 16 Try.underlying30 hi0 hz0 hz1 hz2 rfl (by decide) _ _ _ rfl HO4.out (if cap = j then ao else Option.map (fun x => x.add (j * 2)) ao) (S.length - j) (cap - j) (Ap (S.drop j)) rfl HS2.out.none HS2.out.len (HS2.out.cell _ HK4.out) (Ap_one _) (by unfold maxLen; omega) (by omega) HK4.out.size ?_; intro v5 w5 hown5 hg5; have HK5 := Lib.hid (kp_ownr HK4.out HO4.out hg5); have HO5 := Lib.hid hown5; have k5 := (HK5.out.cell 0 hlt (fun h => h)).trans c0; have e5 := (HK5.out.frozen 0 hlt (fun h => h)).trans f0; obtain ⟨a5, c5, rfl⟩ := (own_weaken hown5).slice; clear hown5 hg5))
    all_goals
      go_wp2_with fail
      all_goals
        (first | go_end0 | refine bodyPost_ret (results_none rfl _ _ _) rfl ?_)
        exact rset_close (m := j + 1 + (S.length - j)) HT.out HS.out HJ.out hj H1.out HN1.out HK1.out hlt (by omega) (by have h := HO5.out; rw [Nat.zero_add] at h; exact h) HK5.out
end Go.Proofs.Ytjipppejcpokkaa
