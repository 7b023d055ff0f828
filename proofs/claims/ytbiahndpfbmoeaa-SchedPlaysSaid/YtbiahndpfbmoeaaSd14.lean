/- What a scheduler's turn does. Conditions: times do not go back, there are no more recipients than fit into memory. -/
import Derived.Test.YtbiahndpfbmoeaaSd13
namespace Go.Proofs.Ytbiahndpfbmoeaa
open Go.RowKit Go.Maps SatAid Go.MapKept Go.ChangeMaps Go.WideShapes

theorem none_some {α : Type} {o : Option α} (h : o = none) (e : o.isSome = true) : False := by subst h; cases e
/-- the senders of those that may begin -/
def rsn (s : Sd) (loc : Bool) (now : Int) : List ByteArray := (s.Ws.filter (rdy s loc now)).map Wt.snd
theorem Fx_congr {R R' A : List ByteArray} (h : ∀ x, x ∈ R ↔ x ∈ R') : Fx R A = Fx R' A := by
  have e : ∀ x, Has x R = Has x R' := fun x => by
    cases h1 : Has x R with
    | true => exact ((Has_mem x R').2 ((h x).1 ((Has_mem x R).1 h1))).symm
    | false =>
      cases h2 : Has x R' with
      | false => rfl
      | true => have := (Has_mem x R).2 ((h x).2 ((Has_mem x R').1 h2)); rw [h1] at this; cases this
  induction A with
  | nil => rfl
  | cons a A ih => unfold Fx; rw [e, ih]
theorem Fx_has {R A : List ByteArray} (h : Fx R A < A.length) : Has (A.getD (Fx R A) ByteArray.empty) R = true := by
  induction A with
  | nil => cases h
  | cons a A ih =>
    unfold Fx at h ⊢
    split
    · rename_i h1; simpa using h1
    · rename_i h1
      rw [if_neg h1] at h
      simpa using ih (by simpa using h)
/-- the ring of a transport -/
def rgA (s : Sd) (loc : Bool) : List ByteArray := if loc then s.A1 else s.A0
/-- m is the least of the sender's that may begin -/
structure Best (s : Sd) (loc : Bool) (now : Int) (a : ByteArray) (m : Wt) : Prop where
  mem : m ∈ s.Ws
  rd : rdy s loc now m = true
  sd : m.snd = a
  le : ∀ z ∈ s.Ws, rdy s loc now z = true → z.snd = a → 0 ≤ Le2 z m
def Sturn (p N : Nat) (s : Sd) (loc : Bool) (now : Int) (w : World) (e : Ending) (w' : World) : Prop :=
  (¬ Fx (rsn s loc now) (rgA s loc) < (rgA s loc).length → e = .returned (.tuple #[.pointer none, .bool false]) ∧ ∃ s', SIn w' p s' N ∧ St w w' s s' ∧ ab s' = ab s ∧ Vq now s s' ∧ s'.Ws = s.Ws ∧ s'.D = s.D) ∧
  (Fx (rsn s loc now) (rgA s loc) < (rgA s loc).length → ∃ m s', Best s loc now ((rgA s loc).getD (Fx (rsn s loc now) (rgA s loc)) ByteArray.empty) m ∧ e = .returned (.tuple #[.pointer (some ⟨m.blk, 0, none⟩), .bool true]) ∧ SIn w' p s' N ∧ St w w' s s' ∧
    ab s' = (if loc then { ab s with A1 := Turn (Fx (rsn s loc now) s.A1) s.A1 } else { ab s with A0 := Turn (Fx (rsn s loc now) s.A0) s.A0 }) ∧ Vq now s s' ∧ s'.Ws = s.Ws ∧ s'.D = s.D)
theorem Sc_snoc (L : List ByteArray) (x : ByteArray) : Sc (L ++ [x]) = Sc L ++ [.string x] := by simp [Sc]
theorem map_take_succ {R : List Wt} {j : Nat} {x : Wt} (h : R[j]? = some x) : (R.take (j + 1)).map Wt.snd = (R.take j).map Wt.snd ++ [x.snd] := by rw [take_succ_get h]; simp
theorem St.past {w w' w1 : World} {s s' : Sd} {S : Nat → Prop} (h : St w w' s s') (hk : Kp S w' w1) (hS : ∀ k, S k → w.heap.size ≤ k) : St w w1 s s' := ⟨h.old, h.new, h.kp.trans_new hk (fun k h1 e => by have := hS k e; omega)⟩
set_option maxRecDepth 100000 in
set_option maxHeartbeats 3200000 in
theorem sturn_far (p N : Nat) (s : Sd) (now : Int) (w : World) (h : SIn w p s N) (ht : Tik s now) (hn : 0 ≤ now) (hn2 : now ≤ 1099511627776) (hN : N ≤ 1000000) :
    Calls Try.prog 52 #[.pointer (some ⟨p, 0, none⟩), .bool false, .int .i64 now] w (Sturn p N s false now w) := by
  have H := Lib.hid h; have HT := Lib.hid ht; clear h ht
  obtain ⟨i0, hi, hz0, hz1, hz2⟩ := info_parts str_info
  go_enter Try.func52, Try.ntmps52
  go_wp2_with fail
  refine (sready_any p N s false now _ H.out HT.out hn hn2 hN).mono ?_; rintro e w1 ⟨Ps', col', R, v, rfl, hsi, hst, hvq, how, hpm, hvn⟩
  have hRl : R.length ≤ N := by
    have h1 := hpm.length_eq
    have h2 : (s.Ws.filter (rdy s false now)).length ≤ s.Ws.length := List.length_filter_le _ _
    have h3 := H.out.lw
    omega
  have hmem : ∀ z, z ∈ R ↔ z ∈ s.Ws ∧ rdy s false now z = true := fun z => by rw [hpm.mem_iff, List.mem_filter]
  have HSI := Lib.hid hsi; have HST := Lib.hid hst; have HVQ := Lib.hid hvq; have HOW := Lib.hid how; have HMEM := Lib.hid hmem; have HVN := Lib.hid hvn
  clear hsi hst hvq how hpm hmem hvn
  obtain ⟨ao, cap, rfl⟩ := HOW.out.slice
  go_wp2_with fail
  go_loopg [9, 11, 20] R.length (fun k nv _ i wr => ∃ j : Nat, k = R.length - j ∧ j ≤ R.length ∧ i = .int .i64 j ∧ Own wr 9 1 nv ((R.take j).map Wt.snd).length (Sc ((R.take j).map Wt.snd)) ∧ (∀ k, nv.ownBlock = some k → w1.heap.size ≤ k) ∧ Kp (fun _ => False) w1 wr)
  case atStart => exact ⟨0, rfl, Nat.zero_le _, rfl, Own.nil _ _ _, fun k e => by simp [Value.ownBlock] at e, Kp.refl _ _⟩
  case round =>
    obtain ⟨j, hk, hj, rfl, hon, hnn, hkp⟩ := hrel
    have HKk := Lib.hid hk; have HON := Lib.hid hon; have HNN := Lib.hid hnn; have HKP := Lib.hid hkp; clear hk hon hnn hkp
    by_cases hlt : j < R.length
    · rcases HOW.out.shape with ⟨_, h1, _⟩ | ⟨g, cap', he, hcap, hcm, hg⟩
      · omega
      cases he
      obtain ⟨z, hz⟩ : ∃ z, R[j]? = some z := ⟨_, List.getElem?_eq_getElem hlt⟩
      have cj := (HKP.out.cell j hg (fun h => h)).trans (HOW.out.cell (rp_get hz))
      have hzb := HKP.out.keep (HSI.out.wts z ((HMEM.out z).1 (List.mem_of_getElem? hz)).1) (fun h => h)
      have z2 : wr.cell? ⟨z.blk, 2, none⟩ = some (.string z.snd) := (cell_of hzb 2).trans rfl
      have q2 : (0 : Int) ≤ (j : Int) := by omega
      have q3 : (j : Int) < (R.length : Int) := by omega
      have hlj : ((R.take j).map Wt.snd).length = j := by simp; omega
      obtain ⟨no, nc, hnv⟩ := HON.out.slice
      have HZ := Lib.hid hz; clear hz hzb
      rw [hlj] at hnv
      have HON2 := Lib.hid (show Own wr 9 1 (.slice no j nc) j (Sc ((R.take j).map Wt.snd)) by have := HON.out; rw [hlj, hnv] at this; exact this)
      have HNN2 := Lib.hid (show ∀ k, (Value.slice no j nc).ownBlock = some k → w1.heap.size ≤ k by rw [← hnv]; exact HNN.out)
      subst hnv
      clear HON HNN hlj
      go_wp2_with (at_builtin; (refine wpList_append_prec _ rfl _ _ 24 rfl 9 i0 _ 1 16 Try.underlying24 hi hz0 hz1 hz2 rfl (by decide) _ j (Sc ((R.take j).map Wt.snd)) rfl (by exact HON2.out.alloc _) _ 1 1 [.string z.snd] rfl (fun h => by cases h) rfl lit_news one_string (by unfold maxLen; omega) (by omega) ?_; intro v' w6 ho6 hk6 hsn6 _))
      have hk7 : Kp (fun _ => False) w1 w6 := (HKP.out.alloc (.cells #[.string z.snd] 9)).trans_new hk6 (fun k h1 h2 => by have := HNN2.out k h2; omega)
      have HOO := Lib.hid (show Own w6 9 1 v' ((R.take (j + 1)).map Wt.snd).length (Sc ((R.take (j + 1)).map Wt.snd)) by
        have e : ((R.take (j + 1)).map Wt.snd).length = j + 1 := by simp; omega
        rw [e, map_take_succ HZ.out, Sc_snoc]; exact ho6)
      have HNN3 := Lib.hid (show ∀ k, v'.ownBlock = some k → w1.heap.size ≤ k from fun k e => by
        rcases hsn6 with h | h
        · rw [h] at e; exact HNN2.out k e
        · have h1 := h k e; have h2 := HKP.out.size; simp at h1; omega)
      have HK7 := Lib.hid hk7
      clear ho6 hk6 hsn6 hk7
      go_wp2_with fail
      go_roundg (R.length - (j + 1))
      case measure => rw [HKk.out]; omega
      case rel => exact ⟨j + 1, rfl, by omega, by go_num, HOO.out, HNN3.out, HK7.out⟩
    · have hjl : j = R.length := by omega
      subst hjl
      have hfl : (R.take R.length).map Wt.snd = R.map Wt.snd := by rw [List.take_length]
      have hnl : (R.map Wt.snd).length = R.length := by simp
      have hon := HON.out
      rw [hfl] at hon
      have HFX := Lib.hid (show Fx (R.map Wt.snd) (rgA s false) = Fx (rsn s false now) (rgA s false) from Fx_congr fun x => by
        simp only [rsn, List.mem_map, List.mem_filter, HMEM.out])
      obtain ⟨NL, hNL⟩ : ∃ NL, NL = R.map Wt.snd := ⟨_, rfl⟩
      rw [← hNL] at hon hnl HFX
      have HNL := Lib.hid hNL
      have hnn : NL.length ≤ 1000000 := by omega
      obtain ⟨no, nc, hnv⟩ := hon.slice
      have HSR := Lib.hid (SRd.own hon hnv)
      subst hnv
      have HS2 := Lib.hid (HSI.out.keep HKP.out (fun _ _ h => h))
      have hst2 := HST.out.calm HKP.out
      have HST2 := Lib.hid hst2
      have c15 : wr.cell? ⟨p, 14, none⟩ = some (.map (some s.br)) := (cell_of HS2.out.head 14).trans rfl
      have hlA := H.out.l0
      clear hfl hnl hon hst2 HON HNN HKk hNL hlt hj
      by_cases hx : Fx NL s.A0 < (s.A0).length
      · obtain ⟨i, hi'⟩ : ∃ i, i = Fx NL s.A0 := ⟨_, rfl⟩
        rw [← hi'] at hx
        obtain ⟨a, ha⟩ : ∃ a, a = (s.A0).getD i ByteArray.empty := ⟨_, rfl⟩
        have haN : a ∈ NL := by rw [ha, hi']; exact (Has_mem _ _).1 (Fx_has (by rw [← hi']; exact hx))
        obtain ⟨z0, hz0', hza⟩ := List.mem_map.1 (by rw [HNL.out] at haN; exact haN)
        have hRp : 0 < R.length := List.length_pos_of_mem hz0'
        rcases HOW.out.shape with ⟨_, h1, _⟩ | ⟨g, cap', he, hcap, hcm, hg⟩
        · omega
        cases he
        have hgn := HVN.out g (by simp [Value.ownBlock])
        have HIX := Lib.hid (show i = Fx (rsn s false now) (rgA s false) by rw [← HFX.out]; exact hi')
        have HA := Lib.hid ha; have HZ0 := Lib.hid (show z0 ∈ R.filter (kp a) from List.mem_filter.2 ⟨hz0', by simp [kp, hza]⟩)
        have HI := Lib.hid hi'
        clear hi' ha haN hz0' hza
        go_wp2_with (at_lookup; refine wpList_look1 _ rfl _ _ 90 rfl 4 23 bool_law Try.underlying90 (rzero _) _ _ _ rfl HS2.out.rgm _ _ rfl (keyOf_bool_mk Try.underlying4 false) (.pointer (some ⟨s.r0, 0, none⟩)) (by simp [Rm]) ?_)
        refine (rnext_any (s.r0) (s.v0) (s.A0) NL no nc i _ HS2.out.rg0 HSR.out (by omega) (by omega) HI.out.symm hx).mono ?_; rintro e w2 ⟨rfl, ⟨v2, hr2, hs2⟩, hk2⟩
        rw [← HA.out]
        obtain ⟨g1, g2⟩ := HS2.out.setRing0 (Nat.le_refl _) hr2 hs2 hk2 (by rw [Turn_len hx]; exact hlA)
        have hcg : col' g = none := hgn.2
        have hgr : g < wr.heap.size := Nat.lt_of_lt_of_le hg HKP.out.size
        have hg2 := g2.none hgr hcg
        have hnr : ∀ k, (k = s.r0 ∨ In (s.v0) k) → (col' k).isSome := fun k e => by
          rcases e with rfl | e
          · have := HS2.out.cols.rg0; rw [show col' _ = _ from this]; rfl
          · have := HS2.out.cols.nm0 k e; rw [show col' k = _ from this]; rfl
        have hrow2 : Own w2 96 1 (.slice (some ⟨g, 0, none⟩) R.length cap) R.length (Rp R) := (HOW.out.keep HKP.out (fun _ _ h => h)).keep hk2 (fun k e e2 => by
          have e3 : k = g := by simpa [Value.ownBlock] using e.symm
          subst e3
          have := hnr k e2
          rw [hcg] at this; cases this)
        have hk3 : Kp (fun _ => False) w2 (w2.alloc (.cells #[.string a] 9)) := (by repeat (first | exact Kp.refl _ _ | apply Kp.drew | apply Kp.drewN | refine Kp.setCell ?_ _ _ (Or.inl rfl) | apply Kp.alloc))
        have HRW := Lib.hid (hrow2.keep hk3 (fun _ _ h => h))
        have HWB := Lib.hid (show Wb (w2.alloc (.cells #[.string a] 9)) R from fun x hx => hk3.keep (g1.wts x ((HMEM.out x).1 hx).1) (fun h => h))
        have HNE := Lib.hid (show ∀ x ∈ R, x.blk ≠ g from fun x hx e => by
          have e4 : col' x.blk = some (cWait (x.id, x.rc)) := HSI.out.cols.wts x ((HMEM.out x).1 hx).1
          rw [e, hcg] at e4; cases e4)
        have hg2s := g2.kp.size
        have HG1 := Lib.hid g1; have HG2 := Lib.hid (HST2.out.trans g2); have HGN := Lib.hid hg2; have HGW := Lib.hid hgn.1
        have hnb : w2.heap.size ≠ g := by omega
        clear g1 g2 hg2 hnr hrow2 hr2 hs2 hk2 hcg hgn
        go_wp2_with fail
        refine (sdelf_any g cap w2.heap.size R a _ HRW.out HWB.out ((cell_of (heap_new (w := w2) _) 0).trans rfl) (by omega) (by simp) HNE.out hnb (by omega)).mono ?_; rintro e w4 ⟨rfl, hc4, hk4⟩
        have HC4 := Lib.hid hc4; have HK4 := Lib.hid hk4
        have hWB4 := Lib.hid (show Wb w4 (R.filter (kp a)) from fun x hx => hk4.keep (HWB.out x (List.mem_filter.1 hx).1) (HNE.out x (List.mem_filter.1 hx).1))
        have hg4 : g < w4.heap.size := by have := hk4.size; simp at this; omega
        clear hc4 hk4
        go_wp2_with fail
        refine (smin_any g cap (R.filter (kp a)) _ HC4.out hWB4.out (List.ne_nil_of_mem HZ0.out) (Nat.le_trans (List.length_filter_le _ _) (by omega)) hg4).mono ?_; rintro e w5 ⟨⟨m, hm, rfl, hmin⟩, hk5⟩
        have hkf : Kp (· = g) w2 w5 := ((hk3.mono (fun _ _ h => h.elim)).trans HK4.out).trans (hk5.mono (fun _ _ h => h.elim))
        have hm1 := (List.mem_filter.1 hm)
        have HZZ := Lib.hid (show Sturn p N s false now w (.returned (.tuple #[.pointer (some ⟨m.blk, 0, none⟩), .bool true])) w5 from by
          refine ⟨fun hno => absurd (by rw [← HIX.out]; exact hx) hno, fun _ => ⟨m, _, ⟨((HMEM.out m).1 hm1.1).1, ((HMEM.out m).1 hm1.1).2, by rw [← HIX.out]; exact (of_decide_eq_true hm1.2).trans HA.out, fun z hz1 hz2 hz3 => hmin z (List.mem_filter.2 ⟨(HMEM.out z).2 ⟨hz1, hz2⟩, decide_eq_true (by rw [hz3, ← HIX.out]; exact HA.out.symm)⟩)⟩, rfl, HG1.out.keep hkf (fun k e e2 => by have e3 : k = g := e2; subst e3; exact none_some HGN.out e), HG2.out.past hkf (fun k e => by have e3 : k = g := e; subst e3; exact HGW.out), by rw [HIX.out]; rfl, HVQ.out.trans (Vq.of rfl rfl HVQ.out.le), rfl, rfl⟩⟩)
        clear hm hmin hk5 hkf hm1
        go_wp2_with fail
        go_ret2
        exact HZZ.out
      · go_wp2_with (at_lookup; refine wpList_look1 _ rfl _ _ 90 rfl 4 23 bool_law Try.underlying90 (rzero _) _ _ _ rfl HS2.out.rgm _ _ rfl (keyOf_bool_mk Try.underlying4 false) (.pointer (some ⟨s.r0, 0, none⟩)) (by simp [Rm]) ?_)
        refine (rnext_no (s.r0) (s.v0) (s.A0) NL no nc _ HS2.out.rg0 HSR.out (by omega) (by omega) hx).mono ?_; rintro e w2 ⟨rfl, hk2⟩
        have HZZ := Lib.hid (show Sturn p N s false now w (.returned (.tuple #[.pointer none, .bool false])) (w2.alloc (.cells #[.string ByteArray.empty] 9)) from
          ⟨fun _ => ⟨rfl, _, (HS2.out.keep hk2 (fun _ _ h => h)).keep ((Kp.refl (fun _ => False) w2).alloc _) (fun _ _ h => h), (HST2.out.calm hk2).calm ((Kp.refl _ w2).alloc _), rfl, HVQ.out, rfl, rfl⟩, fun hyes => absurd (by rw [← HFX.out] at hyes; exact hyes) hx⟩)
        clear hk2
        go_wp2_with fail
        go_ret2
        exact HZZ.out
set_option maxRecDepth 100000 in
set_option maxHeartbeats 3200000 in
theorem sturn_near (p N : Nat) (s : Sd) (now : Int) (w : World) (h : SIn w p s N) (ht : Tik s now) (hn : 0 ≤ now) (hn2 : now ≤ 1099511627776) (hN : N ≤ 1000000) :
    Calls Try.prog 52 #[.pointer (some ⟨p, 0, none⟩), .bool true, .int .i64 now] w (Sturn p N s true now w) := by
  have H := Lib.hid h; have HT := Lib.hid ht; clear h ht
  obtain ⟨i0, hi, hz0, hz1, hz2⟩ := info_parts str_info
  go_enter Try.func52, Try.ntmps52
  go_wp2_with fail
  refine (sready_any p N s true now _ H.out HT.out hn hn2 hN).mono ?_; rintro e w1 ⟨Ps', col', R, v, rfl, hsi, hst, hvq, how, hpm, hvn⟩
  have hRl : R.length ≤ N := by
    have h1 := hpm.length_eq
    have h2 : (s.Ws.filter (rdy s true now)).length ≤ s.Ws.length := List.length_filter_le _ _
    have h3 := H.out.lw
    omega
  have hmem : ∀ z, z ∈ R ↔ z ∈ s.Ws ∧ rdy s true now z = true := fun z => by rw [hpm.mem_iff, List.mem_filter]
  have HSI := Lib.hid hsi; have HST := Lib.hid hst; have HVQ := Lib.hid hvq; have HOW := Lib.hid how; have HMEM := Lib.hid hmem; have HVN := Lib.hid hvn
  clear hsi hst hvq how hpm hmem hvn
  obtain ⟨ao, cap, rfl⟩ := HOW.out.slice
  go_wp2_with fail
  go_loopg [9, 11, 20] R.length (fun k nv _ i wr => ∃ j : Nat, k = R.length - j ∧ j ≤ R.length ∧ i = .int .i64 j ∧ Own wr 9 1 nv ((R.take j).map Wt.snd).length (Sc ((R.take j).map Wt.snd)) ∧ (∀ k, nv.ownBlock = some k → w1.heap.size ≤ k) ∧ Kp (fun _ => False) w1 wr)
  case atStart => exact ⟨0, rfl, Nat.zero_le _, rfl, Own.nil _ _ _, fun k e => by simp [Value.ownBlock] at e, Kp.refl _ _⟩
  case round =>
    obtain ⟨j, hk, hj, rfl, hon, hnn, hkp⟩ := hrel
    have HKk := Lib.hid hk; have HON := Lib.hid hon; have HNN := Lib.hid hnn; have HKP := Lib.hid hkp; clear hk hon hnn hkp
    by_cases hlt : j < R.length
    · rcases HOW.out.shape with ⟨_, h1, _⟩ | ⟨g, cap', he, hcap, hcm, hg⟩
      · omega
      cases he
      obtain ⟨z, hz⟩ : ∃ z, R[j]? = some z := ⟨_, List.getElem?_eq_getElem hlt⟩
      have cj := (HKP.out.cell j hg (fun h => h)).trans (HOW.out.cell (rp_get hz))
      have hzb := HKP.out.keep (HSI.out.wts z ((HMEM.out z).1 (List.mem_of_getElem? hz)).1) (fun h => h)
      have z2 : wr.cell? ⟨z.blk, 2, none⟩ = some (.string z.snd) := (cell_of hzb 2).trans rfl
      have q2 : (0 : Int) ≤ (j : Int) := by omega
      have q3 : (j : Int) < (R.length : Int) := by omega
      have hlj : ((R.take j).map Wt.snd).length = j := by simp; omega
      obtain ⟨no, nc, hnv⟩ := HON.out.slice
      have HZ := Lib.hid hz; clear hz hzb
      rw [hlj] at hnv
      have HON2 := Lib.hid (show Own wr 9 1 (.slice no j nc) j (Sc ((R.take j).map Wt.snd)) by have := HON.out; rw [hlj, hnv] at this; exact this)
      have HNN2 := Lib.hid (show ∀ k, (Value.slice no j nc).ownBlock = some k → w1.heap.size ≤ k by rw [← hnv]; exact HNN.out)
      subst hnv
      clear HON HNN hlj
      go_wp2_with (at_builtin; (refine wpList_append_prec _ rfl _ _ 24 rfl 9 i0 _ 1 16 Try.underlying24 hi hz0 hz1 hz2 rfl (by decide) _ j (Sc ((R.take j).map Wt.snd)) rfl (by exact HON2.out.alloc _) _ 1 1 [.string z.snd] rfl (fun h => by cases h) rfl lit_news one_string (by unfold maxLen; omega) (by omega) ?_; intro v' w6 ho6 hk6 hsn6 _))
      have hk7 : Kp (fun _ => False) w1 w6 := (HKP.out.alloc (.cells #[.string z.snd] 9)).trans_new hk6 (fun k h1 h2 => by have := HNN2.out k h2; omega)
      have HOO := Lib.hid (show Own w6 9 1 v' ((R.take (j + 1)).map Wt.snd).length (Sc ((R.take (j + 1)).map Wt.snd)) by
        have e : ((R.take (j + 1)).map Wt.snd).length = j + 1 := by simp; omega
        rw [e, map_take_succ HZ.out, Sc_snoc]; exact ho6)
      have HNN3 := Lib.hid (show ∀ k, v'.ownBlock = some k → w1.heap.size ≤ k from fun k e => by
        rcases hsn6 with h | h
        · rw [h] at e; exact HNN2.out k e
        · have h1 := h k e; have h2 := HKP.out.size; simp at h1; omega)
      have HK7 := Lib.hid hk7
      clear ho6 hk6 hsn6 hk7
      go_wp2_with fail
      go_roundg (R.length - (j + 1))
      case measure => rw [HKk.out]; omega
      case rel => exact ⟨j + 1, rfl, by omega, by go_num, HOO.out, HNN3.out, HK7.out⟩
    · have hjl : j = R.length := by omega
      subst hjl
      have hfl : (R.take R.length).map Wt.snd = R.map Wt.snd := by rw [List.take_length]
      have hnl : (R.map Wt.snd).length = R.length := by simp
      have hon := HON.out
      rw [hfl] at hon
      have HFX := Lib.hid (show Fx (R.map Wt.snd) (rgA s true) = Fx (rsn s true now) (rgA s true) from Fx_congr fun x => by
        simp only [rsn, List.mem_map, List.mem_filter, HMEM.out])
      obtain ⟨NL, hNL⟩ : ∃ NL, NL = R.map Wt.snd := ⟨_, rfl⟩
      rw [← hNL] at hon hnl HFX
      have HNL := Lib.hid hNL
      have hnn : NL.length ≤ 1000000 := by omega
      obtain ⟨no, nc, hnv⟩ := hon.slice
      have HSR := Lib.hid (SRd.own hon hnv)
      subst hnv
      have HS2 := Lib.hid (HSI.out.keep HKP.out (fun _ _ h => h))
      have hst2 := HST.out.calm HKP.out
      have HST2 := Lib.hid hst2
      have c15 : wr.cell? ⟨p, 14, none⟩ = some (.map (some s.br)) := (cell_of HS2.out.head 14).trans rfl
      have hlA := H.out.l1
      clear hfl hnl hon hst2 HON HNN HKk hNL hlt hj
      by_cases hx : Fx NL s.A1 < (s.A1).length
      · obtain ⟨i, hi'⟩ : ∃ i, i = Fx NL s.A1 := ⟨_, rfl⟩
        rw [← hi'] at hx
        obtain ⟨a, ha⟩ : ∃ a, a = (s.A1).getD i ByteArray.empty := ⟨_, rfl⟩
        have haN : a ∈ NL := by rw [ha, hi']; exact (Has_mem _ _).1 (Fx_has (by rw [← hi']; exact hx))
        obtain ⟨z0, hz0', hza⟩ := List.mem_map.1 (by rw [HNL.out] at haN; exact haN)
        have hRp : 0 < R.length := List.length_pos_of_mem hz0'
        rcases HOW.out.shape with ⟨_, h1, _⟩ | ⟨g, cap', he, hcap, hcm, hg⟩
        · omega
        cases he
        have hgn := HVN.out g (by simp [Value.ownBlock])
        have HIX := Lib.hid (show i = Fx (rsn s true now) (rgA s true) by rw [← HFX.out]; exact hi')
        have HA := Lib.hid ha; have HZ0 := Lib.hid (show z0 ∈ R.filter (kp a) from List.mem_filter.2 ⟨hz0', by simp [kp, hza]⟩)
        have HI := Lib.hid hi'
        clear hi' ha haN hz0' hza
        go_wp2_with (at_lookup; refine wpList_look1 _ rfl _ _ 90 rfl 4 23 bool_law Try.underlying90 (rzero _) _ _ _ rfl HS2.out.rgm _ _ rfl (keyOf_bool_mk Try.underlying4 true) (.pointer (some ⟨s.r1, 0, none⟩)) (by simp [Rm]) ?_)
        refine (rnext_any (s.r1) (s.v1) (s.A1) NL no nc i _ HS2.out.rg1 HSR.out (by omega) (by omega) HI.out.symm hx).mono ?_; rintro e w2 ⟨rfl, ⟨v2, hr2, hs2⟩, hk2⟩
        rw [← HA.out]
        obtain ⟨g1, g2⟩ := HS2.out.setRing1 (Nat.le_refl _) hr2 hs2 hk2 (by rw [Turn_len hx]; exact hlA)
        have hcg : col' g = none := hgn.2
        have hgr : g < wr.heap.size := Nat.lt_of_lt_of_le hg HKP.out.size
        have hg2 := g2.none hgr hcg
        have hnr : ∀ k, (k = s.r1 ∨ In (s.v1) k) → (col' k).isSome := fun k e => by
          rcases e with rfl | e
          · have := HS2.out.cols.rg1; rw [show col' _ = _ from this]; rfl
          · have := HS2.out.cols.nm1 k e; rw [show col' k = _ from this]; rfl
        have hrow2 : Own w2 96 1 (.slice (some ⟨g, 0, none⟩) R.length cap) R.length (Rp R) := (HOW.out.keep HKP.out (fun _ _ h => h)).keep hk2 (fun k e e2 => by
          have e3 : k = g := by simpa [Value.ownBlock] using e.symm
          subst e3
          have := hnr k e2
          rw [hcg] at this; cases this)
        have hk3 : Kp (fun _ => False) w2 (w2.alloc (.cells #[.string a] 9)) := (by repeat (first | exact Kp.refl _ _ | apply Kp.drew | apply Kp.drewN | refine Kp.setCell ?_ _ _ (Or.inl rfl) | apply Kp.alloc))
        have HRW := Lib.hid (hrow2.keep hk3 (fun _ _ h => h))
        have HWB := Lib.hid (show Wb (w2.alloc (.cells #[.string a] 9)) R from fun x hx => hk3.keep (g1.wts x ((HMEM.out x).1 hx).1) (fun h => h))
        have HNE := Lib.hid (show ∀ x ∈ R, x.blk ≠ g from fun x hx e => by
          have e4 : col' x.blk = some (cWait (x.id, x.rc)) := HSI.out.cols.wts x ((HMEM.out x).1 hx).1
          rw [e, hcg] at e4; cases e4)
        have hg2s := g2.kp.size
        have HG1 := Lib.hid g1; have HG2 := Lib.hid (HST2.out.trans g2); have HGN := Lib.hid hg2; have HGW := Lib.hid hgn.1
        have hnb : w2.heap.size ≠ g := by omega
        clear g1 g2 hg2 hnr hrow2 hr2 hs2 hk2 hcg hgn
        go_wp2_with fail
        refine (sdelf_any g cap w2.heap.size R a _ HRW.out HWB.out ((cell_of (heap_new (w := w2) _) 0).trans rfl) (by omega) (by simp) HNE.out hnb (by omega)).mono ?_; rintro e w4 ⟨rfl, hc4, hk4⟩
        have HC4 := Lib.hid hc4; have HK4 := Lib.hid hk4
        have hWB4 := Lib.hid (show Wb w4 (R.filter (kp a)) from fun x hx => hk4.keep (HWB.out x (List.mem_filter.1 hx).1) (HNE.out x (List.mem_filter.1 hx).1))
        have hg4 : g < w4.heap.size := by have := hk4.size; simp at this; omega
        clear hc4 hk4
        go_wp2_with fail
        refine (smin_any g cap (R.filter (kp a)) _ HC4.out hWB4.out (List.ne_nil_of_mem HZ0.out) (Nat.le_trans (List.length_filter_le _ _) (by omega)) hg4).mono ?_; rintro e w5 ⟨⟨m, hm, rfl, hmin⟩, hk5⟩
        have hkf : Kp (· = g) w2 w5 := ((hk3.mono (fun _ _ h => h.elim)).trans HK4.out).trans (hk5.mono (fun _ _ h => h.elim))
        have hm1 := (List.mem_filter.1 hm)
        have HZZ := Lib.hid (show Sturn p N s true now w (.returned (.tuple #[.pointer (some ⟨m.blk, 0, none⟩), .bool true])) w5 from by
          refine ⟨fun hno => absurd (by rw [← HIX.out]; exact hx) hno, fun _ => ⟨m, _, ⟨((HMEM.out m).1 hm1.1).1, ((HMEM.out m).1 hm1.1).2, by rw [← HIX.out]; exact (of_decide_eq_true hm1.2).trans HA.out, fun z hz1 hz2 hz3 => hmin z (List.mem_filter.2 ⟨(HMEM.out z).2 ⟨hz1, hz2⟩, decide_eq_true (by rw [hz3, ← HIX.out]; exact HA.out.symm)⟩)⟩, rfl, HG1.out.keep hkf (fun k e e2 => by have e3 : k = g := e2; subst e3; exact none_some HGN.out e), HG2.out.past hkf (fun k e => by have e3 : k = g := e; subst e3; exact HGW.out), by rw [HIX.out]; rfl, HVQ.out.trans (Vq.of rfl rfl HVQ.out.le), rfl, rfl⟩⟩)
        clear hm hmin hk5 hkf hm1
        go_wp2_with fail
        go_ret2
        exact HZZ.out
      · go_wp2_with (at_lookup; refine wpList_look1 _ rfl _ _ 90 rfl 4 23 bool_law Try.underlying90 (rzero _) _ _ _ rfl HS2.out.rgm _ _ rfl (keyOf_bool_mk Try.underlying4 true) (.pointer (some ⟨s.r1, 0, none⟩)) (by simp [Rm]) ?_)
        refine (rnext_no (s.r1) (s.v1) (s.A1) NL no nc _ HS2.out.rg1 HSR.out (by omega) (by omega) hx).mono ?_; rintro e w2 ⟨rfl, hk2⟩
        have HZZ := Lib.hid (show Sturn p N s true now w (.returned (.tuple #[.pointer none, .bool false])) (w2.alloc (.cells #[.string ByteArray.empty] 9)) from
          ⟨fun _ => ⟨rfl, _, (HS2.out.keep hk2 (fun _ _ h => h)).keep ((Kp.refl (fun _ => False) w2).alloc _) (fun _ _ h => h), (HST2.out.calm hk2).calm ((Kp.refl _ w2).alloc _), rfl, HVQ.out, rfl, rfl⟩, fun hyes => absurd (by rw [← HFX.out] at hyes; exact hyes) hx⟩)
        clear hk2
        go_wp2_with fail
        go_ret2
        exact HZZ.out
theorem sturn_any (p N : Nat) (s : Sd) (loc : Bool) (now : Int) (w : World) (h : SIn w p s N) (ht : Tik s now) (hn : 0 ≤ now) (hn2 : now ≤ 1099511627776) (hN : N ≤ 1000000) :
    Calls Try.prog 52 #[.pointer (some ⟨p, 0, none⟩), .bool loc, .int .i64 now] w (Sturn p N s loc now w) := by
  cases loc with
  | false => exact sturn_far p N s now w h ht hn hn2 hN
  | true => exact sturn_near p N s now w h ht hn hn2 hN
end Go.Proofs.Ytbiahndpfbmoeaa
