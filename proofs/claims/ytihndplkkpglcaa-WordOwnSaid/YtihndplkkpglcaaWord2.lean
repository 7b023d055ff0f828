/- What a Writer of package word does, the rest: bytes, and what comes out. Condition: it holds no more bytes than fit into memory. -/
import Derived.Test.YtihndplkkpglcaaWord
namespace Go.Proofs.Ytihndplkkpglcaa
open Go.RowKit

/-- bytes that are appended: nil, empty or not -/
def Src (w : World) (bo : Option Addr) (c : Nat) (N : List Int) : Prop := (bo = none → N = [] ∧ c = 0) ∧ ∀ ad, bo = some ad → ∀ j u, (Bc N)[j]? = some u → w.cell? (ad.add j) = some u
theorem cell_lt {w : World} {a : Addr} {u : Value} (h : w.cell? a = some u) : a.block < w.heap.size := by
  unfold World.cell? at h
  split at h
  · rename_i c T fr hh
    exact (Array.getElem?_eq_some_iff.1 hh).1
  · cases h
theorem Src.keep {S : Nat → Prop} {w w' : World} {bo : Option Addr} {c : Nat} {N : List Int} (h : Src w bo c N) (hk : Kp S w w') (hs : ∀ ad, bo = some ad → N ≠ [] → ¬ S ad.block) : Src w' bo c N := by
  refine ⟨h.1, fun ad ha j u hu => ?_⟩
  have hc := h.2 ad ha j u hu
  have hb : (ad.add j).block = ad.block := by unfold Addr.add; split <;> rfl
  have hN : N ≠ [] := by intro e; subst e; simp [Bc] at hu
  have := cell_lt hc
  rw [World.cell?_of_block (w := w) (a := ad.add j) (by rw [hb]; exact hk.block _ (by rw [hb] at this; exact this) (hs ad ha hN))]
  exact hc
theorem Src.of_row {w : World} {b off c : Nat} {N : List Int} (h : ∀ j, j < N.length → w.cell? ⟨b, off + j, none⟩ = some (.int .u8 (N.getD j 0))) : Src w (some ⟨b, off, none⟩) c N := by
  refine ⟨(fun e => by cases e), fun ad ha j u hu => ?_⟩
  cases ha
  have hj : j < N.length := by have := (List.getElem?_eq_some_iff.1 hu).1; rwa [Bc_len] at this
  rw [Addr.add_lit, h j hj]
  rw [Bc, List.getElem?_map, List.getElem?_eq_getElem hj] at hu
  rw [← hu]
  simp [List.getD, hj]
theorem Src.own {w : World} {v : Value} {ao : Option Addr} {c : Nat} {N : List Int} (h : Own w 5 1 v N.length (Bc N)) (hv : v = .slice ao N.length c) : Src w ao c N := by
  rcases h.shape with ⟨rfl, hn, hx⟩ | ⟨g, cap, rfl, _⟩
  · simp only [Value.slice.injEq] at hv
    obtain ⟨rfl, _, rfl⟩ := hv
    exact ⟨fun _ => ⟨List.eq_nil_of_length_eq_zero hn, rfl⟩, (fun ad ha => by cases ha)⟩
  · cases hv
    refine ⟨(fun e => by cases e), fun ad ha j u hu => ?_⟩
    cases ha
    rw [Addr.add_lit, Nat.zero_add]
    exact h.cell hu

theorem wbytes_none (b : Value) (w : World) : Calls Try.prog 33 #[.pointer none, b] w fun e w' => e = .returned (.tuple #[]) ∧ w = w' := by
  go_enter Try.func33, Try.ntmps33
  go_wp2
  (first | go_end0 | refine bodyPost_ret (results_none rfl _ _ _) rfl ?_)
  exact ⟨rfl, rfl⟩

set_option maxHeartbeats 800000 in
theorem wbytes_any (p : Nat) (v : Value) (b : Bool) (L N : List Int) (bo : Option Addr) (c : Nat) (w : World) (hp : WrAt w p v b L) (hL : L.length ≤ 1000000) (hN : N.length ≤ 1000000) (hs : Src w bo c N)
    (hap : ∀ ad, bo = some ad → N ≠ [] → ad.block ≠ p ∧ v.ownBlock ≠ some ad.block) :
    Calls Try.prog 33 #[.pointer (some ⟨p, 0, none⟩), .slice bo N.length c] w fun e w' => e = .returned (.tuple #[]) ∧ (∃ v', WrAt w' p v' b (L ++ enc N.length ++ N) ∧ SameOrNew w v v') ∧ Kp (fun k => k = p ∨ In v k) w w' := by
  have HP := Lib.hid hp; have HS := Lib.hid hs; have HA := Lib.hid hap; clear hp hs hap
  obtain ⟨i0, hi, hz0, hz1, hz2⟩ := info_parts u8_info
  have hm : May N.length = true := by unfold May; rw [decide_eq_true_eq]; omega
  have HM := Lib.hid hm; clear hm
  go_enter Try.func33, Try.ntmps33
  go_wp2_with fail
  refine (wnum_any p v b L N.length _ HM.out HP.out (by omega)).mono ?_; rintro e w1 ⟨rfl, ⟨v1, hp1, hsn1⟩, hk1⟩
  have HP1 := Lib.hid hp1; have HSN1 := Lib.hid hsn1; have HK1 := Lib.hid hk1
  have HS1 := Lib.hid (HS.out.keep hk1 (fun ad ha hne h => h.elim (HA.out ad ha hne).1 (HA.out ad ha hne).2))
  clear hp1 hsn1 hk1
  have c0 := cell_of HP1.out.head 0
  simp only [List.getElem?_toArray, List.getElem?_cons_zero] at c0
  have f0 := frozen_of HP1.out.head 0
  have hlt := lt_of_block HP1.out.head
  have hM : (L ++ enc (N.length : Int)).length ≤ 1000008 := by rw [List.length_append, enc_len]; omega
  obtain ⟨M, hMe⟩ : ∃ M, M = L ++ enc (N.length : Int) := ⟨_, rfl⟩
  rw [← hMe] at HP1 hM
  have HMe := Lib.hid hMe; clear hMe
  obtain ⟨ao, cap, rfl⟩ := HP1.out.row.slice
  go_wp2_with (at_builtin; refine wpList_append_prec _ rfl _ _ 22 rfl 5 i0 _ 1 1 Try.underlying22 hi hz0 hz1 hz2 rfl (by decide) _ M.length (Bc M) rfl HP1.out.row bo N.length c (Bc N) rfl (fun h => ⟨by rw [(HS1.out.1 h).1]; rfl, (HS1.out.1 h).2⟩) (Bc_len1 N) HS1.out.2 (Bc_one N) (by unfold maxLen; omega) (by omega) ?_; intro v2 w2 hown2 hk2 hsn2 _; have k0 := (hk2.cell 0 hlt (fun h => HP1.out.apart h)).trans c0; have e0 := (hk2.frozen 0 hlt (fun h => HP1.out.apart h)).trans f0; have HO2 := Lib.hid hown2; obtain ⟨ao2, cap2, rfl⟩ := HO2.out.slice; have hsn3 : SameOrNew w1 (.slice ao M.length cap) (.slice ao2 (M.length + N.length) cap2) := hsn2; have hk3 : Kp (In (.slice ao M.length cap)) w1 w2 := hk2; have HSN2 := Lib.hid hsn3; have HK2 := Lib.hid hk3; clear hown2 hk2 hsn2 hk3 hsn3)
  (first | go_end0 | refine bodyPost_ret (results_none rfl _ _ _) rfl ?_)
  have hne := HSN2.out.ne hlt HP1.out.apart
  refine ⟨rfl, ⟨_, ⟨heap_set (HK2.out.keep HP1.out.head (fun h => HP1.out.apart h)) _, ?_, hne⟩, HSN1.out.trans HSN2.out HK1.out.size⟩, (HK1.out.trans_new HK2.out (fun k h1 h2 => Or.inr (HSN1.out.inn h1 h2))).setCell _ _ (Or.inl (Or.inl rfl))⟩
  rw [← HMe.out, List.length_append, ← Bc_app]
  exact Own.keep HO2.out ((Kp.refl (· = p) w2).setCell ⟨p, 0, none⟩ _ (Or.inl rfl)) (fun k hk h => hne (by rw [hk, h]))

theorem bclone_nil (w : World) : Calls Try.prog 44 #[.slice none 0 0] w fun e w' => e = .returned (.slice none 0 0) ∧ w = w' := by
  have hq := fun (w : World) (a : Option Addr) (n c : Nat) => Lib.run_eql_slice_nil (P := Try.prog) w 22 5 a n c 0 0 Try.underlying22
  go_enter Try.func44, Try.ntmps44
  go_wp2
  go_ret
  exact ⟨rfl, rfl⟩
theorem bclone_any (a : Addr) (m c : Nat) (xs : List Value) (w : World) (hx : xs.length = m * 1) (hc : ∀ j u, xs[j]? = some u → w.cell? (a.add j) = some u) (h1 : ∀ u ∈ xs, u.oneCell' = true) (hm : m ≤ 4000000000) :
    Calls Try.prog 44 #[.slice (some a) m c] w (Cloned 5 1 m xs w) := by
  obtain ⟨i0, hi, hz0, hz1, hz2⟩ := info_parts u8_info
  have hq := fun (w : World) (a : Option Addr) (n c : Nat) => Lib.run_eql_slice_nil (P := Try.prog) w 22 5 a n c 0 0 Try.underlying22
  have HC := Lib.hid (clone_news (.cells #[] 5) hc); clear hc
  have HX := Lib.hid hx; have H1 := Lib.hid h1; clear hx h1
  go_enter Try.func44, Try.ntmps44
  go_wp2_with (at_builtin; refine wpList_append_own _ rfl _ _ 22 rfl w.heap.size 5 i0 _ 1 1 Try.underlying22 hi hz0 hz1 hz2 rfl (by decide) _ 0 [] rfl (World.ownsRow_lit w #[] 0 (Nat.le_refl _) (by unfold maxLen; omega) rfl) a m c xs rfl HX.out HC.out H1.out (by unfold maxLen; omega) (by omega) (by simp) ?_; intro v' w1 hown1 hgrow _; have HO := Lib.hid hown1; have HG := Lib.hid hgrow; clear hown1 hgrow)
  go_ret
  refine ⟨v', rfl, by simpa using HO.out, ((Kp.refl _ w).alloc (.cells #[] 5)).trans_new (Kp.of_grown HG.out) (fun k hk h => ?_)⟩
  have h' : some k = some w.heap.size := h
  cases h'
  exact absurd hk (Nat.lt_irrefl _)

theorem wout_none (w : World) : Calls Try.prog 35 #[.pointer none] w fun e w' => e = .returned (.tuple #[.slice none 0 0, .bool false]) ∧ w = w' := by
  go_enter Try.func35, Try.ntmps35
  go_wp2
  go_ret2
  exact ⟨rfl, rfl⟩
theorem wout_bad (p : Nat) (v : Value) (L : List Int) (w : World) (hp : WrAt w p v true L) : Calls Try.prog 35 #[.pointer (some ⟨p, 0, none⟩)] w fun e w' => e = .returned (.tuple #[.slice none 0 0, .bool false]) ∧ w = w' := by
  have c1 := cell_of hp.head 1
  simp only [List.getElem?_toArray, List.getElem?_cons_zero, List.getElem?_cons_succ] at c1
  clear hp
  go_enter Try.func35, Try.ntmps35
  go_wp2
  go_ret2
  exact ⟨rfl, rfl⟩
/-- a slice of its own, with these cells, and true -/
def Outed (m : Nat) (xs : List Value) (w : World) (en : Ending) (w' : World) : Prop := ∃ v, en = .returned (.tuple #[v, .bool true]) ∧ w'.ownsRow w.heap.size 5 1 v m xs ∧ Kp (fun _ => False) w w'
theorem wout_any (p : Nat) (v : Value) (L : List Int) (w : World) (hp : WrAt w p v false L) (hL : L.length ≤ 1000000000) :
    Calls Try.prog 35 #[.pointer (some ⟨p, 0, none⟩)] w (Outed L.length (Bc L) w) := by
  have c0 := cell_of hp.head 0
  have c1 := cell_of hp.head 1
  simp only [List.getElem?_toArray, List.getElem?_cons_zero, List.getElem?_cons_succ] at c0 c1
  have HP := Lib.hid hp; clear hp
  rcases HP.out.row.shape with ⟨rfl, hn, hx⟩ | ⟨g, cap, rfl, _, _, hg⟩
  · have HN := Lib.hid hn; have HX := Lib.hid hx; clear hn hx
    go_enter Try.func35, Try.ntmps35
    go_wp2_with (go_at_call 44; refine (bclone_nil _).mono ?_; rintro e w' ⟨rfl, rfl⟩)
    go_ret2
    exact ⟨_, rfl, by rw [HN.out, HX.out]; exact World.ownsRow_nil _ _ _ _, Kp.refl _ _⟩
  · have HC := Lib.hid (Src.own HP.out.row rfl)
    go_enter Try.func35, Try.ntmps35
    go_wp2_with fail
    refine (bclone_any _ _ _ (Bc L) _ (Bc_len1 L) (HC.out.2 _ rfl) (Bc_one L) (by omega)).mono ?_; rintro e w' ⟨v', rfl, ho, hk⟩
    have HO := Lib.hid ho; clear ho
    go_wp2_with fail
    go_ret2
    exact ⟨v', rfl, HO.out, hk⟩
end Go.Proofs.Ytihndplkkpglcaa
