/- What a Writer of package word does. Condition: it holds no more bytes than fit into memory. -/
import Derived.Test.YtihndplkkpglcaaChecked
import Derived.Test.YtihndplkkpglcaaAppend
import Derived.Test.YtihndplkkpglcaaMm
import Derived.WalkSpells
import Derived.Lib.SliceRun
import Derived.Deep.LoopGhost
import Derived.Deep.RegionHeld3
import Derived.Deep.RegionLaw
import Derived.Deep.AppendLies
namespace Go.Proofs.Ytihndplkkpglcaa
open Go.RowKit

theorem u8_info : (Try.prog.info? 5).map (fun i => (i.zero, i.size, i.bytes)) = some (some (.int .u8 0), 1, 1) := by kernel_rfl

/-- the cells of bytes -/
def Bc (L : List Int) : List Value := L.map (Value.int .u8)
theorem Bc_len (L : List Int) : (Bc L).length = L.length := by simp [Bc]
theorem Bc_len1 (L : List Int) : (Bc L).length = L.length * 1 := by simp [Bc]
theorem Bc_one (L : List Int) : ∀ u ∈ Bc L, u.oneCell' = true := by
  intro u hu
  obtain ⟨z, _, rfl⟩ := List.mem_map.1 hu
  rfl
theorem Bc_app (L M : List Int) : Bc L ++ Bc M = Bc (L ++ M) := by simp [Bc]
/-- eight bytes of a number -/
def enc (n : Int) : List Int := [n / 72057594037927936 % 256, n / 281474976710656 % 256, n / 1099511627776 % 256, n / 4294967296 % 256, n / 16777216 % 256, n / 65536 % 256, n / 256 % 256, n % 256]
theorem enc_len (n : Int) : (enc n).length = 8 := rfl
theorem wrap_u8_pos {x : Int} : IntKind.u8.wrap x = x % 256 := by simp [IntKind.wrap, IntKind.signed, IntKind.bits]
theorem enc_get {n : Int} (_h : 0 ≤ n) {t : Nat} (ht : t < 8) : (enc n)[7 - t]? = some (IntKind.u8.wrap (n / 2 ^ (8 * (t : Int)).toNat)) := by
  have e : (8 * (t : Int)).toNat = 8 * t := by omega
  rw [wrap_u8_pos, e]
  match t, ht with
  | 0, _ => simp [enc]
  | 1, _ => rfl
  | 2, _ => rfl
  | 3, _ => rfl
  | 4, _ => rfl
  | 5, _ => rfl
  | 6, _ => rfl
  | 7, _ => rfl
/-- may a number be written? -/
def May (n : Int) : Bool := decide (0 ≤ n ∧ n ≤ 4611686018427387904)

/-- block p is a writer that holds these bytes; v is its slice -/
structure WrAt (w : World) (p : Nat) (v : Value) (bad : Bool) (L : List Int) : Prop where
  head : w.heap[p]? = some (.cells #[v, .bool bad] 49 (0, 0))
  row : Own w 5 1 v L.length (Bc L)
  apart : v.ownBlock ≠ some p
theorem WrAt.keep {S : Nat → Prop} {w w' : World} {p : Nat} {v : Value} {b : Bool} {L : List Int} (h : WrAt w p v b L) (hk : Kp S w w') (hp : ¬ S p) (hs : ∀ k, v.ownBlock = some k → ¬ S k) : WrAt w' p v b L :=
  ⟨hk.keep h.head hp, h.row.keep hk hs, h.apart⟩

theorem wnum_none (n : Int) (w : World) : Calls Try.prog 30 #[.pointer none, .int .i64 n] w fun e w' => e = .returned (.tuple #[]) ∧ w = w' := by
  go_enter Try.func30, Try.ntmps30
  go_wp2
  (first | go_end0 | refine bodyPost_ret (results_none rfl _ _ _) rfl ?_)
  exact ⟨rfl, rfl⟩

theorem wnum_bad (p : Nat) (v : Value) (b : Bool) (L : List Int) (n : Int) (w : World) (hm : May n = false) (hp : WrAt w p v b L) :
    Calls Try.prog 30 #[.pointer (some ⟨p, 0, none⟩), .int .i64 n] w fun e w' => e = .returned (.tuple #[]) ∧ WrAt w' p v true L ∧ Kp (· = p) w w' := by
  have hn : n < 0 ∨ 4611686018427387904 < n := by
    unfold May at hm
    rw [decide_eq_false_iff_not] at hm
    omega
  clear hm
  have c1 := cell_of hp.head 1
  simp only [List.getElem?_toArray, List.getElem?_cons_zero, List.getElem?_cons_succ] at c1
  have f1 := frozen_of hp.head 1
  have HP := Lib.hid hp; clear hp
  have fin : WrAt (w.setCell ⟨p, 1, none⟩ (.bool true)) p v true L := ⟨heap_set HP.out.head _, HP.out.row.keep ((Kp.refl (· = p) w).setCell ⟨p, 1, none⟩ (.bool true) (Or.inl rfl)) (fun k hk h => HP.out.apart (by rw [hk, h])), HP.out.apart⟩
  have HF := Lib.hid fin; clear fin
  by_cases h0 : n < 0
  · clear hn
    go_enter Try.func30, Try.ntmps30
    go_wp2
    (first | go_end0 | refine bodyPost_ret (results_none rfl _ _ _) rfl ?_)
    exact ⟨rfl, HF.out, (by repeat (first | exact Kp.refl _ _ | apply Kp.drew | apply Kp.drewN | refine Kp.setCell ?_ _ _ (Or.inl rfl) | apply Kp.alloc))⟩
  · have hn : 4611686018427387904 < n := by omega
    go_enter Try.func30, Try.ntmps30
    go_wp2
    (first | go_end0 | refine bodyPost_ret (results_none rfl _ _ _) rfl ?_)
    exact ⟨rfl, HF.out, (by repeat (first | exact Kp.refl _ _ | apply Kp.drew | apply Kp.drewN | refine Kp.setCell ?_ _ _ (Or.inl rfl) | apply Kp.alloc))⟩

set_option maxHeartbeats 1600000 in
theorem wnum_any (p : Nat) (v : Value) (b : Bool) (L : List Int) (n : Int) (w : World) (hm : May n = true) (hp : WrAt w p v b L) (hL : L.length ≤ 1000000000) :
    Calls Try.prog 30 #[.pointer (some ⟨p, 0, none⟩), .int .i64 n] w fun e w' => e = .returned (.tuple #[]) ∧ (∃ v', WrAt w' p v' b (L ++ enc n) ∧ SameOrNew w v v') ∧ Kp (fun k => k = p ∨ In v k) w w' := by
  have hn : 0 ≤ n ∧ n ≤ 4611686018427387904 := by
    unfold May at hm
    simpa using hm
  obtain ⟨n0, n1⟩ := hn
  clear hm
  have HP := Lib.hid hp; clear hp
  obtain ⟨i0, hi, hz0, hz1, hz2⟩ := info_parts u8_info
  go_enter Try.func30, Try.ntmps30
  go_wp2_with fail
  go_loopg [4] 8 (fun k i wr => ∃ (q : Nat) (v' : Value), k = q ∧ q ≤ 8 ∧ i = .int .i64 ((q : Int) - 1) ∧ WrAt wr p v' b (L ++ (enc n).take (8 - q)) ∧ SameOrNew w v v' ∧ Kp (fun k => k = p ∨ In v k) w wr)
  case atStart => exact ⟨8, v, rfl, Nat.le_refl _, by go_num, by simpa using HP.out, Or.inl rfl, Kp.refl _ _⟩
  case round =>
    obtain ⟨q, v', hk, hq, rfl, hp, hsn, hkp⟩ := hrel
    have HKk := Lib.hid hk; have HP2 := Lib.hid hp; have HSN := Lib.hid hsn; have HKP := Lib.hid hkp; clear hk hp hsn hkp
    by_cases h0 : q = 0
    · subst h0
      go_wp2_with fail
      (first | go_end0 | refine bodyPost_ret (results_none rfl _ _ _) rfl ?_)
      exact ⟨rfl, ⟨v', HP2.out, HSN.out⟩, HKP.out⟩
    · obtain ⟨t, rfl⟩ : ∃ t, q = t + 1 := ⟨q - 1, by omega⟩
      have c0 := cell_of HP2.out.head 0
      simp only [List.getElem?_toArray, List.getElem?_cons_zero] at c0
      have f0 := frozen_of HP2.out.head 0
      have hlt := lt_of_block HP2.out.head
      have e1 : ((t + 1 : Nat) : Int) - 1 = (t : Int) := by omega
      rw [e1]
      clear e1
      have hM : (L ++ (enc n).take (8 - (t + 1))).length ≤ 1000000008 := by rw [List.length_append, List.length_take]; omega
      obtain ⟨M, hMe⟩ : ∃ M, M = L ++ (enc n).take (8 - (t + 1)) := ⟨_, rfl⟩
      rw [← hMe] at HP2 hM
      have HM := Lib.hid hMe; clear hMe
      obtain ⟨ao, cap, rfl⟩ := HP2.out.row.slice
      have w8 : IntKind.i64.wrap (8 * (t : Int)) = 8 * t := IntWalk.i64_in _ (by omega)
      have w9 : 0 ≤ 8 * (t : Int) := by omega
      go_wp2_with fail
      go_region_law (first | (refine step_append_lies _ rfl _ _ 22 rfl 0 5 i0 _ 1 1 Try.underlying22 hi hz0 hz1 hz2 rfl (by decide) _ M.length (Bc M) rfl (by exact HP2.out.row.alloc _) ⟨wr.heap.size, 0, none⟩ 1 1 [_] rfl rfl one_news one_int (by omega) (by unfold maxLen; omega) (by omega) (by omega) _ rfl ?_; intro g cap1 w1 hown1 hgrow hat hltg; have hk1 := Kp.of_grown' hgrow; have k0 := (hk1.cell 0 (show p < (wr.alloc _).heap.size by simp; omega) (fun h => HP2.out.apart h)).trans ((World.cell?_alloc_past _ _ _ hlt).trans c0); have e0 := (hk1.frozen 0 (show p < (wr.alloc _).heap.size by simp; omega) (fun h => HP2.out.apart h)).trans ((World.frozen?_alloc_past _ _ _ hlt).trans f0); have HO1 := Lib.hid hown1; clear hown1))
      all_goals
        have hE := Lib.hid (show M ++ [IntKind.u8.wrap (n / 2 ^ (8 * (t : Int)).toNat)] = L ++ (enc n).take (8 - t) by
          rw [HM.out, List.append_assoc, show 8 - t = (8 - (t + 1)) + 1 by omega, List.take_add_one, show 8 - (t + 1) = 7 - t by omega, enc_get n0 (by omega)]; rfl)
        have hs1 : SameOrNew wr (.slice ao M.length cap) (.slice (some ⟨g, 0, none⟩) (M.length + 1) cap1) := SameOrNew.of_lies hat (by simp)
        have hne := hs1.ne hlt HP2.out.apart
        have hk2 : Kp (In (.slice ao M.length cap)) _ w1 := hk1
        have hkw : Hid (Kp (In (.slice ao M.length cap)) wr w1) := by
          refine Lib.hid (Kp.trans ?_ hk2)
          exact (by repeat (first | exact Kp.refl _ _ | apply Kp.drew | apply Kp.drewN | refine Kp.setCell ?_ _ _ (Or.inl rfl) | apply Kp.alloc))
        have hh1 := Lib.hid (show w1.heap[p]? = some (.cells #[.slice ao M.length cap, .bool b] 49 (0, 0)) from hk1.keep (by exact heap_old _ HP2.out.head) (fun h => HP2.out.apart h))
        clear hk1 hk2 hgrow hat
        go_wp2_with fail
        go_roundg t
        case measure => rw [HKk.out]; omega
        case rel =>
          refine ⟨t, _, rfl, by omega, rfl, ⟨heap_set hh1.out _, ?_, hne⟩, HSN.out.trans hs1 HKP.out.size, (HKP.out.trans_new hkw.out (fun k h1 h2 => Or.inr (HSN.out.inn h1 h2))).setCell _ _ (Or.inl (Or.inl rfl))⟩
          rw [← hE.out, List.length_append, ← Bc_app]
          exact Own.keep HO1.out ((Kp.refl (· = p) w1).setCell ⟨p, 0, none⟩ _ (Or.inl rfl)) (fun k hk h => hne (by rw [hk, h]))
end Go.Proofs.Ytihndplkkpglcaa
