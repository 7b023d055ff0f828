/- What the reference's ring does, the rest: Next. Condition: it holds no name twice, and no more than fit into memory. -/
import Derived.Test.YtbiahndpfbmoeaaRefRing2
namespace Go.Proofs.Ytbiahndpfbmoeaa
open Go.RowKit

theorem cut_not {i : Nat} {L : List ByteArray} (hi : i < L.length) (h : L.Nodup) : Has (L.getD i ByteArray.empty) (Cut i L) = false := by
  have hn := (turn_perm hi).nodup h
  unfold Turn at hn
  have hd := ((List.perm_append_singleton _ _).nodup hn)
  rw [List.nodup_cons] at hd
  cases hh : Has (L.getD i ByteArray.empty) (Cut i L) with
  | false => rfl
  | true => exact absurd ((Has_mem _ _).1 hh) hd.1
def Fturn (p i : Nat) (L : List ByteArray) (w : World) (e : Ending) (w' : World) : Prop := e = .returned (.tuple #[.string (L.getD i ByteArray.empty), .bool true]) ∧ (∃ v', RfAt w' p v' (Turn i L) ∧ ∀ k, v'.ownBlock = some k → w.heap.size ≤ k) ∧ Kp (· = p) w w'
/-- what Next hands back -/
def Fnext (p : Nat) (R L : List ByteArray) (w : World) (e : Ending) (w' : World) : Prop :=
  if Fx R L < L.length then Fturn p (Fx R L) L w e w' else e = .returned (.tuple #[.string ByteArray.empty, .bool false]) ∧ w = w'
theorem fnext_any (p : Nat) (v : Value) (L R : List ByteArray) (ar : Option Addr) (cr : Nat) (w : World) (hp : RfAt w p v L) (hr : SRd w ar R) (hL : L.length ≤ 100000000) (hR : R.length ≤ 1000000000) (hn : L.Nodup) :
    Calls Try.prog 19 #[.pointer (some ⟨p, 0, none⟩), .slice ar R.length cr] w (Fnext p R L w) := by
  have c0 := cell_of hp.head 0
  simp only [List.getElem?_toArray, List.getElem?_cons_zero] at c0
  obtain ⟨ao, cap, rfl⟩ := hp.row.slice
  have HS := Lib.hid (SRd.own hp.row rfl); have HR := Lib.hid hr; have HP := Lib.hid hp; have HN := Lib.hid hn
  clear hp hr hn
  go_enter Try.func19, Try.ntmps19
  go_wp2_with fail
  go_loopg [6] L.length (fun k i wr => ∃ j : Nat, k = L.length - j ∧ j ≤ L.length ∧ i = .int .i64 j ∧ wr = w ∧ ∀ t, t < j → Has (L.getD t ByteArray.empty) R = false)
  case atStart => exact ⟨0, rfl, Nat.zero_le _, rfl, rfl, fun t ht => absurd ht (Nat.not_lt_zero _)⟩
  case round =>
    obtain ⟨j, hk, hj, rfl, rfl, hno⟩ := hrel
    have HKk := Lib.hid hk; have HNO := Lib.hid hno; clear hk hno
    by_cases hlt : j < L.length
    · obtain ⟨bb, off, rfl, _, hc'⟩ := HS.out j hlt
      obtain ⟨y, hy⟩ : ∃ y, y = L.getD j ByteArray.empty := ⟨_, rfl⟩
      have hc : wr.cell? ⟨bb, off + j, none⟩ = some (.string (L.getD j ByteArray.empty)) := hc'
      clear hc'
      rw [← hy] at hc
      have HY := Lib.hid hy; clear hy
      go_wp2_with fail
      refine (rhas_any ar cr R y _ HR.out (by omega)).mono ?_; rintro e w1 ⟨rfl, rfl⟩
      cases hyx : Has y R with
      | true =>
        have HF := Lib.hid (Fx_eq hlt HNO.out (by rw [← HY.out]; exact hyx))
        have hIx : Ix y L = j := by
          have h1 := Ix_min hlt HY.out.symm
          have h2 := Fx_le_Ix hyx L
          rw [HF.out] at h2
          omega
        have hyL : Has y L = true := by unfold Has; rw [decide_eq_true_eq, hIx]; exact hlt
        have hcn := cut_not hlt HN.out
        rw [← HY.out] at hcn
        have HIX := Lib.hid hIx; have HYL := Lib.hid hyL; have HCN := Lib.hid hcn
        rw [Iz_of hyx]
        clear hIx hyL hcn hyx
        go_wp2_with fail
        refine (fdrop_any p _ L y _ HP.out HYL.out (by omega)).mono ?_; rintro e w2 ⟨rfl, ⟨v2, hp2, hv2⟩, hk2⟩
        rw [HIX.out] at hp2
        have HP2 := Lib.hid hp2; have HV2 := Lib.hid hv2; have HK2 := Lib.hid hk2; clear hp2 hv2 hk2
        go_wp2_with fail
        refine (fadd_any p v2 (Cut j L) y _ HP2.out HCN.out (by rw [Cut_len hlt]; omega)).mono ?_; rintro e w3 ⟨rfl, ⟨v3, hp3, hv3⟩, hk3⟩
        have HP3 := Lib.hid hp3; have HV3 := Lib.hid hv3; have HK3 := Lib.hid hk3; clear hp3 hv3 hk3
        go_wp2_with fail
        go_ret2
        unfold Fnext
        rw [HF.out, if_pos hlt]
        refine ⟨by rw [← HY.out]; rfl, ⟨v3, ?_, fun k hk => Nat.le_trans HK2.out.size (HV3.out k hk)⟩, HK2.out.trans HK3.out⟩
        unfold Turn
        rw [← HY.out]
        exact HP3.out
      | false =>
        have HX := Lib.hid hyx
        rw [Iz_not hyx]
        clear hyx
        go_wp2_with fail
        go_roundg (L.length - (j + 1))
        case measure => rw [HKk.out]; omega
        case rel => exact ⟨j + 1, rfl, by omega, by go_num, rfl, fun t ht => by
          by_cases e : t = j
          · subst e; rw [← HY.out]; exact HX.out
          · exact HNO.out t (by omega)⟩
    · have hge := Fx_ge (Nat.le_refl L.length) (fun t ht => HNO.out t (by omega))
      have HGE := Lib.hid hge; clear hge
      go_wp2_with fail
      go_ret2
      unfold Fnext
      rw [if_neg (by have := HGE.out; omega)]
      exact ⟨rfl, rfl⟩
end Go.Proofs.Ytbiahndpfbmoeaa
