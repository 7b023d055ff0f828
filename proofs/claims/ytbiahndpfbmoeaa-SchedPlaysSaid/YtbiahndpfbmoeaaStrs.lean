/- Slices of strings: what the library's functions on them do. No condition. -/
import Derived.Test.YtbiahndpfbmoeaaChecked
import Derived.Test.YtbiahndpfbmoeaaAppend
import Derived.Test.YtbiahndpfbmoeaaOpen
import Derived.WalkSpells
import Derived.Lib.SliceRun
import Derived.Deep.LoopGhost
import Derived.Deep.RegionLaw
import Derived.Deep.QuietTactic
import Derived.BigQuiet
namespace Go.Proofs.Ytbiahndpfbmoeaa
open Go.RowKit

theorem str_info : (Try.prog.info? 9).map (fun i => (i.zero, i.size, i.bytes)) = some (some (.string ByteArray.empty), 1, 16) := by kernel_rfl
/-- the cells of strings -/
def Sc (L : List ByteArray) : List Value := L.map Value.string
theorem Sc_len (L : List ByteArray) : (Sc L).length = L.length := by simp [Sc]
theorem Sc_len1 (L : List ByteArray) : (Sc L).length = L.length * 1 := by simp [Sc]
theorem Sc_one (L : List ByteArray) : ∀ u ∈ Sc L, u.oneCell' = true := by
  intro u hu
  obtain ⟨z, _, rfl⟩ := List.mem_map.1 hu
  rfl
theorem Sc_app (L M : List ByteArray) : Sc L ++ Sc M = Sc (L ++ M) := by simp [Sc]
/-- a slice that holds these strings, to be read -/
def SRd (w : World) (ao : Option Addr) (L : List ByteArray) : Prop := Row1 w ao L.length (fun i => .string (L.getD i ByteArray.empty))
theorem SRd.keep {S : Nat → Prop} {w w' : World} {ao : Option Addr} {L : List ByteArray} (h : SRd w ao L) (hk : Kp S w w') (hs : L ≠ [] → ∀ b off, ao = some ⟨b, off, none⟩ → ¬ S b) : SRd w' ao L := by
  intro i hi
  obtain ⟨b, off, e, hb, hc⟩ := h i hi
  exact ⟨b, off, e, Nat.lt_of_lt_of_le hb hk.size, (hk.cell _ hb (hs (by intro e; subst e; cases hi) b off e)).trans hc⟩
theorem SRd.own {w : World} {v : Value} {ao : Option Addr} {c : Nat} {L : List ByteArray} (h : Own w 9 1 v L.length (Sc L)) (hv : v = .slice ao L.length c) : SRd w ao L := by
  intro i hi
  rcases h.shape with ⟨_, h0, _⟩ | ⟨g, cap, rfl, _, _, hg⟩
  · omega
  · cases hv
    exact ⟨g, 0, rfl, hg, by rw [Nat.zero_add]; exact h.cell (by simp [Sc, List.getElem?_eq_getElem hi, List.getD])⟩

/-- where x stands first -/
def Ix (x : ByteArray) : List ByteArray → Nat
  | [] => 0
  | a :: L => if a = x then 0 else Ix x L + 1
theorem Ix_le (x : ByteArray) (L : List ByteArray) : Ix x L ≤ L.length := by
  induction L with
  | nil => exact Nat.le_refl _
  | cons a L ih => unfold Ix; split <;> simp <;> omega
/-- up to j none is x -/
theorem Ix_ge {x : ByteArray} {L : List ByteArray} {j : Nat} (hj : j ≤ L.length) (h : ∀ t, t < j → L.getD t ByteArray.empty ≠ x) : j ≤ Ix x L := by
  induction L generalizing j with
  | nil => exact hj
  | cons a L ih =>
    cases j with
    | zero => exact Nat.zero_le _
    | succ j =>
      have h0 : a ≠ x := h 0 (Nat.succ_pos _)
      unfold Ix
      rw [if_neg h0]
      exact Nat.succ_le_succ (ih (by simpa using hj) (fun t ht => h (t + 1) (Nat.succ_lt_succ ht)))
theorem Ix_eq {x : ByteArray} {L : List ByteArray} {j : Nat} (hj : j < L.length) (h : ∀ t, t < j → L.getD t ByteArray.empty ≠ x) (hx : L.getD j ByteArray.empty = x) : Ix x L = j := by
  induction L generalizing j with
  | nil => cases hj
  | cons a L ih =>
    cases j with
    | zero => have e : a = x := hx; unfold Ix; rw [if_pos e]
    | succ j =>
      have h0 : a ≠ x := h 0 (Nat.succ_pos _)
      unfold Ix
      rw [if_neg h0, ih (by simpa using hj) (fun t ht => h (t + 1) (Nat.succ_lt_succ ht)) hx]
theorem Ix_mem (x : ByteArray) (L : List ByteArray) : Ix x L < L.length ↔ x ∈ L := by
  induction L with
  | nil => simp
  | cons a L ih =>
    unfold Ix
    split
    · rename_i h; simp [h]
    · rename_i h
      simp only [List.length_cons, List.mem_cons]
      rw [← ih]
      constructor
      · intro hh; exact Or.inr (by omega)
      · rintro (hh | hh)
        · exact absurd hh.symm h
        · omega
/-- the index that is answered -/
def Iz (x : ByteArray) (L : List ByteArray) : Int := if Ix x L < L.length then (Ix x L : Int) else -1

theorem sindex_any (ao : Option Addr) (cap : Nat) (L : List ByteArray) (x : ByteArray) (w : World) (hs : SRd w ao L) (hL : L.length ≤ 9223372036854775807) :
    Calls Try.prog 42 #[.slice ao L.length cap, .string x] w fun e w' => e = .returned (.int .i64 (Iz x L)) ∧ w = w' := by
  have HS := Lib.hid hs; clear hs
  go_enter Try.func42, Try.ntmps42
  go_wp2
  go_loopg [8] L.length (fun k i wr => ∃ j : Nat, k = L.length - j ∧ j ≤ L.length ∧ i = .int .i64 j ∧ wr = w ∧ ∀ t, t < j → L.getD t ByteArray.empty ≠ x)
  case atStart => exact ⟨0, rfl, Nat.zero_le _, rfl, rfl, fun t ht => absurd ht (Nat.not_lt_zero _)⟩
  case round =>
    obtain ⟨j, hk, hj, rfl, rfl, hn⟩ := hrel
    have HKk := Lib.hid hk; have HN := Lib.hid hn; clear hk hn
    by_cases hlt : j < L.length
    · obtain ⟨b, off, rfl, hb, hc'⟩ := HS.out j hlt
      obtain ⟨y, hy⟩ : ∃ y, y = L.getD j ByteArray.empty := ⟨_, rfl⟩
      have hc : wr.cell? ⟨b, off + j, none⟩ = some (.string (L.getD j ByteArray.empty)) := hc'
      clear hc'
      rw [← hy] at hc
      have HY := Lib.hid hy; clear hy
      by_cases hyx : y = x
      · subst hyx
        have HI := Lib.hid (show Iz y L = (j : Int) by rw [Iz, Ix_eq hlt HN.out HY.out.symm, if_pos hlt])
        go_wp2
        go_ret
        exact ⟨by rw [HI.out]; rfl, rfl⟩
      · have h1 := toList_ne hyx
        have h2 := toList_ne (fun h => hyx h.symm)
        have h3 : (y.toList == x.toList) = false := by rw [beq_eq_false_iff_ne]; exact h1
        have h4 : (x.toList == y.toList) = false := by rw [beq_eq_false_iff_ne]; exact h2
        go_wp2
        go_roundg (L.length - (j + 1))
        case measure => rw [HKk.out]; omega
        case rel => exact ⟨j + 1, rfl, by omega, by go_num, rfl, fun t ht => by
          by_cases e : t = j
          · subst e; rw [← HY.out]; exact hyx
          · exact HN.out t (by omega)⟩
    · have HI := Lib.hid (show Iz x L = -1 by
        have := Ix_ge (Nat.le_refl L.length) (fun t ht => HN.out t (by omega))
        rw [Iz, if_neg (by omega)])
      go_wp2
      go_ret
      exact ⟨by rw [HI.out]; rfl, rfl⟩

/-- does x stand there? -/
def Has (x : ByteArray) (L : List ByteArray) : Bool := decide (Ix x L < L.length)
theorem Has_mem (x : ByteArray) (L : List ByteArray) : Has x L = true ↔ x ∈ L := by unfold Has; rw [decide_eq_true_eq]; exact Ix_mem x L
theorem Iz_ge (x : ByteArray) (L : List ByteArray) : decide ((0 : Int) ≤ Iz x L) = Has x L := by
  unfold Iz Has
  split
  · rename_i h; rw [decide_eq_true h, decide_eq_true (by omega)]
  · rename_i h; rw [decide_eq_false h, decide_eq_false (by omega)]
theorem scontains_any (ao : Option Addr) (cap : Nat) (L : List ByteArray) (x : ByteArray) (w : World) (hs : SRd w ao L) (hL : L.length ≤ 9223372036854775807) :
    Calls Try.prog 40 #[.slice ao L.length cap, .string x] w fun e w' => e = .returned (.bool (Has x L)) ∧ w = w' := by
  have HS := Lib.hid hs; clear hs
  have HD := Lib.hid (Iz_ge x L)
  go_enter Try.func40, Try.ntmps40
  go_wp2_with fail
  refine (sindex_any ao cap L x _ HS.out hL).mono ?_; rintro e w1 ⟨rfl, rfl⟩
  go_wp2_with fail
  go_ret
  exact ⟨by rw [← HD.out]; rfl, rfl⟩
theorem rhas_any (ao : Option Addr) (cap : Nat) (L : List ByteArray) (x : ByteArray) (w : World) (hs : SRd w ao L) (hL : L.length ≤ 9223372036854775807) :
    Calls Try.prog 41 #[.slice ao L.length cap, .string x] w fun e w' => e = .returned (.int .i64 (Iz x L)) ∧ w = w' := by
  have HS := Lib.hid hs; clear hs
  go_enter Try.func41, Try.ntmps41
  go_wp2
  go_loopg [5] L.length (fun k i wr => ∃ j : Nat, k = L.length - j ∧ j ≤ L.length ∧ i = .int .i64 j ∧ wr = w ∧ ∀ t, t < j → L.getD t ByteArray.empty ≠ x)
  case atStart => exact ⟨0, rfl, Nat.zero_le _, rfl, rfl, fun t ht => absurd ht (Nat.not_lt_zero _)⟩
  case round =>
    obtain ⟨j, hk, hj, rfl, rfl, hn⟩ := hrel
    have HKk := Lib.hid hk; have HN := Lib.hid hn; clear hk hn
    by_cases hlt : j < L.length
    · obtain ⟨b, off, rfl, hb, hc'⟩ := HS.out j hlt
      obtain ⟨y, hy⟩ : ∃ y, y = L.getD j ByteArray.empty := ⟨_, rfl⟩
      have hc : wr.cell? ⟨b, off + j, none⟩ = some (.string (L.getD j ByteArray.empty)) := hc'
      clear hc'
      rw [← hy] at hc
      have HY := Lib.hid hy; clear hy
      by_cases hyx : y = x
      · subst hyx
        have HI := Lib.hid (show Iz y L = (j : Int) by rw [Iz, Ix_eq hlt HN.out HY.out.symm, if_pos hlt])
        go_wp2
        go_ret
        exact ⟨by rw [HI.out]; rfl, rfl⟩
      · have h1 := toList_ne hyx
        have h2 := toList_ne (fun h => hyx h.symm)
        have h3 : (y.toList == x.toList) = false := by rw [beq_eq_false_iff_ne]; exact h1
        have h4 : (x.toList == y.toList) = false := by rw [beq_eq_false_iff_ne]; exact h2
        go_wp2
        go_roundg (L.length - (j + 1))
        case measure => rw [HKk.out]; omega
        case rel => exact ⟨j + 1, rfl, by omega, by go_num, rfl, fun t ht => by
          by_cases e : t = j
          · subst e; rw [← HY.out]; exact hyx
          · exact HN.out t (by omega)⟩
    · have HI := Lib.hid (show Iz x L = -1 by
        have := Ix_ge (Nat.le_refl L.length) (fun t ht => HN.out t (by omega))
        rw [Iz, if_neg (by omega)])
      go_wp2
      go_ret
      exact ⟨by rw [HI.out]; rfl, rfl⟩

theorem sclone_nil (w : World) : Calls Try.prog 46 #[.slice none 0 0] w fun e w' => e = .returned (.slice none 0 0) ∧ w = w' := by
  have hq := fun (w : World) (a : Option Addr) (n c : Nat) => Lib.run_eql_slice_nil (P := Try.prog) w 24 9 a n c 0 0 Try.underlying24
  go_enter Try.func46, Try.ntmps46
  go_wp2
  go_ret
  exact ⟨rfl, rfl⟩
theorem sclone_any (a : Addr) (m c : Nat) (xs : List Value) (w : World) (hx : xs.length = m * 1) (hc : ∀ j u, xs[j]? = some u → w.cell? (a.add j) = some u) (h1 : ∀ u ∈ xs, u.oneCell' = true) (hm : m ≤ 4000000000) :
    Calls Try.prog 46 #[.slice (some a) m c] w (Cloned 9 1 m xs w) := by
  obtain ⟨i0, hi, hz0, hz1, hz2⟩ := info_parts str_info
  have hq := fun (w : World) (a : Option Addr) (n c : Nat) => Lib.run_eql_slice_nil (P := Try.prog) w 24 9 a n c 0 0 Try.underlying24
  have HC := Lib.hid (clone_news (.cells #[] 9) hc); clear hc
  have HX := Lib.hid hx; have H1 := Lib.hid h1; clear hx h1
  go_enter Try.func46, Try.ntmps46
  go_wp2_with (at_builtin; refine wpList_append_own _ rfl _ _ 24 rfl w.heap.size 9 i0 _ 1 16 Try.underlying24 hi hz0 hz1 hz2 rfl (by decide) _ 0 [] rfl (World.ownsRow_lit w #[] 0 (Nat.le_refl _) (by unfold maxLen; omega) rfl) a m c xs rfl HX.out HC.out H1.out (by unfold maxLen; omega) (by omega) (by simp) ?_; intro v' w1 hown1 hgrow _; have HO := Lib.hid hown1; have HG := Lib.hid hgrow; clear hown1 hgrow)
  go_ret
  refine ⟨v', rfl, by simpa using HO.out, ((Kp.refl _ w).alloc (.cells #[] 9)).trans_new (Kp.of_grown HG.out) (fun k hk h => ?_)⟩
  have h' : some k = some w.heap.size := h
  cases h'
  exact absurd hk (Nat.lt_irrefl _)
end Go.Proofs.Ytbiahndpfbmoeaa
