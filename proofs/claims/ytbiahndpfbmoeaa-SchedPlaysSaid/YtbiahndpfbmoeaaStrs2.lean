/- slices.Delete of one string (lines of the library's own worked proof of slices.Delete, turned to this program). Condition: it is there. -/
import Derived.Test.YtbiahndpfbmoeaaStrs
import Derived.WalkKit
import Derived.Lib.Walk
import Derived.Sort.WalkB12
import Derived.Lib.SlicesDelete
import Derived.Lib.OwnBridge
import Derived.Shelf.RegionOpenPlain
import Derived.Shelf.SlicesE.Kit
namespace Go.Proofs.Ytbiahndpfbmoeaa
open Go.RowKit Go.Lib Go.Sort Go.Shelf

theorem str_zero (w : World) : (zeroValue 9).run Try.prog w = .ok (.string ByteArray.empty) w := by kernel_rfl
theorem one_str : OneCell Value.string := fun _ => rfl

set_option maxHeartbeats 4000000 in
set_option maxRecDepth 1000000 in
theorem sdel_arr (blk off cap i : Nat) (d : Array ByteArray) (w : World) (hH : Holds Value.string w blk off d) (hcap : d.size ≤ cap) (hm : cap ≤ 9223372036854775807) (hij : i < d.size) :
    Calls Try.prog 43 #[.slice (some ⟨blk, off, none⟩) d.size cap, .int .i64 i, .int .i64 ((i : Int) + 1)] w fun e w' => e = .returned (.slice (some ⟨blk, off, none⟩) (d.size - 1) cap) ∧ ∃ q, w' = putRow Value.string (Sort.ahead w q) blk off (d.toList.take i ++ d.toList.drop (i + 1) ++ List.replicate 1 ByteArray.empty).toArray := by
  obtain ⟨i0, hi0, hz0, hz1, hz2⟩ := info_parts str_info
  have mixed : Try.prog.follows Departure.mixedOrders = true := by kernel_rfl
  obtain ⟨j, hj⟩ : ∃ j, j = i + 1 := ⟨_, rfl⟩
  rw [show ((i : Int) + 1) = (j : Int) by rw [hj]; rfl, ← hj]
  have hlt : i < j := by omega
  have hjd : j ≤ d.size := by omega
  have h1j : d.size - 1 = d.size - (j - i) := by omega
  have hr1 : List.replicate 1 ByteArray.empty = List.replicate (j - i) ByteArray.empty := by rw [hj, Nat.add_sub_cancel_left]
  rw [h1j, hr1]
  clear hj h1j hr1
  obtain ⟨news, hnews⟩ : ∃ news, news = (d.toList.drop j).map Value.string := ⟨_, rfl⟩
  have hlen : news.length = d.size - j := by rw [hnews]; simp
  have hget : ∀ t, t < d.size - j → news[t]? = some (.string d[j + t]!) := by
    intro t ht
    rw [hnews, List.getElem?_map, List.getElem?_drop, Array.getElem?_toList, getElem!_pos d (j + t) (by omega), Array.getElem?_eq_getElem (by omega)]
    rfl
  obtain ⟨A, hA, hsrc⟩ : ∃ A : Addr, (if cap = j then some (⟨blk, off, none⟩ : Addr) else some ⟨blk, off + j, none⟩) = some A ∧ Hid (∀ t u, news[t]? = some u → w.drew.cell? (A.add t) = some u) := by
    by_cases h : cap = j
    · refine ⟨⟨blk, off, none⟩, by simp [h], Lib.hid fun t u hu => ?_⟩
      have h0 : news.length = 0 := by rw [hlen]; omega
      rw [List.length_eq_zero_iff.1 h0] at hu
      simp at hu
    · refine ⟨⟨blk, off + j, none⟩, by simp [h], Lib.hid fun t u hu => ?_⟩
      have ht : t < d.size - j := by
        have := (List.getElem?_eq_some_iff.1 hu).1
        rwa [hlen] at this
      rw [hget t ht] at hu
      rw [Addr.add_lit, show off + j + t = off + (j + t) by omega]
      exact (hH (j + t) (by omega)).1.trans hu
  have s1 : Hid (news.length = (d.size - j) * 1) := by rw [Nat.mul_one]; exact Lib.hid hlen
  have s2 : Hid (∀ u ∈ news, u.oneCell' = true) := Lib.hid (by
    intro u hu
    rw [hnews] at hu
    obtain ⟨x, _, rfl⟩ := List.mem_map.1 hu
    rfl)
  have s3 : Hid (∀ t, t < news.length → (w.drew.cell? ⟨blk, off + i * 1 + t, none⟩).isSome = true ∧ w.drew.frozen? ⟨blk, off + i * 1 + t, none⟩ = false) := Lib.hid (by
    intro t ht
    rw [hlen] at ht
    rw [Nat.mul_one, Nat.add_assoc]
    exact ⟨by show (w.cell? _).isSome = true; rw [(hH (i + t) (by omega)).1]; rfl, (hH (i + t) (by omega)).2⟩)
  obtain ⟨W1, hW1⟩ : ∃ W1, W1 = w.drew.setCells blk (off + i * 1) news := ⟨_, rfl⟩
  have hW1' : W1 = putRow Value.string (Sort.ahead w 1) blk off (lay d i (d.toList.drop j)) := by
    rw [hW1, hnews, Nat.mul_one, ← putRow_setCells Value.string (Sort.ahead w 1) blk off _ d i (by simp; omega), putRow_self Value.string (Sort.ahead w 1) blk off d (holds_ahead Value.string w 1 blk off d hH)]
    rfl
  have hH1 : Holds Value.string W1 blk off (lay d i (d.toList.drop j)) := by rw [hW1']; exact holds_putRow Value.string _ blk off d _ (holds_ahead Value.string w 1 blk off d hH) (lay_size _ _ _)
  have hcl : ∀ ty, (Builtin.clear_ #[24] ty #[.slice (some ⟨blk, off + (i + (d.size - j)), none⟩) (d.size - (i + (d.size - j))) (cap - (i + (d.size - j)))]).run Try.prog W1 = .ok (.tuple #[]) (W1.setCells blk (off + (i + (d.size - j))) (List.replicate (d.size - (i + (d.size - j))) (.string ByteArray.empty))) :=
    fun ty => Lib.run_clear_slice W1 _ _ ty _ Try.underlying24 str_zero (one_str.cells ByteArray.empty) (one_str ByteArray.empty) blk (off + (i + (d.size - j))) _ _ (by omega) (fun t ht => by rw [show off + (i + (d.size - j)) + t = off + (i + (d.size - j) + t) by omega, (hH1 _ (by rw [lay_size]; omega)).1]; rfl) (fun t ht => by rw [show off + (i + (d.size - j)) + t = off + (i + (d.size - j) + t) by omega]; exact (hH1 _ (by rw [lay_size]; omega)).2)
  have X : Aside (W1 = putRow Value.string (Sort.ahead w 1) blk off (lay d i (d.toList.drop j))) := hW1'
  have hW : Hid (W1 = w.drew.setCells blk (off + i * 1) news) := Lib.hid hW1
  have hic : i ≤ cap := by omega
  have hjc : j ≤ cap := by omega
  clear hW1 hW1' hH1 hH hget hnews hlen
  go_enter Try.func43, Try.ntmps43
  go_wp2_with fail
  go_region_law_o (refine step_append_room rfl (.tmp 22) (.tmp 25) 24 rfl 9 i0 1 Try.underlying24 hi0 hz1 blk off i cap (by simp [Act.eval, Act.put]) A (d.size - j) (cap - j) news (by simp [Act.eval, Act.put]; first | exact hA | skip) s1.out hsrc.out s2.out (by omega) s3.out ?_; rw [← hW.out])
  go_wp2
  go_ret
  refine ⟨by rw [show d.size - (j - i) = i + (d.size - j) by omega]; rfl, 1, ?_⟩
  rw [← delete_arr d i j ByteArray.empty (by omega) hjd, ← putRow_setCells Value.string _ blk off _ _ (i + (d.size - j)) (by rw [lay_size]; simp; omega), ← X.out, List.map_replicate, show d.size - (i + (d.size - j)) = j - i by omega]

theorem kp_putRow {enc : ByteArray → Value} {w : World} {g q : Nat} {d : Array ByteArray} : Kp (· = g) w (putRow enc (Sort.ahead w q) g 0 d) := by
  unfold putRow mapBlock
  refine ⟨rfl, rfl, rfl, by simp [Sort.ahead], fun k hk hs => ?_⟩
  simp only [Array.getElem?_modify]
  rw [if_neg (fun e => hs e.symm)]
  rfl
/-- a slice of strings with one taken out -/
def Sdel (g cap i : Nat) (L : List ByteArray) (w : World) (e : Ending) (w' : World) : Prop :=
  e = .returned (.slice (some ⟨g, 0, none⟩) (L.length - 1) cap) ∧ Own w' 9 1 (.slice (some ⟨g, 0, none⟩) (L.length - 1) cap) (L.length - 1) (Sc (L.take i ++ L.drop (i + 1))) ∧ Kp (· = g) w w'
theorem sdel_any (g cap i : Nat) (L : List ByteArray) (w : World) (h : Own w 9 1 (.slice (some ⟨g, 0, none⟩) L.length cap) L.length (Sc L)) (hi : i < L.length) :
    Calls Try.prog 43 #[.slice (some ⟨g, 0, none⟩) L.length cap, .int .i64 i, .int .i64 ((i : Int) + 1)] w (Sdel g cap i L w) := by
  obtain ⟨g', cap', e, _, _, hc, hm, _, hH⟩ := holds_of_ownsRow (enc := Value.string) (zs := L) h (by intro e; cases e)
  cases e
  have hd := sdel_arr g 0 cap i L.toArray w hH (by simpa using hc) (by unfold maxLen at hm; omega) (by simpa using hi)
  rw [List.size_toArray] at hd
  refine hd.mono ?_
  rintro e w' ⟨rfl, q, rfl⟩
  refine ⟨rfl, ?_, kp_putRow⟩
  have hl : (L.take i ++ L.drop (i + 1)).length = L.length - 1 := by rw [List.length_append, List.length_take, List.length_drop]; omega
  have ho := ownsRow_putRow (q := q) (k := L.length - 1) (ys := L.take i ++ L.drop (i + 1) ++ List.replicate 1 ByteArray.empty) h (by rw [List.length_append, hl]; simp; omega) (by omega)
  rw [List.take_append_of_le_length (by rw [hl]; exact Nat.le_refl _), List.take_of_length_le (l := L.take i ++ L.drop (i + 1)) (by rw [hl]; exact Nat.le_refl _)] at ho
  exact ho
end Go.Proofs.Ytbiahndpfbmoeaa
