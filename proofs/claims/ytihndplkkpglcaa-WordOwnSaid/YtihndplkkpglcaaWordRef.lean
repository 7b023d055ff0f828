/- Bytes as strings, and what every law of package word asks first. No condition. -/
import Derived.Test.YtihndplkkpglcaaReader2
import Derived.Laws.BytesString
namespace Go.Proofs.Ytihndplkkpglcaa
open Go.RowKit

/-- bytes as a string -/
def Str (N : List Int) : ByteArray := N.foldl (fun r n => r.push (UInt8.ofNat n.toNat)) ByteArray.empty
theorem run_str {w : World} {ao : Option Addr} {c : Nat} {N : List Int} (hs : Src w ao c N) : (convert 22 9 (.slice ao N.length c)).run Try.prog w = .ok (.string (Str N)) w := by
  rw [run_convert_bytes_string w _ _ 5 ao N.length c Try.underlying22 Try.underlying5 Try.underlying9]
  cases ao with
  | none =>
    obtain ⟨rfl, rfl⟩ := hs.1 rfl
    simp [Conv.bytesToString, Str, Sem.run_pure]
  | some ad =>
    refine run_bytesToString w ad N.length c N ?_
    have := run_loadCells_list (P := Try.prog) (w := w) ad (Bc N) (hs.2 ad rfl)
    rw [Bc_len] at this
    exact this

theorem run_mark {w : World} {k l c : Nat} {cs : Array Value} {e : TypeId} {fr : Nat × Nat} (h : w.heap[k]? = some (.cells cs e fr)) :
    (convert 22 22 (.slice (some ⟨k, 0, none⟩) l c)).run Try.prog w = .ok (.slice (some ⟨k, 0, none⟩) l c) (w.freeze ⟨k, cs.size, none⟩ 1) := by
  simp [convert, run_underlying Try.underlying22, run_underlying Try.underlying5]
  simp [markStringish, shape, freeze, Sem.run, World.shape?, h, Result.andThen, bind, Sem.bind, pure]
theorem Kp.freeze {S : Nat → Prop} {w w1 : World} (h : Kp S w w1) (a : Addr) (n : Nat) (ha : S a.block ∨ w.heap.size ≤ a.block) : Kp S w (w1.freeze a n) := by
  unfold World.freeze
  split
  · exact h
  · refine ⟨h.os, h.tape, h.output, by simp; exact h.size, fun k hk hs => ?_⟩
    simp only [Array.getElem?_modify]
    rw [if_neg (by intro e; rcases ha with ha | ha; exact hs (e ▸ ha); omega)]
    exact h.block k hk hs
theorem cell_freeze {w : World} (a b : Addr) (n : Nat) : (w.freeze a n).cell? b = w.cell? b := by
  unfold World.freeze
  split
  · rfl
  · unfold World.cell?
    simp only [Array.getElem?_modify]
    by_cases e : a.block = b.block
    · rw [if_pos e]
      cases h : w.heap[b.block]? with
      | none => simp
      | some o => cases o <;> simp
    · rw [if_neg e]
theorem Src.freeze {w : World} {bo : Option Addr} {c : Nat} {N : List Int} (h : Src w bo c N) (a : Addr) (n : Nat) : Src (w.freeze a n) bo c N :=
  ⟨h.1, fun ad ha j u hu => (cell_freeze _ _ _).trans (h.2 ad ha j u hu)⟩
theorem Own.keepF {w w' : World} {e : TypeId} {sz : Nat} {v : Value} {n : Nat} {xs : List Value} (h : Own w e sz v n xs) (hk : Kp (fun _ => False) w w') : Own w' e sz v n xs := h.keep hk (fun _ _ h => h)
theorem w3ans_any (w : World) : Calls Try.prog 29 #[] w fun e w' => e = .returned (.bool true) ∧ Kp (fun _ => False) w w' := by
  have hq1 := heap_new (w := w.alloc (.cells #[.slice none 0 0, .bool false] 49)) (.cells #[.int .u8 97] 5)
  rw [World.size_alloc] at hq1
  have hcc := run_mark (l := 1) (c := 1) hq1
  have hkf := Lib.hid ((Kp.refl (· = w.heap.size + 1) ((w.alloc (.cells #[.slice none 0 0, .bool false] 49)).alloc (.cells #[.int .u8 97] 5))).freeze ⟨w.heap.size + 1, 1, none⟩ 1 (Or.inl rfl))
  have hwr : WrAt ((w.alloc (.cells #[.slice none 0 0, .bool false] 49)).alloc (.cells #[.int .u8 97] 5)) w.heap.size (.slice none 0 0) false [] :=
    ⟨heap_old _ (heap_new _), Own.nil _ _ _, by simp [Value.ownBlock]⟩
  have hsr : Src ((w.alloc (.cells #[.slice none 0 0, .bool false] 49)).alloc (.cells #[.int .u8 97] 5)) (some ⟨w.heap.size + 1, 0, none⟩) 1 [97] := by
    refine Src.of_row (fun j hj => ?_)
    have hj0 : j = 0 := by simp at hj; omega
    subst hj0
    have := heap_new (w := w.alloc (.cells #[.slice none 0 0, .bool false] 49)) (.cells #[.int .u8 97] 5)
    rw [World.size_alloc] at this
    rw [cell_of this]; rfl
  have hwr := hwr.keep hkf.out (by omega) (fun k hk => by simp [Value.ownBlock] at hk)
  have hsr := Src.freeze hsr ⟨w.heap.size + 1, 1, none⟩ 1
  have hall : enc 1 ++ [97] = [0, 0, 0, 0, 0, 0, 0, 1, 97] := by decide
  have hok : Rok [0, 0, 0, 0, 0, 0, 0, 1, 97] := by unfold Rok; decide
  have hdec : dec (List.take 8 [0, 0, 0, 0, 0, 0, 0, 1, 97]) = ((1 : Nat) : Int) := by decide
  have hbyt : Byt [0, 0, 0, 0, 0, 0, 0, 1, 97] := by intro z hz; simp at hz; omega
  have hstr : Str [97] = ⟨#[97]⟩ := by decide
  have HC := Lib.hid hq1; have HW := Lib.hid hwr; have HS := Lib.hid hsr; have HA := Lib.hid hall; have HOK := Lib.hid hok; have HD := Lib.hid hdec; have HB := Lib.hid hbyt; have HST := Lib.hid hstr
  clear hq1 hkf hwr hsr hall hok hdec hbyt hstr
  go_enter Try.func29, Try.ntmps29
  go_wp2_with fail
  refine (wbytes_any w.heap.size _ false [] [97] (some ⟨w.heap.size + 1, 0, none⟩) 1 _ HW.out (by simp) (by simp) HS.out (fun ad ha _ => by cases ha; exact ⟨by simp, by simp [Value.ownBlock]⟩)).mono ?_; rintro e w1 ⟨rfl, ⟨v, hp, _⟩, hk⟩
  rw [List.nil_append, show ((([97] : List Int).length : Nat) : Int) = 1 from rfl, HA.out] at hp
  have HP := Lib.hid hp; have HK := Lib.hid hk; clear hp hk
  go_wp2_with fail
  refine (wout_any w.heap.size v _ _ HP.out (by simp)).mono ?_; rintro e w2 ⟨b, rfl, hb, hk2⟩
  have HBO := Lib.hid (own_weaken hb); have HK2 := Lib.hid hk2; clear hb hk2
  rcases HBO.out.shape with ⟨_, h0, _⟩ | ⟨g, cap, rfl, hcap, _, hg⟩
  · simp at h0
  go_wp2_with fail
  refine (read_any _ cap [0, 0, 0, 0, 0, 0, 0, 1, 97] _ (Src.own HBO.out rfl) (by simp)).mono ?_; rintro e w3 ⟨r, g2, rfl, hr1, hg2, hrd, hk3⟩
  have HRD := Lib.hid hrd; have HK3 := Lib.hid hk3; clear hrd hk3
  go_wp2_with fail
  refine (rbytes_any r g2 0 _ 1 _ _ HRD.out HB.out HOK.out HD.out).mono ?_; rintro e w4 ⟨o1, o2, rfl, hcl, hrd, hk4⟩
  have hsc : Src w4 (some ⟨g2, o1, none⟩) 1 [97] := Src.of_row (fun j hj => by
    have hj0 : j = 0 := by simp at hj; omega
    subst hj0
    exact (hcl 0 (by omega)))
  have hcv : (convert 22 9 (.slice (some ⟨g2, o1, none⟩) 1 1)).run Try.prog w4 = .ok (.string ⟨#[97]⟩) w4 := by rw [← HST.out]; exact run_str hsc
  have c7 : w4.cell? ⟨g, 7, none⟩ = some (.int .u8 1) := (hk4.cell 7 (Nat.lt_of_lt_of_le hg HK3.out.size) (fun e => by omega)).trans ((HK3.out.cell 7 hg (fun h => h)).trans (HBO.out.cell rfl))
  have HRD4 := Lib.hid hrd; have HK4 := Lib.hid hk4; clear hrd hk4 hcl hsc
  go_wp2_with fail
  refine (rdone_any r g2 o2 _ false _ _ HRD4.out).mono ?_; rintro e w' ⟨rfl, rfl⟩
  rw [show Dn false (List.drop (8 + 1) [0, 0, 0, 0, 0, 0, 0, 1, 97]) = true from rfl]
  go_wp2_with fail
  go_ret
  refine ⟨rfl, ?_⟩
  have h0 : Kp (fun _ => False) w w1 := ((((Kp.refl (fun _ => False) w).alloc _).alloc _).freeze ⟨w.heap.size + 1, 1, none⟩ 1 (Or.inr (by simp))).trans_new HK.out (fun k h1 h2 => by
    rcases h2 with h2 | h2
    · omega
    · simp [In, Value.ownBlock] at h2)
  have hW := (h0.trans HK2.out).size
  exact ((h0.trans HK2.out).trans HK3.out).trans_new HK4.out (fun k h1 h2 => by have h3 : k = r := h2; omega)
end Go.Proofs.Ytihndplkkpglcaa
