/- What package due's Len, Next and Set do. Condition: there are no more alarms than fit into memory. -/
import Derived.Test.YtjipppejcpokkaaDue4
import Derived.Test.YtjipppejcpokkaaDueList
import Derived.Test.YtjipppejcpokkaaMap
namespace Go.Proofs.Ytjipppejcpokkaa
open Go.RowKit Go.Maps

theorem due_keyed : Keyed Try.prog 3 := int_keyed Try.underlying3
theorem due_zero (w : World) : (zeroValue 51).run Try.prog w = .ok (.pointer none) w := by kernel_rfl
/-- the map's entries -/
def Me (L : List Al) : List (Lit × Value) := L.map fun a => (.int .i64 a.id, .pointer (some ⟨a.blk, 0, none⟩))
/-- block p is alarms -/
structure DuIn (w : World) (p : Nat) (v m : Value) (L : List Al) (N : Nat) : Prop where
  al : AlAt w p v m L
  hp : Heap L L.length
  len : L.length ≤ N
  wf : ∀ a ∈ L, (Lit.int .i64 a.id).wf = true
  lim : ∀ a ∈ L, a.at' ≤ 1099511627776
  map : (m = .map none ∧ L = []) ∨ ∃ b, m = .map (some b) ∧ MapAt w Try.prog 3 b L.length (Me L) ∧ b ≠ p ∧ ¬ Bs v L b
/-- its blocks -/
def Ft (p : Nat) (v m : Value) (L : List Al) (k : Nat) : Prop := k = p ∨ Bs v L k ∨ m = .map (some k)
theorem DuIn.keep {S : Nat → Prop} {w w' : World} {p : Nat} {v m : Value} {L : List Al} {N : Nat} (h : DuIn w p v m L N) (hk : Kp S w w') (hs : ∀ k, Ft p v m L k → ¬ S k) : DuIn w' p v m L N :=
  ⟨h.al.keep hk (hs p (Or.inl rfl)) (fun k e => hs k (Or.inr (Or.inl e))), h.hp, h.len, h.wf, h.lim, h.map.imp id (fun ⟨b, e, hm, h1, h2⟩ => ⟨b, e, hm.keep hk (hs b (Or.inr (Or.inr e))), h1, h2⟩)⟩
theorem DuIn.lt {w : World} {p : Nat} {v m : Value} {L : List Al} {N : Nat} (h : DuIn w p v m L N) {k : Nat} (hk : Ft p v m L k) : k < w.heap.size := by
  rcases hk with rfl | (hk | ⟨a, ha, rfl⟩) | hk
  · exact lt_of_block h.al.head
  · exact h.al.row.lt hk
  · obtain ⟨i, hi, rfl⟩ := mem_G ha; exact lt_of_block (h.al.each i hi)
  · rcases h.map with ⟨e, _⟩ | ⟨b, e, hm, _⟩
    · rw [hk] at e; cases e
    · rw [hk] at e; cases e; exact hm.lt
theorem DuIn.ids {w : World} {p : Nat} {v m : Value} {L : List Al} {N : Nat} (h : DuIn w p v m L N) {i : Nat} (hi : i < L.length) : ∀ a ∈ Rest L i, a.id ≠ (G L i).id := by
  rcases h.map with ⟨_, rfl⟩ | ⟨b, _, hm, _⟩
  · cases hi
  · have h1 := (hm.keyed due_keyed).1
    have h2 : (Me L).Perm (Me (G L i :: Rest L i)) := (rest_perm hi).map _
    have h3 := (h2.pairwise_iff (fun {a b} (h : a.1 ≠ b.1) => h.symm)).1 h1
    intro a ha e
    exact (List.pairwise_cons.1 h3).1 _ (List.mem_map.2 ⟨a, ha, rfl⟩) (by rw [e])
/-- block p is alarms, S what they are, in order; F: its blocks -/
def DuAt (w : World) (p : Nat) (S : List (Int × Int)) (N : Nat) (F : Nat → Prop) : Prop :=
  ∃ v m L, DuIn w p v m L N ∧ (Kl L).Perm S ∧ S.Pairwise LtP ∧ ∀ k, F k ↔ Ft p v m L k
theorem DuAt.keep {S' : Nat → Prop} {w w' : World} {p : Nat} {S : List (Int × Int)} {N : Nat} {F : Nat → Prop} (h : DuAt w p S N F) (hk : Kp S' w w') (hs : ∀ k, F k → ¬ S' k) : DuAt w' p S N F := by
  obtain ⟨v, m, L, h1, h2, h3, h4⟩ := h
  exact ⟨v, m, L, h1.keep hk (fun k e => hs k ((h4 k).2 e)), h2, h3, h4⟩
theorem DuAt.lt {w : World} {p : Nat} {S : List (Int × Int)} {N : Nat} {F : Nat → Prop} (h : DuAt w p S N F) {k : Nat} (hk : F k) : k < w.heap.size := by
  obtain ⟨v, m, L, h1, h2, h3, h4⟩ := h
  exact h1.lt ((h4 k).1 hk)
theorem DuAt.length {w : World} {p : Nat} {S : List (Int × Int)} {N : Nat} {F : Nat → Prop} (h : DuAt w p S N F) : S.length ≤ N := by
  obtain ⟨v, m, L, h1, h2, h3, h4⟩ := h
  rw [← h2.length_eq]; simp [Kl]; exact h1.len

theorem dlen_none (w : World) : Calls Try.prog 14 #[.pointer none] w fun e w' => e = .returned (.int .i64 0) ∧ w = w' := by
  go_enter Try.func14, Try.ntmps14
  go_wp2
  go_ret
  exact ⟨rfl, rfl⟩
theorem dlen_in (p : Nat) (v m : Value) (L : List Al) (w : World) (h : AlAt w p v m L) : Calls Try.prog 14 #[.pointer (some ⟨p, 0, none⟩)] w fun e w' => e = .returned (.int .i64 L.length) ∧ w = w' := by
  obtain ⟨ao, cap, rfl⟩ := h.row.slice
  have c0 := cell_of h.head 0
  simp only [List.getElem?_toArray, List.getElem?_cons_zero] at c0
  clear h
  go_enter Try.func14, Try.ntmps14
  go_wp2
  go_ret
  exact ⟨rfl, rfl⟩
theorem dlen_any (p : Nat) (S : List (Int × Int)) (N : Nat) (F : Nat → Prop) (w : World) (h : DuAt w p S N F) : Calls Try.prog 14 #[.pointer (some ⟨p, 0, none⟩)] w fun e w' => e = .returned (.int .i64 S.length) ∧ w = w' := by
  obtain ⟨v, m, L, h1, h2, h3, h4⟩ := h
  have hl : L.length = S.length := by rw [← h2.length_eq]; simp [Kl]
  rw [← hl]
  exact dlen_in p v m L w h1.al
theorem dnext_none (w : World) : Calls Try.prog 13 #[.pointer none] w fun e w' => e = .returned (.tuple #[.int .i64 0, .int .i64 0, .bool false]) ∧ w = w' := by
  go_enter Try.func13, Try.ntmps13
  go_wp2_with (go_at_call 14; refine (dlen_none _).mono ?_; rintro e w' ⟨rfl, rfl⟩)
  go_ret3
  exact ⟨rfl, rfl⟩
theorem dnext_nil (p : Nat) (N : Nat) (F : Nat → Prop) (w : World) (h : DuAt w p [] N F) : Calls Try.prog 13 #[.pointer (some ⟨p, 0, none⟩)] w fun e w' => e = .returned (.tuple #[.int .i64 0, .int .i64 0, .bool false]) ∧ w = w' := by
  have H := Lib.hid h; clear h
  go_enter Try.func13, Try.ntmps13
  go_wp2_with (go_at_call 14; refine (dlen_any _ _ _ _ _ H.out).mono ?_; rintro e w' ⟨rfl, rfl⟩)
  go_ret3
  exact ⟨rfl, rfl⟩
theorem dnext_in (p : Nat) (v m : Value) (L : List Al) (w : World) (h : AlAt w p v m L) (h0 : 0 < L.length) : Calls Try.prog 13 #[.pointer (some ⟨p, 0, none⟩)] w fun e w' => e = .returned (.tuple #[.int .i64 (G L 0).id, .int .i64 (G L 0).at', .bool true]) ∧ ∃ n, w' = w.drewN n := by
  rcases h.row.shape with ⟨_, h1, _⟩ | ⟨g, cap, rfl, hcap, hcm, hg⟩
  · omega
  have c0 := cell_of h.head 0
  simp only [List.getElem?_toArray, List.getElem?_cons_zero] at c0
  have ci : w.cell? ⟨g, 0, none⟩ = some (.pointer (some ⟨(G L 0).blk, 0, none⟩)) := h.row.cell (Pc_get h0)
  have ei := h.each 0 h0
  obtain ⟨A, hA⟩ : ∃ A, A = G L 0 := ⟨_, rfl⟩
  rw [← hA] at ci ei ⊢
  obtain ⟨ba, ia, ta⟩ := A
  have i0 := cell_of ei 0; have i1 := cell_of ei 1
  simp only [List.getElem?_toArray, List.getElem?_cons_zero, List.getElem?_cons_succ] at i0 i1
  have HH := Lib.hid h
  have q2 : (0 : Int) < (L.length : Int) := by omega
  have q3 : ((L.length : Int) == 0) = false := by rw [beq_eq_false_iff_ne]; omega
  clear hA ei h
  go_enter Try.func13, Try.ntmps13
  go_wp2_with (go_at_call 14; refine (dlen_in _ _ _ _ _ HH.out).mono ?_; rintro e w' ⟨rfl, rfl⟩)
  go_quiet (fail)
  go_wp2_with fail
  go_ret3
  exact ⟨rfl, _, rfl⟩
theorem dnext_cons (p : Nat) (s : Int × Int) (r : List (Int × Int)) (N : Nat) (F : Nat → Prop) (w : World) (h : DuAt w p (s :: r) N F) : Calls Try.prog 13 #[.pointer (some ⟨p, 0, none⟩)] w fun e w' => e = .returned (.tuple #[.int .i64 s.1, .int .i64 s.2, .bool true]) ∧ ∃ n, w' = w.drewN n := by
  obtain ⟨v, m, L, h1, h2, h3, h4⟩ := h
  obtain ⟨hl, e1, e2⟩ := heap_first h1.hp h2 h3
  rw [← e1, ← e2]
  exact dnext_in p v m L w h1.al hl
end Go.Proofs.Ytjipppejcpokkaa
