/- What the reference's alarms do: Drop, whatever there is; where an alarm is put in. No condition. -/
import Derived.Test.YtjipppejcpokkaaDueRef
import Derived.Deep.CutBlock
import Derived.Deep.DeepCutAuto
namespace Go.Proofs.Ytjipppejcpokkaa
open Go.RowKit Go.Maps

theorem heap_new2 {w : World} (o o' : Obj) : ((w.alloc o).alloc o').heap[w.heap.size + 1]? = some o' := by
  have h := heap_new (w := w.alloc o) o'
  rwa [World.size_alloc] at h
theorem news_at {w : World} {cs : List Value} {T : TypeId} {b : Nat} (h : w.heap[b]? = some (.cells cs.toArray T (0, 0))) : ∀ ad, some (⟨b, 0, none⟩ : Addr) = some ad → ∀ j u, cs[j]? = some u → w.cell? (ad.add j) = some u := by
  intro ad e j u hu
  cases e
  rw [Addr.add_lit, Nat.zero_add, cell_of h]
  simpa using hu
theorem rdrop_not (q : Nat) (u : Value) (S : List (Int × Int)) (id : Int) (w : World) (h : FdAt w q u S) (hb : HasI id S = false) (hL : S.length ≤ 1000000) :
    Calls Try.prog 10 #[.pointer (some ⟨q, 0, none⟩), .int .i64 id] w fun e w' => e = .returned (.bool false) ∧ w = w' := by
  obtain ⟨ao, cap, rfl⟩ := h.row.slice
  have c0 := cell_of h.head 0
  simp only [List.getElem?_toArray, List.getElem?_cons_zero] at c0
  have HH := Lib.hid h; have HB := Lib.hid (HasI_false.1 hb)
  clear h hb
  go_enter Try.func10, Try.ntmps10
  go_wp2_with fail
  go_loopg [5] S.length (fun k x wr => ∃ j : Nat, k = S.length - j ∧ j ≤ S.length ∧ x = .int .i64 j ∧ wr = w)
  case atStart => exact ⟨0, rfl, Nat.zero_le _, rfl, rfl⟩
  case round =>
    obtain ⟨j, hk, hj, rfl, rfl⟩ := hrel
    have HKk := Lib.hid hk; clear hk
    by_cases hlt : j < S.length
    · rcases HH.out.row.shape with ⟨_, h1, _⟩ | ⟨g, cap', he, hcap, hcm, hg⟩
      · omega
      · cases he
        obtain ⟨x, hx⟩ : ∃ x, S[j]? = some x := ⟨_, List.getElem?_eq_getElem hlt⟩
        have cj : wr.cell? ⟨g, j * 2, none⟩ = some (.int .i64 x.1) := HH.out.row.cell (Ap_get hx).1
        have hx1 : ¬ x.1 = id := HB.out x (List.mem_of_getElem? hx)
        obtain ⟨x1, x2⟩ := x
        have q1 : (0 : Int) ≤ (j : Int) := by omega
        have q2 : (j : Int) < (S.length : Int) := by omega
        clear hx
        go_wp2_with fail
        go_roundg (S.length - (j + 1))
        case measure => rw [HKk.out]; omega
        case rel => exact ⟨j + 1, rfl, by omega, by go_num, rfl⟩
    · go_wp2_with fail
      go_ret
      exact ⟨rfl, rfl⟩
theorem cut_del {S : List (Int × Int)} {i : Nat} {id : Int} (hi : i < S.length) (hid : (S.getD i default).1 = id) (hp : S.Pairwise (fun a b => a.1 ≠ b.1)) : CutP i S = Del id S ∧ ∀ t, t < i → (S.getD t default).1 ≠ id := by
  induction S generalizing i with
  | nil => cases hi
  | cons x r ih =>
    obtain ⟨h1, h2⟩ := List.pairwise_cons.1 hp
    cases i with
    | zero =>
      have e : x.1 = id := hid
      refine ⟨?_, fun t ht => by omega⟩
      have e2 : CutP 0 (x :: r) = r := by simp [CutP]
      rw [e2, ← e]
      unfold Del
      rw [List.filter_cons_of_neg (by simp)]
      exact (Del_none (fun y hy e => h1 y hy e.symm)).symm
    | succ i =>
      have hi' : i < r.length := by simpa using hi
      have hid' : (r.getD i default).1 = id := hid
      obtain ⟨h3, h4⟩ := ih hi' hid' h2
      have hx : x.1 ≠ id := fun e => by
        have hm : r.getD i default ∈ r := by
          rw [List.getD_eq_getElem?_getD, List.getElem?_eq_getElem hi']
          exact List.getElem_mem hi'
        exact h1 _ hm (by rw [hid']; exact e)
      refine ⟨?_, fun t ht => ?_⟩
      · have e2 : CutP (i + 1) (x :: r) = x :: CutP i r := by simp [CutP]
        rw [e2, h3]
        unfold Del
        rw [List.filter_cons_of_pos (by simp [hx])]
      · cases t with
        | zero => exact hx
        | succ t => exact h4 t (by omega)
/-- the slice is that of before, or a new one -/
def Rnew (w : World) (u u' : Value) : Prop := ∀ k, u'.ownBlock = some k → u.ownBlock = some k ∨ w.heap.size ≤ k
def Rdone (q : Nat) (u : Value) (S : List (Int × Int)) (r : Value) (w : World) (e : Ending) (w' : World) : Prop := e = .returned r ∧ (∃ u', FdAt w' q u' S ∧ Rnew w u u') ∧ Kp (· = q) w w'
theorem rdrop_any (q : Nat) (u : Value) (S : List (Int × Int)) (id : Int) (w : World) (h : FdAt w q u S) (hp : S.Pairwise (fun a b => a.1 ≠ b.1)) (hL : S.length ≤ 1000000) :
    Calls Try.prog 10 #[.pointer (some ⟨q, 0, none⟩), .int .i64 id] w (Rdone q u (Del id S) (.bool (HasI id S)) w) := by
  cases hx : HasI id S with
  | false =>
    refine (rdrop_not q u S id w h hx hL).mono ?_
    rintro e w' ⟨rfl, rfl⟩
    rw [Del_none (HasI_false.1 hx)]
    exact ⟨rfl, ⟨u, h, fun k hk => Or.inl hk⟩, Kp.refl _ _⟩
  | true =>
    obtain ⟨y, hy, rfl⟩ := HasI_iff.1 hx
    obtain ⟨i, hi⟩ := List.getElem?_of_mem hy
    have hil := (List.getElem?_eq_some_iff.1 hi).1
    have hid : (S.getD i default).1 = y.1 := by rw [List.getD_eq_getElem?_getD, hi]; rfl
    obtain ⟨h1, h2⟩ := cut_del hil hid hp
    refine (rdrop_at q i u S y.1 w h hil hid h2 hL).mono ?_
    rintro e w' ⟨rfl, ⟨u', h3, h4⟩, h5⟩
    rw [h1] at h3
    exact ⟨rfl, ⟨u', h3, fun k hk => Or.inr (h4 k hk)⟩, h5⟩
theorem ins_split {S : List (Int × Int)} {x : Int × Int} {k : Nat} (hk : k ≤ S.length) (hb : ∀ t, t < k → LtP (S.getD t default) x) (he : k < S.length → ¬ LtP (S.getD k default) x) : Ins x S = S.take k ++ [x] ++ S.drop k := by
  induction S generalizing k with
  | nil => simp at hk; subst hk; rfl
  | cons y r ih =>
    cases k with
    | zero =>
      have h0 : ¬ LtP y x := he (by simp)
      unfold Ins
      rw [if_neg h0]; rfl
    | succ k =>
      have h0 : LtP y x := hb 0 (by omega)
      unfold Ins
      rw [if_pos h0, ih (k := k) (by simpa using hk) (fun t ht => hb (t + 1) (by omega)) (fun h => he (by simpa using h))]
      simp
end Go.Proofs.Ytjipppejcpokkaa
