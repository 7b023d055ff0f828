/- What the reference's alarms do: Drop. Condition: there are no more than fit into memory. -/
import Derived.Test.YtjipppejcpokkaaDueMoves
namespace Go.Proofs.Ytjipppejcpokkaa
open Go.RowKit Go.Maps

theorem al_info : (Try.prog.info? 40).map (fun i => (i.zero, i.size, i.bytes)) = some (some (.agg #[.int .i64 0, .int .i64 0]), 2, 16) := by kernel_rfl
/-- the cells of (id, time)s -/
def Ap (S : List (Int × Int)) : List Value := S.flatMap fun x => [.int .i64 x.1, .int .i64 x.2]
theorem Ap_len (S : List (Int × Int)) : (Ap S).length = S.length * 2 := by
  induction S with
  | nil => rfl
  | cons x r ih => unfold Ap at *; rw [List.flatMap_cons, List.length_append, ih]; simp; omega
theorem Ap_one (S : List (Int × Int)) : ∀ u ∈ Ap S, u.oneCell' = true := by
  intro u hu
  obtain ⟨x, _, hx⟩ := List.mem_flatMap.1 hu
  simp at hx
  rcases hx with rfl | rfl <;> rfl
theorem Ap_app (S T : List (Int × Int)) : Ap (S ++ T) = Ap S ++ Ap T := by unfold Ap; rw [List.flatMap_append]
theorem Ap_get {S : List (Int × Int)} {i : Nat} {x : Int × Int} (h : S[i]? = some x) : (Ap S)[i * 2]? = some (.int .i64 x.1) ∧ (Ap S)[i * 2 + 1]? = some (.int .i64 x.2) := by
  induction S generalizing i with
  | nil => simp at h
  | cons y r ih =>
    have e : Ap (y :: r) = .int .i64 y.1 :: .int .i64 y.2 :: Ap r := rfl
    rw [e]
    cases i with
    | zero => simp at h; subst h; exact ⟨rfl, rfl⟩
    | succ i =>
      have h' : r[i]? = some x := by simpa using h
      have e1 : (i + 1) * 2 = i * 2 + 1 + 1 := by omega
      rw [e1]
      simp only [List.getElem?_cons_succ]
      exact ih h'
theorem Ap_take (S : List (Int × Int)) (k : Nat) : Ap (S.take k) = (Ap S).take (k * 2) := by
  induction S generalizing k with
  | nil => simp [Ap]
  | cons y r ih =>
    cases k with
    | zero => simp [Ap]
    | succ k =>
      have e : Ap (y :: r) = .int .i64 y.1 :: .int .i64 y.2 :: Ap r := rfl
      have e2 : Ap (y :: r.take k) = .int .i64 y.1 :: .int .i64 y.2 :: Ap (r.take k) := rfl
      have e1 : (k + 1) * 2 = k * 2 + 1 + 1 := by omega
      rw [e, e1, List.take_succ_cons, List.take_succ_cons, List.take_succ_cons, e2, ih]
theorem Ap_drop (S : List (Int × Int)) (k : Nat) : Ap (S.drop k) = (Ap S).drop (k * 2) := by
  induction S generalizing k with
  | nil => simp [Ap]
  | cons y r ih =>
    cases k with
    | zero => simp
    | succ k =>
      have e : Ap (y :: r) = .int .i64 y.1 :: .int .i64 y.2 :: Ap r := rfl
      have e1 : (k + 1) * 2 = k * 2 + 1 + 1 := by omega
      rw [e, e1, List.drop_succ_cons, List.drop_succ_cons, List.drop_succ_cons, ih]
/-- block q is the reference's alarms S; u is its slice -/
structure FdAt (w : World) (q : Nat) (u : Value) (S : List (Int × Int)) : Prop where
  head : w.heap[q]? = some (.cells #[u] 32 (0, 0))
  row : Own w 40 2 u S.length (Ap S)
  apart : u.ownBlock ≠ some q
theorem FdAt.keep {S' : Nat → Prop} {w w' : World} {q : Nat} {u : Value} {S : List (Int × Int)} (h : FdAt w q u S) (hk : Kp S' w w') (hq : ¬ S' q) (hs : ∀ k, u.ownBlock = some k → ¬ S' k) : FdAt w' q u S :=
  ⟨hk.keep h.head hq, h.row.keep hk hs, h.apart⟩
/-- what a slice hands to an append, in whatever world is grown from w -/
structure Src (w : World) (ao : Option Addr) (m c : Nat) (xs : List Value) : Prop where
  none : ao = none → m = 0 ∧ c = 0
  len : xs.length = m * 2
  cell : ∀ w', Kp (fun _ => False) w w' → ∀ ad, ao = some ad → ∀ j u, xs[j]? = some u → w'.cell? (ad.add j) = some u
/-- append in a region that draws its order, whatever is appended -/
theorem step_append_src {P : Program} {w : World} {ops : Array Oper} {o : Oper} {a : Act} {K : Act → World → Prop} {Q : Exit → Act → World → Prop} {E : Prop} (hgd : o.guard = none) (s x : Operand) (t : TypeId)
    (ho : o.op = .call { callee := .builtin .append, args := #[s, x], argTypes := #[t, t] })
    (base : Nat) (e : TypeId) (i : TypeInfo) (z : Value) (size bytes : Nat) (ht : P.underlying t = some (.slice e)) (hi : P.info? e = some i) (hz : i.zero = some z)
    (hsize : i.size = size) (hby : i.bytes = bytes) (hzs : z.cells.size = size) (hsz : 0 < size)
    (v : Value) (n : Nat) (xs : List Value) (hs : a.eval s = v) (hown : w.ownsRow base e size v n xs)
    (ao : Option Addr) (m c : Nat) (news : List Value) (hx : a.eval x = .slice ao m c) (hnone : ao = none → m = 0 ∧ c = 0) (hl : news.length = m * size) (hnews : ∀ ad, ao = some ad → ∀ j u, news[j]? = some u → w.cell? (ad.add j) = some u) (h1 : ∀ u ∈ news, u.oneCell' = true)
    (h63 : n + m ≤ maxLen) (hbytes : (n + m) * bytes ≤ 140737488355328) (hbase : base ≤ w.heap.size)
    (h : ∀ v' w', w'.ownsRow base e size v' (n + m) (xs ++ news) → w.grownBy w' v.ownBlock → K (a.put o.dst v') w') :
    if Region.wanted o (yielded ops a.tmps) = true then Oper.wp P o a w K Q else E := by
  have hw : Region.wanted o (yielded ops a.tmps) = true := by simp [Region.wanted, hgd]
  rw [if_pos hw]
  cases ao with
  | none =>
    obtain ⟨rfl, rfl⟩ := hnone rfl
    have hnil : news = [] := List.eq_nil_of_length_eq_zero (by simpa using hl)
    subst hnil
    have hrun := run_append_owned_none (P := P) (w := w) base t o.type e i size ht hi v n xs hown
    unfold Oper.wp
    simp [execOp, ho, resolve, invoke, builtin, hs, hx, hrun, Result.andThen]
    exact h v w (by simpa using hown) ⟨rfl, rfl, rfl, Nat.le_refl _, fun _ _ _ => rfl⟩
  | some ad => exact wp_append_own w s x t ho base e i z size bytes ht hi hz hsize hby hzs hsz v n xs hs hown ad m c news hx hl (hnews ad rfl) h1 h63 hbytes hbase (fun v' w' a b _ => h v' w' a b)
theorem own_empty {w : World} {base b : Nat} {e : TypeId} {sz : Nat} (h : w.heap[b]? = some (.cells #[] e (0, 0))) (hb : base ≤ b) : w.ownsRow base e sz (.slice (some ⟨b, 0, none⟩) 0 0) 0 [] :=
  ⟨by simp, Or.inr ⟨b, 0, #[], rfl, hb, h, Nat.le_refl _, by unfold maxLen; omega, by simp, by simp⟩⟩
theorem kp_ownr {w w3 w5 : World} {v : Value} {e : TypeId} {sz n : Nat} {xs : List Value} (hk : Kp (fun _ => False) w w3) (ho : w3.ownsRow w.heap.size e sz v n xs) (hg : w3.grownBy w5 v.ownBlock) : Kp (fun _ => False) w w5 :=
  hk.trans_new (Kp.of_grown' hg) (fun k h1 h2 => by have := (World.ownsRow.lt ho k h2).1; omega)
/-- the parts of a slice of one's own -/
theorem src_take {w : World} {g cap k : Nat} {S : List (Int × Int)} (h : Own w 40 2 (.slice (some ⟨g, 0, none⟩) S.length cap) S.length (Ap S)) (hk : k ≤ S.length) : Src w (some ⟨g, 0, none⟩) k cap (Ap (S.take k)) := by
  refine ⟨(fun e => by cases e), by rw [Ap_len, List.length_take]; omega, fun w' hw ad e j u hu => ?_⟩
  cases e
  rw [Addr.add_lit, Nat.zero_add]
  have hb : g < w.heap.size := h.lt (by simp [Value.ownBlock])
  refine (hw.cell _ hb (fun h => h)).trans (h.cell ?_)
  rw [Ap_take, List.getElem?_take] at hu
  split at hu
  · exact hu
  · cases hu
theorem src_drop {w : World} {g cap k c : Nat} {S : List (Int × Int)} (h : Own w 40 2 (.slice (some ⟨g, 0, none⟩) S.length cap) S.length (Ap S)) (_hk : k ≤ S.length) : Src w (some ⟨g, k * 2, none⟩) (S.length - k) c (Ap (S.drop k)) := by
  refine ⟨(fun e => by cases e), by rw [Ap_len, List.length_drop], fun w' hw ad e j u hu => ?_⟩
  cases e
  rw [Addr.add_lit]
  have hb : g < w.heap.size := h.lt (by simp [Value.ownBlock])
  refine (hw.cell _ hb (fun h => h)).trans (h.cell ?_)
  rw [Ap_drop, List.getElem?_drop] at hu
  exact hu
theorem src_end {w : World} {ad : Addr} {k c : Nat} {S : List (Int × Int)} (hk : S.length ≤ k) : Src w (some ad) 0 c (Ap (S.drop k)) := by
  rw [List.drop_eq_nil_of_le hk]
  exact ⟨(fun e => by cases e), rfl, fun w' hw ad e j u hu => by simp [Ap] at hu⟩

/-- without the one at i -/
def CutP (i : Nat) (S : List (Int × Int)) : List (Int × Int) := S.take i ++ S.drop (i + 1)
theorem CutP_len {i : Nat} {S : List (Int × Int)} (hi : i < S.length) : (CutP i S).length = S.length - 1 := by unfold CutP; rw [List.length_append, List.length_take, List.length_drop]; omega
theorem kp_newr {w w3 : World} {o : Obj} (h : Kp (In (.slice (some ⟨w.heap.size, 0, none⟩) 0 0)) (w.alloc o) w3) : Kp (fun _ => False) w w3 :=
  ((Kp.refl _ w).alloc o).trans_new h (fun k h1 h2 => by
    have : w.heap.size = k := by simpa [In, Value.ownBlock] using h2
    omega)
theorem fnew_close {w w5 : World} {q m : Nat} {u v5 : Value} {S T : List (Int × Int)} (h : FdAt w q u S) (hlt : q < w.heap.size) (hm : m = T.length) (ho : w5.ownsRow w.heap.size 40 2 v5 m (Ap T)) (hk : Kp (fun _ => False) w w5) :
    (∃ u', FdAt (w5.setCell ⟨q, 0, none⟩ v5) q u' T ∧ ∀ k, u'.ownBlock = some k → w.heap.size ≤ k) ∧ Kp (· = q) w (w5.setCell ⟨q, 0, none⟩ v5) := by
  have hnew : ∀ k, v5.ownBlock = some k → w.heap.size ≤ k := fun k h => (World.ownsRow.lt ho k h).1
  refine ⟨⟨v5, ⟨heap_set (hk.keep h.head (fun h => h)) _, ?_, fun h => by have := hnew _ h; omega⟩, hnew⟩, (hk.mono (fun _ _ h => h.elim)).setCell _ _ (Or.inl rfl)⟩
  rw [← hm]
  exact Own.keep (own_weaken ho) ((Kp.refl (· = q) w5).setCell ⟨q, 0, none⟩ _ (Or.inl rfl)) (fun k hk' h => by have := hnew k hk'; have h3 : k = q := h; omega)
def Fcut (q : Nat) (S : List (Int × Int)) (r : Bool) (w : World) (e : Ending) (w' : World) : Prop := e = .returned (.bool r) ∧ (∃ u', FdAt w' q u' S ∧ ∀ k, u'.ownBlock = some k → w.heap.size ≤ k) ∧ Kp (· = q) w w'
set_option maxRecDepth 100000 in
set_option maxHeartbeats 1600000 in
theorem rdrop_at (q i : Nat) (u : Value) (S : List (Int × Int)) (id : Int) (w : World) (h : FdAt w q u S) (hi : i < S.length) (hid : (S.getD i default).1 = id) (hb : ∀ t, t < i → (S.getD t default).1 ≠ id) (hL : S.length ≤ 1000000) :
    Calls Try.prog 10 #[.pointer (some ⟨q, 0, none⟩), .int .i64 id] w (Fcut q (CutP i S) true w) := by
  rcases h.row.shape with ⟨_, h1, _⟩ | ⟨g, cap, rfl, hcap, hcm, hg⟩
  · omega
  have c0 := cell_of h.head 0
  simp only [List.getElem?_toArray, List.getElem?_cons_zero] at c0
  have f0 := frozen_of h.head 0
  have HH := Lib.hid h; have HB := Lib.hid hb; have HID := Lib.hid hid
  clear h hb hid
  obtain ⟨i0, hi0, hz0, hz1, hz2⟩ := info_parts al_info
  have hlt := lt_of_block HH.out.head
  go_enter Try.func10, Try.ntmps10
  go_wp2_with fail
  go_loopg [5] i (fun k x wr => ∃ j : Nat, k = i - j ∧ j ≤ i ∧ x = .int .i64 j ∧ wr = w)
  case atStart => exact ⟨0, rfl, Nat.zero_le _, rfl, rfl⟩
  case round =>
    obtain ⟨j, hk, hj, rfl, rfl⟩ := hrel
    have HKk := Lib.hid hk; clear hk
    obtain ⟨x, hx⟩ : ∃ x, S[j]? = some x := ⟨_, List.getElem?_eq_getElem (by omega)⟩
    have hgd : S.getD j default = x := by rw [List.getD_eq_getElem?_getD, hx]; rfl
    have cj : wr.cell? ⟨g, j * 2, none⟩ = some (.int .i64 x.1) := HH.out.row.cell (Ap_get hx).1
    obtain ⟨x1, x2⟩ := x
    have q1 : (0 : Int) ≤ (j : Int) := by omega
    have q2 : (j : Int) < (S.length : Int) := by omega
    have HX := Lib.hid hx; have HGD := Lib.hid hgd; clear hx hgd
    by_cases he : j = i
    · have hx1 : x1 = id := by have := HID.out; rw [← he, HGD.out] at this; exact this
      subst he hx1
      have HS1 := Lib.hid (src_take HH.out.row (k := j) (by omega))
      have hd0 := own_empty (base := wr.heap.size) (sz := 2) (heap_new (w := wr.drew) (.cells #[] 40)) (Nat.le_refl _)
      have HD0 := Lib.hid hd0; clear hd0
      have hw1 : IntKind.i64.wrap ((j : Int) + 1) = (j : Int) + 1 := IntWalk.i64_in _ (by omega)
      have p2 : (j : Int) ≤ (cap : Int) := by omega
      have p3 : (0 : Int) ≤ (j : Int) + 1 := by omega
      have p4 : (j : Int) + 1 ≤ (S.length : Int) := by omega
      have p5 : ((j : Int) + 1).toNat = j + 1 := by omega
      clear HX HGD HB HID
      by_cases hcc : cap = j + 1
      · subst hcc
        have hLl : S.length = j + 1 := by omega
        have HS2 := Lib.hid (src_end (w := wr) (ad := ⟨g, 0, none⟩) (k := j + 1) (c := 0) (S := S) (by omega))
        have HLl := Lib.hid hLl; clear hLl
        have p6 : (j : Int) ≤ (j : Int) + 1 := by omega
        go_wp2_with fail
        go_region_law (first | (refine step_append_src rfl _ _ 30 rfl wr.heap.size 40 i0 _ 2 16 Try.underlying30 hi0 hz0 hz1 hz2 rfl (by decide) _ 0 [] rfl HD0.out (some ⟨g, 0, none⟩) j (j + 1) (Ap (S.take j)) rfl HS1.out.none HS1.out.len (HS1.out.cell _ (by repeat (first | exact Kp.refl _ _ | apply Kp.drew | apply Kp.drewN | refine Kp.setCell ?_ _ _ (Or.inl rfl) | apply Kp.alloc))) (Ap_one _) (by unfold maxLen; omega) (by omega) (by simp) ?_; intro v3 w3 hown3 hg3; have hk3 : Kp (fun _ => False) wr w3 := (Kp.refl _ wr).drew.trans (kp_newr (w := wr.drew) (o := .cells #[] 40) (Kp.of_grown' (v := .slice (some ⟨wr.drew.heap.size, 0, none⟩) 0 0) hg3)); have k0 := (hk3.cell 0 hlt (fun h => h)).trans c0; have e0 := (hk3.frozen 0 hlt (fun h => h)).trans f0; have HO3 := Lib.hid hown3; have HK3 := Lib.hid hk3; clear hown3 hg3 hk3) | (refine step_append_src rfl _ _ 30 rfl wr.heap.size 40 i0 _ 2 16 Try.underlying30 hi0 hz0 hz1 hz2 rfl (by decide) _ _ _ rfl HO3.out (some ⟨g, 0, none⟩) 0 0 (Ap (S.drop (j + 1))) rfl HS2.out.none HS2.out.len (HS2.out.cell _ HK3.out) (Ap_one _) (by unfold maxLen; omega) (by omega) HK3.out.size ?_; intro v5 w5 hown5 hg5; have HK5 := Lib.hid (kp_ownr HK3.out HO3.out hg5); have HO5 := Lib.hid hown5; have k5 := (HK5.out.cell 0 hlt (fun h => h)).trans c0; have e5 := (HK5.out.frozen 0 hlt (fun h => h)).trans f0; obtain ⟨a5, c5, rfl⟩ := (own_weaken hown5).slice; clear hown5 hg5))
        all_goals
          go_wp2_with fail
          go_ret
          exact ⟨rfl, fnew_close (m := j + 0) HH.out hlt (by rw [CutP_len hi]; omega) (by have h := HO5.out; rw [List.nil_append, Nat.zero_add] at h; rw [show Ap (CutP j S) = Ap (S.take j) ++ Ap (S.drop (j + 1)) by unfold CutP; rw [Ap_app]]; exact h) HK5.out⟩
      have HS2 := Lib.hid (src_drop HH.out.row (k := j + 1) (c := cap - (j + 1)) (by omega))
      go_wp2_with fail
      go_region_law (first | (refine step_append_src rfl _ _ 30 rfl wr.heap.size 40 i0 _ 2 16 Try.underlying30 hi0 hz0 hz1 hz2 rfl (by decide) _ 0 [] rfl HD0.out (some ⟨g, 0, none⟩) j cap (Ap (S.take j)) rfl HS1.out.none HS1.out.len (HS1.out.cell _ (by repeat (first | exact Kp.refl _ _ | apply Kp.drew | apply Kp.drewN | refine Kp.setCell ?_ _ _ (Or.inl rfl) | apply Kp.alloc))) (Ap_one _) (by unfold maxLen; omega) (by omega) (by simp) ?_; intro v3 w3 hown3 hg3; have hk3 : Kp (fun _ => False) wr w3 := (Kp.refl _ wr).drew.trans (kp_newr (w := wr.drew) (o := .cells #[] 40) (Kp.of_grown' (v := .slice (some ⟨wr.drew.heap.size, 0, none⟩) 0 0) hg3)); have k0 := (hk3.cell 0 hlt (fun h => h)).trans c0; have e0 := (hk3.frozen 0 hlt (fun h => h)).trans f0; have HO3 := Lib.hid hown3; have HK3 := Lib.hid hk3; clear hown3 hg3 hk3) | (refine step_append_src rfl _ _ 30 rfl wr.heap.size 40 i0 _ 2 16 Try.underlying30 hi0 hz0 hz1 hz2 rfl (by decide) _ _ _ rfl HO3.out (some ⟨g, (j + 1) * 2, none⟩) (S.length - (j + 1)) (cap - (j + 1)) (Ap (S.drop (j + 1))) rfl HS2.out.none HS2.out.len (HS2.out.cell _ HK3.out) (Ap_one _) (by unfold maxLen; omega) (by omega) HK3.out.size ?_; intro v5 w5 hown5 hg5; have HK5 := Lib.hid (kp_ownr HK3.out HO3.out hg5); have HO5 := Lib.hid hown5; have k5 := (HK5.out.cell 0 hlt (fun h => h)).trans c0; have e5 := (HK5.out.frozen 0 hlt (fun h => h)).trans f0; obtain ⟨a5, c5, rfl⟩ := (own_weaken hown5).slice; clear hown5 hg5))
      all_goals
        go_wp2_with fail
        go_ret
        exact ⟨rfl, fnew_close (m := j + (S.length - (j + 1))) HH.out hlt (by rw [CutP_len hi]; omega) (by have h := HO5.out; rw [List.nil_append, Nat.zero_add] at h; rw [show Ap (CutP j S) = Ap (S.take j) ++ Ap (S.drop (j + 1)) by unfold CutP; rw [Ap_app]]; exact h) HK5.out⟩
    · have hx1 : ¬ x1 = id := by have := HB.out j (by omega); rw [HGD.out] at this; exact this
      go_wp2_with fail
      go_roundg (i - (j + 1))
      case measure => rw [HKk.out]; omega
      case rel => exact ⟨j + 1, rfl, by omega, by go_num, rfl⟩
end Go.Proofs.Ytjipppejcpokkaa
