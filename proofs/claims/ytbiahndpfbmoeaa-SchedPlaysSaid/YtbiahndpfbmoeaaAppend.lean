/- 'append' on a row of the call's own, told precisely: the row's block stays, or is a new one. No program. -/
import Derived.Test.YtbiahndpfbmoeaaMem
import Derived.ArgAppend
import Derived.OwnWalk
import Derived.Laws.AppendOwnNone
namespace Go.Proofs.Ytbiahndpfbmoeaa
open Go.RowKit
/-- v, of n elements, owns the cells xs -/
def Own (w : World) (e : TypeId) (sz : Nat) (v : Value) (n : Nat) (xs : List Value) : Prop := w.ownsRow 0 e sz v n xs
/-- the row of v' is that of v, or a new one -/
def SameOrNew (w : World) (v v' : Value) : Prop := v'.ownBlock = v.ownBlock ∨ ∀ k, v'.ownBlock = some k → w.heap.size ≤ k
/-- the block in which v's cells lie -/
def In (v : Value) (k : Nat) : Prop := v.ownBlock = some k

theorem own_weaken {w : World} {B : Nat} {e : TypeId} {sz : Nat} {v : Value} {n : Nat} {xs : List Value} (h : w.ownsRow B e sz v n xs) : Own w e sz v n xs := by
  obtain ⟨h1, h2⟩ := h
  refine ⟨h1, ?_⟩
  rcases h2 with h2 | ⟨g, cap, cur, hv, hg, r⟩
  · exact Or.inl h2
  · exact Or.inr ⟨g, cap, cur, hv, Nat.zero_le _, r⟩
theorem Own.nil (w : World) (e : TypeId) (sz : Nat) : Own w e sz (.slice none 0 0) 0 [] := World.ownsRow_nil w 0 e sz
theorem Own.lt {w : World} {e : TypeId} {sz : Nat} {v : Value} {n : Nat} {xs : List Value} (h : Own w e sz v n xs) {k : Nat} (hk : v.ownBlock = some k) : k < w.heap.size := (World.ownsRow.lt h k hk).2
theorem Own.keep {S : Nat → Prop} {w w' : World} {e : TypeId} {sz : Nat} {v : Value} {n : Nat} {xs : List Value} (h : Own w e sz v n xs) (hk : Kp S w w') (hs : ∀ k, v.ownBlock = some k → ¬ S k) : Own w' e sz v n xs := by
  obtain ⟨h1, h2⟩ := h
  refine ⟨h1, ?_⟩
  rcases h2 with h2 | ⟨g, cap, cur, rfl, hg, hh, r⟩
  · exact Or.inl h2
  · refine Or.inr ⟨g, cap, cur, rfl, hg, ?_, r⟩
    rw [hk.block g (Array.getElem?_eq_some_iff.1 hh).1 (hs g (by simp [Value.ownBlock]))]
    exact hh
/-- what v is: nil, or the head of a block -/
theorem Own.shape {w : World} {e : TypeId} {sz : Nat} {v : Value} {n : Nat} {xs : List Value} (h : Own w e sz v n xs) :
    (v = .slice none 0 0 ∧ n = 0 ∧ xs = []) ∨ ∃ g cap, v = .slice (some ⟨g, 0, none⟩) n cap ∧ n ≤ cap ∧ cap ≤ 9223372036854775807 ∧ g < w.heap.size := by
  obtain ⟨h1, h2⟩ := h
  rcases h2 with ⟨rfl, rfl⟩ | ⟨g, cap, cur, rfl, _, hh, hn, hm, _⟩
  · exact Or.inl ⟨rfl, rfl, List.eq_nil_of_length_eq_zero (by simpa using h1)⟩
  · exact Or.inr ⟨g, cap, rfl, hn, hm, (Array.getElem?_eq_some_iff.1 hh).1⟩
theorem Own.slice {w : World} {e : TypeId} {sz : Nat} {v : Value} {n : Nat} {xs : List Value} (h : Own w e sz v n xs) : ∃ ao cap, v = .slice ao n cap := by
  rcases h.shape with ⟨rfl, rfl, _⟩ | ⟨g, cap, rfl, _⟩
  · exact ⟨none, 0, rfl⟩
  · exact ⟨_, cap, rfl⟩
theorem Own.cell {w : World} {e : TypeId} {sz g n cap : Nat} {xs : List Value} (h : Own w e sz (.slice (some ⟨g, 0, none⟩) n cap) n xs) {j : Nat} {u : Value} (hu : xs[j]? = some u) : w.cell? ⟨g, j, none⟩ = some u := by
  have hj : j < n * sz := by have := (List.getElem?_eq_some_iff.1 hu).1; rw [h.1] at this; exact this
  rw [World.ownsRow.cellAt h j hj, hu]
theorem Own.frozen {w : World} {e : TypeId} {sz g n cap : Nat} {xs : List Value} (h : Own w e sz (.slice (some ⟨g, 0, none⟩) n cap) n xs) (j : Nat) : w.frozen? ⟨g, j, none⟩ = false := World.ownsRow.frozenAt h j
theorem Own.alloc {w : World} {e : TypeId} {sz : Nat} {v : Value} {n : Nat} {xs : List Value} (h : Own w e sz v n xs) (o : Obj) : Own (w.alloc o) e sz v n xs := World.ownsRow.alloc h o
theorem SameOrNew.mono {w w1 : World} {v v' : Value} (h : SameOrNew w1 v v') (hs : w.heap.size ≤ w1.heap.size) : SameOrNew w v v' := h.imp id (fun h k hk => Nat.le_trans hs (h k hk))
theorem SameOrNew.trans {w w1 : World} {v v1 v2 : Value} (h : SameOrNew w v v1) (g : SameOrNew w1 v1 v2) (hs : w.heap.size ≤ w1.heap.size) : SameOrNew w v v2 := by
  rcases g with g | g
  · rcases h with h | h
    · exact Or.inl (g.trans h)
    · exact Or.inr fun k hk => h k (g ▸ hk)
  · exact Or.inr fun k hk => Nat.le_trans hs (g k hk)
theorem SameOrNew.inn {w : World} {v v1 : Value} (h : SameOrNew w v v1) {k : Nat} (hk : k < w.heap.size) (hi : In v1 k) : In v k := by
  rcases h with h | h
  · exact h.symm.trans hi
  · exact absurd (h k hi) (by omega)
theorem SameOrNew.of_lies {w w1 : World} {v : Value} {g n cap : Nat} (h : v.ownBlock = some g ∨ g = w1.heap.size) (hs : w.heap.size ≤ w1.heap.size) : SameOrNew w v (.slice (some ⟨g, 0, none⟩) n cap) := by
  rcases h with h | h
  · exact Or.inl h.symm
  · refine Or.inr fun k hk => ?_
    have : g = k := by simpa [Value.ownBlock] using hk
    omega
theorem SameOrNew.ne {w : World} {v v' : Value} (h : SameOrNew w v v') {k : Nat} (hk : k < w.heap.size) (hv : v.ownBlock ≠ some k) : v'.ownBlock ≠ some k := by
  intro h'
  rcases h with h | h
  · exact hv (h ▸ h')
  · exact absurd (h k h') (by omega)
theorem Kp.of_grown' {w w' : World} {v : Value} (h : w.grownBy w' v.ownBlock) : Kp (In v) w w' := ⟨h.os, h.tape, h.output, h.size, fun k hk hs => h.block k hk (fun e => hs e.symm)⟩

/-- a literal's cells, laid in a block of their own ahead of an append -/
theorem lit_news {w : World} {cs : List Value} {T : TypeId} : ∀ ad, some (⟨w.heap.size, 0, none⟩ : Addr) = some ad → ∀ j u, cs[j]? = some u → (w.alloc (.cells cs.toArray T)).cell? (ad.add j) = some u := by
  intro ad h j u hu
  cases h
  rw [Addr.add_lit, Nat.zero_add, World.cell?_alloc_new]
  simpa using hu
/-- a slice of its own, with these cells -/
def Cloned (e : TypeId) (sz : Nat) (m : Nat) (xs : List Value) (w : World) (en : Ending) (w' : World) : Prop := ∃ v, en = .returned v ∧ w'.ownsRow w.heap.size e sz v m xs ∧ Kp (fun _ => False) w w'
theorem clone_news {w : World} {a : Addr} {xs : List Value} (o : Obj) (hc : ∀ j u, xs[j]? = some u → w.cell? (a.add j) = some u) : ∀ j u, xs[j]? = some u → (w.alloc o).cell? (a.add j) = some u := by
  intro j u hu
  have h := hc j u hu
  refine (World.cell?_alloc_lt w o _ ?_).trans h
  unfold World.cell? at h
  split at h
  · rename_i c T fr hh
    exact (Array.getElem?_eq_some_iff.1 hh).1
  · cases h
/-- append, whatever is appended: nil, empty or not -/
theorem wpList_append_prec {P : Program} (w : World) {ops : Array Oper} {rest : List Oper} {o : Oper} {a : Act} {Q : Exit → Act → World → Prop} (hgd : o.guard = none) (s x : Operand) (t : TypeId)
    (ho : o.op = .call { callee := .builtin .append, args := #[s, x], argTypes := #[t, t] })
    (e : TypeId) (i : TypeInfo) (z : Value) (size bytes : Nat) (ht : P.underlying t = some (.slice e)) (hi : P.info? e = some i) (hz : i.zero = some z)
    (hsize : i.size = size) (hby : i.bytes = bytes) (hzs : z.cells.size = size) (hsz : 0 < size)
    (v : Value) (n : Nat) (xs : List Value) (hs : a.eval s = v) (hown : Own w e size v n xs)
    (ao : Option Addr) (m c : Nat) (news : List Value) (hx : a.eval x = .slice ao m c) (hnone : ao = none → m = 0 ∧ c = 0) (hl : news.length = m * size) (hnews : ∀ ad, ao = some ad → ∀ j u, news[j]? = some u → w.cell? (ad.add j) = some u) (h1 : ∀ u ∈ news, u.oneCell' = true)
    (h63 : n + m ≤ maxLen) (hbytes : (n + m) * bytes ≤ 140737488355328)
    (h : ∀ v' w', Own w' e size v' (n + m) (xs ++ news) → Kp (In v) w w' → SameOrNew w v v' → (v = .slice none 0 0 → m = 0 → v' = .slice none 0 0) → wpList P ops Q rest (a.put o.dst v') w') : wpList P ops Q (o :: rest) a w := by
  cases ao with
  | none =>
    obtain ⟨rfl, rfl⟩ := hnone rfl
    have hnil : news = [] := List.eq_nil_of_length_eq_zero (by simpa using hl)
    subst hnil
    exact wpList_append_own_none hgd s x t ho 0 e i size ht hi v n xs hs hown hx (h v w (by simpa using hown) (Kp.refl _ _) (Or.inl rfl) (fun hv _ => hv))
  | some ad =>
    have hnews := hnews ad rfl
    rcases hown.2 with ⟨rfl, rfl⟩ | ⟨g, cap, cur, rfl, hg, hh, hn, hm, r⟩
    · have hxs : xs = [] := List.eq_nil_of_length_eq_zero (by simpa using hown.1)
      subst hxs
      refine wpList_append_own w hgd s x t ho w.heap.size e i z size bytes ht hi hz hsize hby hzs hsz _ 0 [] hs (World.ownsRow_nil w _ e size) ad m c news hx hl hnews h1 h63 hbytes (Nat.le_refl _) (fun v' w' h2 h3 h4 => ?_)
      exact h v' w' (own_weaken h2) (Kp.of_grown' h3) (Or.inr fun k hk => (h2.lt k hk).1) (fun _ hm0 => h4.2 ⟨rfl, hm0⟩)
    · by_cases hfit : n + m ≤ cap
      · refine wpList_append_fits w hgd s x t ho 0 e i size ht hi hsize g n cap xs hs hown ad m c news hx hl hnews h1 hfit (fun w' h2 h3 => ?_)
        exact h _ w' h2 (Kp.of_grown' (v := .slice (some ⟨g, 0, none⟩) n cap) h3) (Or.inl rfl) (fun hv _ => by cases hv)
      · refine wpList_append_grows w hgd s x t ho e i z size bytes ht hi hz hsize hby hzs hsz (some ⟨g, 0, none⟩) n cap xs hs (fun hc => by cases hc) hown.1 (fun b hb j u hu => ?_) ad m c news hx hl hnews h1 (by omega) h63 hbytes (fun v' w' h2 h3 => ?_)
        · cases hb
          have hj : j < n * size := by have := (List.getElem?_eq_some_iff.1 hu).1; rw [hown.1] at this; exact this
          rw [Addr.add_lit, Nat.zero_add, World.ownsRow.cellAt hown j hj, hu]
        · exact h v' w' (own_weaken h2) ((Kp.of_grown h3).mono (fun k _ hk => by cases hk)) (Or.inr fun k hk => (h2.lt k hk).1) (fun hv _ => by cases hv)
end Go.Proofs.Ytbiahndpfbmoeaa
