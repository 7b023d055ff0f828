/- A region that draws its order, one of whose operations waits for all the others and may write what they read. No program. -/
import Derived.OrdersHeld
import Derived.Deep.RegionHeld3
namespace Go.Proofs.Ytbiahndpfbmoeaa

/-- a long list's cell: sixteen places a step (not by 'rfl': a proof that the kernel need not reckon) -/
theorem set16 {α : Type} {a0 a1 a2 a3 a4 a5 a6 a7 a8 a9 a10 a11 a12 a13 a14 a15 v : α} {l : List α} {n : Nat} : List.set (a0 :: a1 :: a2 :: a3 :: a4 :: a5 :: a6 :: a7 :: a8 :: a9 :: a10 :: a11 :: a12 :: a13 :: a14 :: a15 :: l) (n + 16) v = a0 :: a1 :: a2 :: a3 :: a4 :: a5 :: a6 :: a7 :: a8 :: a9 :: a10 :: a11 :: a12 :: a13 :: a14 :: a15 :: l.set n v := by cases l <;> rfl
theorem set1 {α : Type} {a v : α} {l : List α} {n : Nat} : List.set (a :: l) (n + 1) v = a :: l.set n v := by cases l <;> rfl
theorem set0 {α : Type} {a v : α} {l : List α} : List.set (a :: l) 0 v = v :: l := by cases l <;> rfl
section
variable {P : Program} {ops : Array Oper} {Q : Exit → Act → World → Prop} {md : Region.Mode} {S S' : World → Prop} {m : Nat}
/-- whatever order is drawn; behind every operation but number m S holds -/
def AnyE (P : Program) (md : Region.Mode) (ops : Array Oper) (Q : Exit → Act → World → Prop) (S : World → Prop) (m : Nat) : Nat → Array Bool → Act → World → Prop
  | 0, li, a, w => Region.ready md ops li = [] ∧ Q .normal a w
  | n + 1, li, a, w => (Region.ready md ops li = [] → Q .normal a w) ∧ ∀ j ∈ Region.ready md ops li, wpOp P ops Q j (fun b x => (j ≠ m → S x) ∧ AnyE P md ops Q S m n (li.setIfInBounds j true) b x) a w
theorem AnyE.any : ∀ (n : Nat) (li : Array Bool) (a : Act) (w : World), AnyE P md ops Q S m n li a w → wpAny P md ops Q n li a w
  | 0, _, _, _, h => h
  | n + 1, _, _, _, h => ⟨h.1, fun j hj => wpOp_mono (fun b x g => AnyE.any n _ b x g.2) (h.2 j hj)⟩
theorem AnyE.mono (hS : ∀ w, S' w → S w) : ∀ (n : Nat) (li : Array Bool) (a : Act) (w : World), AnyE P md ops Q S' m n li a w → AnyE P md ops Q S m n li a w
  | 0, _, _, _, h => h
  | n + 1, _, _, _, h => ⟨h.1, fun j hj => wpOp_mono (fun b x g => ⟨fun hne => hS _ (g.1 hne), AnyE.mono hS n _ b x g.2⟩) (h.2 j hj)⟩
/-- number m waits for number i -/
def waits (md : Region.Mode) (ops : Array Oper) (m i : Nat) : Bool := (ops[m]?).all fun o => o.after.any fun e => Region.binds md e && e.on == i
theorem waits_not {i : Nat} {li : Array Bool} (h : waits md ops m i = true) (hi : i ∈ Region.ready md ops li) : m ∉ Region.ready md ops li := by
  intro hm
  obtain ⟨_, o, ho, hall⟩ := mem_ready.1 hm
  obtain ⟨hu, oi, hoi, _⟩ := mem_ready.1 hi
  unfold waits at h
  rw [ho] at h
  simp only [Option.all_some, Array.any_eq_true, Bool.and_eq_true, beq_iff_eq] at h
  obtain ⟨x, hx, hb, e⟩ := h
  have h1 := hall _ (Array.getElem_mem hx) hb
  rw [e] at h1
  rcases Nat.lt_or_ge i li.size with h2 | h2
  · simp [h2] at h1 hu; rw [hu] at h1; cases h1
  · simp [Array.getElem?_eq_none h2] at h1
theorem AnyE.first {i : Nat} {oi : Oper} {v : Value} (hi : ops[i]? = some oi) (hsel : ∀ (j : Nat) (o : Oper) cs b, ops[j]? = some o → o.op ≠ .select cs b)
    (hQ : ∀ c a w, Q (.panic c) (a.put oi.dst v) w → Q (.panic c) a w) (hm : waits md ops m i = true) :
    ∀ (n : Nat) (li : Array Bool) (a : Act) (w : World),
      (∀ j oj, ops[j]? = some oj → j ≠ i → li.getD j true = false → (∀ e ∈ oj.after, Region.binds md e = true → e.on ≠ i) → oi.apart ops oj = true) →
      i ∈ Region.ready md ops li → YieldsIf P ops S oi v a → S w → AnyE P md ops Q S m n (li.setIfInBounds i true) (a.put oi.dst v) w → AnyE P md ops Q S m (n + 1) li a w := by
  intro n
  induction n with
  | zero =>
    intro li a w _ hr hy hS H
    refine ⟨fun e => absurd (e ▸ hr) (List.not_mem_nil), fun j hj => ?_⟩
    by_cases hji : j = i
    · subst hji
      exact hy.wpOp hi hS ⟨fun _ => hS, H⟩
    · have h1 := ready_mono hj hji
      rw [H.1] at h1
      cases h1
  | succ n ih =>
    intro li a w hf hr hy hS H
    refine ⟨fun e => absurd (e ▸ hr) (List.not_mem_nil), fun j hj => ?_⟩
    by_cases hji : j = i
    · subst hji
      exact hy.wpOp hi hS ⟨fun _ => hS, H⟩
    have hjm : j ≠ m := fun e => waits_not hm hr (e ▸ hj)
    obtain ⟨hju, oj, hoj, hall⟩ := mem_ready.1 hj
    have hiu := (mem_ready.1 hr).1
    have hne : ∀ e ∈ oj.after, Region.binds md e = true → e.on ≠ i := fun e he hb heq => by
      have h1 := hall e he hb
      rw [heq] at h1
      rcases Nat.lt_or_ge i li.size with h2 | h2
      · simp [h2] at h1 hiu; rw [hiu] at h1; cases h1
      · simp [Array.getElem?_eq_none h2] at h1
    have h2 := wpOp_putIf hoj (hf j oj hoj hji hju hne) (fun cs b => hsel i oi cs b hi) (fun cs b => hsel j oj cs b hoj) hQ hy (H.2 j (ready_mono hj hji))
    refine wpOp_mono (fun b x g => ⟨fun _ => g.2.1 hjm, ih _ b x (fun k ok hk hki hku hkn => ?_) (ready_mono hr (Ne.symm hji)) g.1 (g.2.1 hjm) ?_⟩) h2
    · by_cases hjk : j = k
      · subst hjk; exact hf _ ok hk hki hju hkn
      · rw [getD_set_ne true hjk] at hku
        exact hf k ok hk hki hku hkn
    · rw [Array.setIfInBounds_comm _ _ hji]
      exact g.2.2
theorem region_E {id : Nat} {a : Act} {w : World} (m : Nat) (S : World → Prop) (hm : P.follows .mixedOrders = true) (hS : S w.drew) (h : S w.drew → AnyE P .any ops Q S m ops.size (Array.replicate ops.size false) a w.drew) : (Code.region id ops true).wp P Q a w :=
  wp_region_any hm (AnyE.any _ _ _ _ (h hS))
theorem doneE {li : Array Bool} {a : Act} {w : World} (hr : Region.ready md ops li = []) (h : Q .normal a w) : ∀ n, AnyE P md ops Q S m n li a w
  | 0 => ⟨hr, h⟩
  | _ + 1 => ⟨fun _ => h, by rw [hr]; simp⟩
def AllE (P : Program) (md : Region.Mode) (ops : Array Oper) (Q : Exit → Act → World → Prop) (S : World → Prop) (m n : Nat) (li : Array Bool) (a : Act) (w : World) (rs : List Nat) : Prop :=
  ∀ j ∈ rs, wpOp P ops Q j (fun b x => (j ≠ m → S x) ∧ AnyE P md ops Q S m n (li.setIfInBounds j true) b x) a w
theorem nilE {n : Nat} {li : Array Bool} {a : Act} {w : World} : AllE P md ops Q S m n li a w [] := fun _ h => by cases h
theorem readyE {rs : List Nat} {n : Nat} {li : Array Bool} {a : Act} {w : World} (hr : Region.ready md ops li = rs) (hne : rs ≠ []) (h : AllE P md ops Q S m n li a w rs) : AnyE P md ops Q S m (n + 1) li a w :=
  ⟨fun h0 => absurd (hr ▸ h0) hne, hr ▸ h⟩
theorem keepE {n i : Nat} {li : Array Bool} {K : Act → World → Prop} {b : Act} {x : World} (hK : Shut (∀ b x, (i ≠ m → S x) → AnyE P md ops Q S m n li b x → K b x)) (hS : S x) (h : S x → AnyE P md ops Q S m n li b x) : K b x :=
  hK.out b x (fun _ => hS) (h hS)
theorem allocE {n i : Nat} {li : Array Bool} {K : Act → World → Prop} {b : Act} {x : World} {o : Obj} (hK : Shut (∀ b x, (i ≠ m → S x) → AnyE P md ops Q S m n li b x → K b x)) (hS : S (x.alloc o)) (h : ∀ x2, x2 = x.alloc o → S x2 → AnyE P md ops Q S m n li b x2) : K b (x.alloc o) :=
  hK.out b _ (fun _ => hS) (h _ rfl hS)
end
section
variable {P : Program} {l : List Oper} {Q : Exit → Act → World → Prop} {md : Region.Mode} {S : World → Prop} {m : Nat}
theorem takeE {i : Nat} {oi : Oper} {v : Value} {n : Nat} {li : Array Bool} {a : Act} {w : World} (hi : l[i]? = some oi)
    (hs : Region.noSelect l.toArray = true) (hf : Region.free md l.toArray li i = true) (hr : (Region.ready md l.toArray li).contains i = true) (hm : waits md l.toArray m i = true)
    (hQ : ∀ c a w, Q (.panic c) (a.put oi.dst v) w → Q (.panic c) a w) (hS : S w) (hy : YieldsIf P l.toArray S oi v a)
    (h : AnyE P md l.toArray Q S m n (li.setIfInBounds i true) (a.put oi.dst v) w) : AnyE P md l.toArray Q S m (n + 1) li a w :=
  AnyE.first (by simpa using hi) (Region.noSelect_spec hs) hQ hm n li a w (Region.free_spec (by simpa using hi) hf) (by simpa using hr) hy hS h
/-- operations that are not wanted, one behind the other -/
def skipOk (md : Region.Mode) (l : List Oper) (m : Nat) : List Nat → Array Bool → Bool
  | [], _ => true
  | i :: r, li => Region.free md l.toArray li i && ((Region.ready md l.toArray li).contains i && (waits md l.toArray m i && skipOk md l m r (li.setIfInBounds i true)))
def skipLi : List Nat → Array Bool → Array Bool
  | [], li => li
  | i :: r, li => skipLi r (li.setIfInBounds i true)
def skipAct : List (Option Tmp) → Act → Act
  | [], a => a
  | d :: r, a => skipAct r (a.put d undef)
def skipNot (l : List Oper) : List Nat → List (Option Tmp) → Act → Bool
  | i :: r, d :: e, a => (match l[i]? with | some o => !Region.wanted o (yielded l.toArray a.tmps) && decide (o.dst = d) | none => false) && skipNot l r e (a.put d undef)
  | [], [], _ => true
  | _, _, _ => false
theorem skipE (is : List Nat) (ds : List (Option Tmp)) (k : Nat) {n : Nat} {li : Array Bool} {a : Act} {w : World} (hk : is.length = k) (hs : Region.noSelect l.toArray = true) (hok : skipOk md l m is li = true) (hn : skipNot l is ds a = true)
    (hQ : ∀ c a d v w, Q (.panic c) (a.put d v) w → Q (.panic c) a w) (hS : S w) (h : AnyE P md l.toArray Q S m n (skipLi is li) (skipAct ds a) w) : AnyE P md l.toArray Q S m (n + k) li a w := by
  subst hk
  induction is generalizing ds li a with
  | nil =>
    cases ds with
    | nil => exact h
    | cons d r => cases hn
  | cons i r ih =>
    cases ds with
    | nil => cases hn
    | cons d e =>
      simp only [skipOk, Bool.and_eq_true] at hok
      obtain ⟨h1, h2, h3, h4⟩ := hok
      simp only [skipNot, Bool.and_eq_true] at hn
      obtain ⟨h5, h6⟩ := hn
      cases hi : l[i]? with
      | none => rw [hi] at h5; cases h5
      | some o =>
        rw [hi] at h5
        simp only [Bool.and_eq_true, Bool.not_eq_true', decide_eq_true_eq] at h5
        obtain ⟨h7, rfl⟩ := h5
        exact takeE (n := n + r.length) hi hs h1 h2 h3 (fun c a w => hQ c a _ _ w) hS (Or.inr ⟨h7, rfl⟩) (ih e h4 h6 h)
theorem consE {n : Nat} {li : Array Bool} {a : Act} {w : World} {i : Nat} {o : Oper} {rs : List Nat} (ho : l[i]? = some o)
    (h : ∀ K' : Act → World → Prop, Shut (∀ b x, (i ≠ m → S x) → AnyE P md l.toArray Q S m n (li.setIfInBounds i true) b x → K' b x) → if Region.wanted o (yielded l.toArray a.tmps) = true then Oper.wp P o a w K' Q else K' (a.put o.dst undef) w)
    (hs : AllE P md l.toArray Q S m n li a w rs) : AllE P md l.toArray Q S m n li a w (i :: rs) := fun j hj => by
  rcases List.mem_cons.1 hj with rfl | hj
  · exact wpOp_step (by simpa using ho) (fun K' hK => h K' (fun b x h1 h2 => hK b x ⟨h1, h2⟩))
  · exact hs j hj
end
end Go.Proofs.Ytbiahndpfbmoeaa
