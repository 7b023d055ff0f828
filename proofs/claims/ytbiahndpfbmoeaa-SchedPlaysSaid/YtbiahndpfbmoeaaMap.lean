/- Maps of one's own whose elements are any values of one cell, told as a list of keys and elements. No program. -/
import Derived.Test.YtbiahndpfbmoeaaMem
import Derived.Maps.OwnSet
import Derived.Maps.RangeWalk
namespace Go.Proofs.Ytbiahndpfbmoeaa
open Go.RowKit Go.Maps Go.ChangeMaps Go.MapKept Go.WideShapes
/-- how an element reads: as itself -/
def Rh (v : Value) : Option (DataW Value × List MemPlace) := some (.held v, [])
def Ms (M : List (Lit × Value)) : List (Lit × DataW Value) := M.map fun p => (p.1, .held p.2)
/-- block b is a map of these entries -/
def MapAt (w : World) (P : Program) (k : TypeId) (b n : Nat) (M : List (Lit × Value)) : Prop :=
  ∃ es, w.ownsMap P k Rh b n (.map es) ∧ es.Perm (Ms M)
section
variable {P : Program} {k : TypeId} {w : World} {b n : Nat} {M : List (Lit × Value)}
theorem MapAt.keep {S : Nat → Prop} {w' : World} (h : MapAt w P k b n M) (hk : Kp S w w') (hs : ¬ S b) : MapAt w' P k b n M := by
  obtain ⟨es, ⟨xs, clock, hb, r⟩, hp⟩ := h
  exact ⟨es, ⟨xs, clock, hk.keep hb hs, r⟩, hp⟩
theorem MapAt.lt (h : MapAt w P k b n M) : b < w.heap.size := by
  obtain ⟨es, ho, _⟩ := h; exact ho.lt
theorem MapAt.made (w : World) (P : Program) (k : TypeId) : MapAt (w.alloc (.map #[] 0)) P k w.heap.size 0 [] := ⟨[], World.ownsMap_made w P k Rh, List.Perm.refl _⟩
theorem MapAt.perm {M' : List (Lit × Value)} (h : MapAt w P k b n M) (hp : M.Perm M') : MapAt w P k b n M' := by
  obtain ⟨es, ho, hq⟩ := h
  exact ⟨es, ho, hq.trans (hp.map _)⟩
theorem MapAt.mono {n' : Nat} (h : MapAt w P k b n M) (hn : n ≤ n') : MapAt w P k b n' M := by
  obtain ⟨es, ho, hq⟩ := h
  exact ⟨es, ho.mono hn, hq⟩
/-- the bound as small as it may be -/
theorem MapAt.tight (h : MapAt w P k b n M) : MapAt w P k b M.length M := by
  obtain ⟨es, ⟨xs, clock, hb, F, hs, hD⟩, hq⟩ := h
  refine ⟨es, ⟨xs, clock, hb, F, ?_, hD⟩, hq⟩
  have h1 : es.length = xs.size := by
    simp only [DataW.map.injEq] at hD
    rw [hD, length_sorted]; simp
  have h2 := hq.length_eq
  simp [Ms] at h2
  omega
theorem MapAt.keyed (h : MapAt w P k b n M) (K : Keyed P k) : M.Pairwise (fun p q => p.1 ≠ q.1) ∧ ∀ p ∈ M, WideAt.IsKeyLit p.1 := by
  obtain ⟨es, ho, hq⟩ := h
  obtain ⟨es', he, h1, h2⟩ := ho.entries K
  cases he
  have h3 := (hq.pairwise_iff (fun {a b} (h : a.1 ≠ b.1) => h.symm)).1 h1
  have h4 : ∀ p ∈ Ms M, WideAt.IsKeyLit p.1 := fun p hp => h2 p (hq.mem_iff.2 hp)
  unfold Ms at h3 h4
  rw [List.pairwise_map] at h3
  exact ⟨h3, fun p hp => h4 _ (List.mem_map.2 ⟨p, hp, rfl⟩)⟩
theorem find_mem {es : List (Lit × DataW Value)} {kl : Lit} {d : DataW Value} (hpw : es.Pairwise (fun p q => p.1 ≠ q.1)) (hk : WideAt.IsKeyLit kl) (hm : (kl, d) ∈ es) : es.find? (fun p => p.1.sameKey kl) = some (kl, d) := by
  induction es with
  | nil => cases hm
  | cons a r ih =>
    obtain ⟨h1, h2⟩ := List.pairwise_cons.1 hpw
    rw [List.find?_cons]
    rcases List.mem_cons.1 hm with e | hm
    · subst e; simp [WideAt.sameKey_self hk]
    · have hne : a.1.sameKey kl = false := by
        cases hs : a.1.sameKey kl
        · rfl
        · exact absurd (WideAt.sameKey_eq hs) (h1 _ hm)
      rw [hne]
      exact ih h2 hm
theorem find_none {es : List (Lit × DataW Value)} {kl : Lit} (hm : ∀ p ∈ es, p.1 ≠ kl) : es.find? (fun p => p.1.sameKey kl) = none := by
  rw [List.find?_eq_none]
  intro p hp hs
  exact hm p hp (WideAt.sameKey_eq hs)
/-- 'v, ok := m[k]' and 'm[k]', there -/
theorem MapAt.look (h : MapAt w P k b n M) (K : Keyed P k) {t e : TypeId} (ht : P.underlying t = some (.map k e)) {z : Value} (hz : (zeroValue e).run P w = .ok z w) {key v : Value} {kl : Lit} (hkey : keyOf P k key = some kl) (hm : (kl, v) ∈ M) :
    (Instr.lookup t (.map (some b)) key true).run P w = .ok (.tuple #[v, .bool true]) w ∧ (Instr.lookup t (.map (some b)) key false).run P w = .ok v w := by
  obtain ⟨es, ho, hq⟩ := h
  obtain ⟨es', he, h1, h2⟩ := ho.entries K
  cases he
  have hin : (kl, DataW.held v) ∈ es := hq.mem_iff.2 (List.mem_map.2 ⟨_, hm, rfl⟩)
  have hf := find_mem h1 (K.key hkey) hin
  have hat : ∀ zd, (DataW.map es).atKey kl zd = .held v := fun zd => by simp only [DataW.atKey, hf]
  have hhas := Maps.has_true_of_atKey hat
  obtain ⟨v1, ps1, hr1, hv1⟩ := ho.look_ok K ht hz (zd := .held z) (zp := []) rfl hkey
  obtain ⟨v2, ps2, hr2, hv2⟩ := ho.lookup K ht hz (zd := .held z) (zp := []) rfl hkey
  rw [hat] at hv1 hv2
  simp only [Rh, Option.some.injEq, Prod.mk.injEq, DataW.held.injEq] at hv1 hv2
  rw [hr1, hr2, hhas, hv1.1, hv2.1]
  exact ⟨rfl, rfl⟩
/-- .. not there -/
theorem MapAt.miss (h : MapAt w P k b n M) (K : Keyed P k) {t e : TypeId} (ht : P.underlying t = some (.map k e)) {z : Value} (hz : (zeroValue e).run P w = .ok z w) {key : Value} {kl : Lit} (hkey : keyOf P k key = some kl) (hm : ∀ p ∈ M, p.1 ≠ kl) :
    (Instr.lookup t (.map (some b)) key true).run P w = .ok (.tuple #[z, .bool false]) w := by
  obtain ⟨es, ho, hq⟩ := h
  have hf := find_none (es := es) (kl := kl) (fun p hp => by
    have := hq.mem_iff.1 hp
    obtain ⟨q, hq', rfl⟩ := List.mem_map.1 this
    exact hm q hq')
  have hat : ∀ zd, (DataW.map es).atKey kl zd = zd := fun zd => by simp only [DataW.atKey, hf]
  have hhas := Maps.has_false_of_atKey hat
  obtain ⟨v1, ps1, hr1, hv1⟩ := ho.look_ok K ht hz (zd := .held z) (zp := []) rfl hkey
  rw [hat] at hv1
  simp only [Rh, Option.some.injEq, Prod.mk.injEq, DataW.held.injEq] at hv1
  rw [hr1, hhas, hv1.1]
theorem Ms_size {es : List (Lit × DataW Value)} (hq : es.Perm (Ms M)) : Maps.size (DataW.map es) = M.length := by
  have := hq.length_eq
  simpa [Maps.size, Ms] using this
theorem Kp.of_turned {w' : World} (h : w.mapTurned w' b) : Kp (· = b) w w' := by
  have hg := h.grown
  exact ⟨hg.os, hg.tape, hg.output, hg.size, fun i hi hne => hg.block i hi (fun e => hne (by cases e; rfl))⟩
theorem same_iff {a b : Lit} (hb : WideAt.IsKeyLit b) : a.sameKey b = true ↔ a = b := ⟨WideAt.sameKey_eq, fun e => by rw [e]; exact WideAt.sameKey_self hb⟩
theorem same_not {a b : Lit} (h : a ≠ b) : a.sameKey b = false := by
  cases hs : a.sameKey b
  · rfl
  · exact absurd (WideAt.sameKey_eq hs) h
theorem MapAt.put_new {D' : DataW Value} {es : List (Lit × DataW Value)} {kl : Lit} {v : Value} (hq : es.Perm (Ms M)) (hm : ∀ p ∈ M, p.1 ≠ kl) (hD : D' = (DataW.map es).put kl (.held v)) : ∃ es', D' = .map es' ∧ es'.Perm (Ms (M ++ [(kl, v)])) := by
  refine ⟨_, hD, ?_⟩
  refine (insert_perm _ _).trans ?_
  have : (es.filter fun p => !p.1.sameKey kl) = es := List.filter_eq_self.2 (fun p hp => by
    obtain ⟨q, hq', rfl⟩ := List.mem_map.1 (hq.mem_iff.1 hp)
    simp [same_not (hm q hq')])
  rw [this]
  unfold Ms
  rw [List.map_append]
  exact (List.Perm.cons _ hq).trans (List.perm_append_singleton _ _).symm
/-- 'm[k] = v', k not there yet: a run -/
theorem MapAt.put_run {t e : TypeId} (h : MapAt w P k b n M) (K : Keyed P k) (ht : P.underlying t = some (.map k e)) (hn : n < maxLen) {key val : Value} {kl : Lit} (hkey : keyOf P k key = some kl) (hnew : ∀ p ∈ M, p.1 ≠ kl) :
    ∃ w', (Instr.mapUpdate t (.map (some b)) key val).run P w = .ok () w' ∧ MapAt w' P k b (n + 1) (M ++ [(kl, val)]) ∧ Kp (· = b) w w' := by
  obtain ⟨es, ho, hq⟩ := h
  obtain ⟨w', hrun, h1, h2⟩ := ho.store K ht hn (d := .held val) (ps := []) (val := val) hkey rfl
  obtain ⟨es', hD, hq'⟩ := MapAt.put_new hq hnew rfl
  rw [hD] at h1
  exact ⟨w', hrun, ⟨es', h1, hq'⟩, Kp.of_turned h2⟩
theorem MapAt.del_key {es : List (Lit × DataW Value)} {kl : Lit} (hq : es.Perm (Ms M)) : ∃ es', (DataW.map es).del kl = .map es' ∧ es'.Perm (Ms (M.filter fun p => !p.1.sameKey kl)) := by
  refine ⟨_, rfl, ?_⟩
  have := hq.filter (fun p => !p.1.sameKey kl)
  unfold Ms at this ⊢
  rw [List.filter_map] at this
  exact this
end
section
variable {P : Program} (w : World) {ops : Array Oper} {rest : List Oper} {o : Oper} {a : Act} {Q : Exit → Act → World → Prop}
/-- 'm[k] = v', k not there yet -/
theorem wpList_put_new (hg : o.guard = none) (m x v : Operand) (t : TypeId) (hop : o.op = Op.mapUpdate t m x v)
    (k e : TypeId) (K : Keyed P k) (ht : P.underlying t = some (.map k e)) (b n : Nat) (M : List (Lit × Value))
    (hm : a.eval m = .map (some b)) (h : MapAt w P k b n M) (hn : n < maxLen) (key val : Value) (kl : Lit) (hx : a.eval x = key) (hv : a.eval v = val) (hkey : keyOf P k key = some kl) (hnew : ∀ p ∈ M, p.1 ≠ kl)
    (hK : ∀ w', MapAt w' P k b (n + 1) (M ++ [(kl, val)]) → Kp (· = b) w w' → wpList P ops Q rest (a.put o.dst undef) w') :
    wpList P ops Q (o :: rest) a w := by
  obtain ⟨es, ho, hq⟩ := h
  refine wpList_mapUpdate_in w hg m x v t hop k e K ht Rh b n (.map es) hm ho hn key val kl hx hv hkey (.held val) [] rfl (fun w' h1 h2 => ?_)
  obtain ⟨es', hD, hq'⟩ := MapAt.put_new hq hnew rfl
  rw [hD] at h1
  exact hK w' ⟨es', h1, hq'⟩ (Kp.of_turned h2)
/-- 'm[k] = v' in a region that draws its order, k not there yet -/
theorem step_put_new {E : Prop} {K' : Act → World → Prop} (hg : o.guard = none) (m x v : Operand) (t : TypeId) (hop : o.op = Op.mapUpdate t m x v)
    (k e : TypeId) (K : Keyed P k) (ht : P.underlying t = some (.map k e)) (b n : Nat) (M : List (Lit × Value))
    (hm : a.eval m = .map (some b)) (h : MapAt w P k b n M) (hn : n < maxLen) (key val : Value) (kl : Lit) (hx : a.eval x = key) (hv : a.eval v = val) (hkey : keyOf P k key = some kl) (hnew : ∀ p ∈ M, p.1 ≠ kl)
    (hK : ∀ w', MapAt w' P k b (n + 1) (M ++ [(kl, val)]) → Kp (· = b) w w' → K' (a.put o.dst undef) w') :
    if Region.wanted o (yielded ops a.tmps) = true then Oper.wp P o a w K' Q else E := by
  have hw : Region.wanted o (yielded ops a.tmps) = true := by simp [Region.wanted, hg]
  rw [if_pos hw]
  obtain ⟨es, ho, hq⟩ := h
  obtain ⟨w', hrun, h1, h2⟩ := ho.store K ht hn (d := .held val) (ps := []) (val := val) hkey rfl
  obtain ⟨es', hD, hq'⟩ := MapAt.put_new hq hnew rfl
  rw [hD] at h1
  unfold Oper.wp
  simp [execOp, hop, hm, hx, hv, hrun, Result.andThen]
  exact hK w' ⟨es', h1, hq'⟩ (Kp.of_turned h2)
/-- 'v, ok := m[k]', k not there -/
theorem wpList_miss (hg : o.guard = none) (m x : Operand) (t : TypeId) (hop : o.op = Op.lookup t m x true)
    (k e : TypeId) (K : Keyed P k) (ht : P.underlying t = some (.map k e)) {z : Value} (hz : (zeroValue e).run P w = .ok z w) (b n : Nat) (M : List (Lit × Value))
    (hm : a.eval m = .map (some b)) (h : MapAt w P k b n M) (key : Value) (kl : Lit) (hx : a.eval x = key) (hkey : keyOf P k key = some kl) (hnew : ∀ p ∈ M, p.1 ≠ kl)
    (hK : wpList P ops Q rest (a.put o.dst (.tuple #[z, .bool false])) w) :
    wpList P ops Q (o :: rest) a w := by
  have hr := h.miss K ht hz hkey hnew
  refine wpList_plain hg fun K' hK' => ?_
  unfold Oper.wp
  simp [execOp, hop, hm, hx, hr, Result.andThen]
  exact hK' _ _ hK
/-- 'v, ok := m[k]', k there -/
theorem wpList_look (hg : o.guard = none) (m x : Operand) (t : TypeId) (hop : o.op = Op.lookup t m x true)
    (k e : TypeId) (K : Keyed P k) (ht : P.underlying t = some (.map k e)) {z : Value} (hz : (zeroValue e).run P w = .ok z w) (b n : Nat) (M : List (Lit × Value))
    (hm : a.eval m = .map (some b)) (h : MapAt w P k b n M) (key : Value) (kl : Lit) (hx : a.eval x = key) (hkey : keyOf P k key = some kl) (v : Value) (hin : (kl, v) ∈ M)
    (hK : wpList P ops Q rest (a.put o.dst (.tuple #[v, .bool true])) w) :
    wpList P ops Q (o :: rest) a w := by
  have hr := (h.look K ht hz hkey hin).1
  refine wpList_plain hg fun K' hK' => ?_
  unfold Oper.wp
  simp [execOp, hop, hm, hx, hr, Result.andThen]
  exact hK' _ _ hK
/-- 'm[k]', k there -/
theorem wpList_look1 (hg : o.guard = none) (m x : Operand) (t : TypeId) (hop : o.op = Op.lookup t m x false)
    (k e : TypeId) (K : Keyed P k) (ht : P.underlying t = some (.map k e)) {z : Value} (hz : (zeroValue e).run P w = .ok z w) (b n : Nat) (M : List (Lit × Value))
    (hm : a.eval m = .map (some b)) (h : MapAt w P k b n M) (key : Value) (kl : Lit) (hx : a.eval x = key) (hkey : keyOf P k key = some kl) (v : Value) (hin : (kl, v) ∈ M)
    (hK : wpList P ops Q rest (a.put o.dst v) w) :
    wpList P ops Q (o :: rest) a w := by
  have hr := (h.look K ht hz hkey hin).2
  refine wpList_plain hg fun K' hK' => ?_
  unfold Oper.wp
  simp [execOp, hop, hm, hx, hr, Result.andThen]
  exact hK' _ _ hK
/-- 'delete(m, k)' -/
theorem wpList_del_key (hg : o.guard = none) (m x : Operand) (t k : TypeId) (hop : o.op = Op.call { callee := Callee.builtin Builtin.delete, args := #[m, x], argTypes := #[t, k] })
    (e : TypeId) (K : Keyed P k) (ht : P.underlying t = some (.map k e)) (b n : Nat) (M : List (Lit × Value))
    (hm : a.eval m = .map (some b)) (h : MapAt w P k b n M) (key : Value) (kl : Lit) (hx : a.eval x = key) (hkey : keyOf P k key = some kl)
    (hK : ∀ w', MapAt w' P k b n (M.filter fun p => !p.1.sameKey kl) → Kp (· = b) w w' → wpList P ops Q rest (a.put o.dst (.tuple #[])) w') :
    wpList P ops Q (o :: rest) a w := by
  obtain ⟨es, ho, hq⟩ := h
  refine wpList_delete_own w hg m x t k hop e K ht Rh b n (.map es) hm ho key kl hx hkey (fun w' h1 h2 => ?_)
  obtain ⟨es', hD, hq'⟩ := MapAt.del_key hq
  rw [hD] at h1
  exact hK w' ⟨es', h1, hq'⟩ (Kp.of_turned h2)
/-- 'len(m)' -/
theorem wpList_len_map (hg : o.guard = none) (m : Operand) (t : TypeId) (hop : o.op = Op.call { callee := Callee.builtin Builtin.len, args := #[m], argTypes := #[t] })
    (k e : TypeId) (ht : P.underlying t = some (.map k e)) (b n : Nat) (M : List (Lit × Value)) (hm : a.eval m = .map (some b)) (h : MapAt w P k b n M)
    (hK : wpList P ops Q rest (a.put o.dst (.int .i64 M.length)) w) :
    wpList P ops Q (o :: rest) a w := by
  obtain ⟨es, ho, hq⟩ := h
  refine wpList_len_own w hg m t hop k e ht Rh b n (.map es) hm ho ?_
  rw [Ms_size hq]
  exact hK
end
end Go.Proofs.Ytbiahndpfbmoeaa
