/- What a scheduler's Put does. Conditions: its numbers are of int's range, no string is longer than a length may be, there are no more recipients than fit into memory. -/
import Derived.Test.YtbiahndpfbmoeaaSd5
namespace Go.Proofs.Ytbiahndpfbmoeaa
open Go.RowKit Go.Maps SatAid Go.MapKept Go.ChangeMaps Go.WideShapes

theorem wzero (w : World) : (zeroValue 96).run Try.prog w = .ok (.pointer none) w := by kernel_rfl
theorem rzero (w : World) : (zeroValue 23).run Try.prog w = .ok (.pointer none) w := by kernel_rfl
theorem wm_mem {s : Sd} {x : Wt} (hx : x ∈ s.Ws) : (Kx x.id x.rc, Value.pointer (some ⟨x.blk, 0, none⟩)) ∈ Wm s.Ws := List.mem_map.2 ⟨x, hx, rfl⟩
theorem wm_miss {w : World} {p N : Nat} {s : Sd} {id rc : Int} (h : SIn w p s N) (h1 : (Lit.int .i64 id).wf = true) (h2 : (Lit.int .i64 rc).wf = true) (hn : ∀ z ∈ s.Ws, (z.id, z.rc) ≠ (id, rc)) : ∀ q ∈ Wm s.Ws, q.1 ≠ Kx id rc := by
  intro q hq e
  obtain ⟨z, hz, rfl⟩ := List.mem_map.1 hq
  obtain ⟨a, b, _⟩ := h.wfs z hz
  obtain ⟨e1, e2⟩ := key_inj a b h1 h2 e
  exact hn z hz (by rw [e1, e2])
theorem sput_none (id rc n : Int) (a b : ByteArray) (w : World) : Calls Try.prog 25 #[.pointer none, .int .i64 id, .int .i64 rc, .string a, .string b, .int .i64 n] w fun e w' => e = .returned (.bool false) ∧ w = w' := by
  go_enter Try.func25, Try.ntmps25
  go_wp2
  go_ret
  exact ⟨rfl, rfl⟩
theorem sput_old (p N : Nat) (s : Sd) (x : Wt) (n : Int) (a b : ByteArray) (w : World) (h : SIn w p s N) (hx : x ∈ s.Ws) :
    Calls Try.prog 25 #[.pointer (some ⟨p, 0, none⟩), .int .i64 x.id, .int .i64 x.rc, .string a, .string b, .int .i64 n] w fun e w' => e = .returned (.bool false) ∧ Kp (fun _ => False) w w' := by
  have c13 : w.cell? ⟨p, 12, none⟩ = some (.map (some s.bm)) := (cell_of h.head 12).trans rfl
  have lp := lt_of_block h.head
  obtain ⟨h1, h2, _⟩ := h.wfs x hx
  have hk0 : Kp (fun _ => False) w (w.alloc (.cells #[.int .i64 x.id, .int .i64 x.rc] 95)) := (by repeat (first | exact Kp.refl _ _ | apply Kp.drew | apply Kp.drewN | refine Kp.setCell ?_ _ _ (Or.inl rfl) | apply Kp.alloc))
  have hlk := fun m => (MapAt.look (h.bym.keep (hk0.drewN m) (fun h => h)) key_keyed Try.underlying88 (wzero _) (key_lit h1 h2) (wm_mem hx)).1
  unfold Kv at hlk
  clear h1 h2
  go_enter Try.func25, Try.ntmps25
  go_wp2_with fail
  go_quiet (fail)
  go_wp2_with fail
  go_ret
  exact ⟨rfl, (by repeat (first | exact Kp.refl _ _ | apply Kp.drew | apply Kp.drewN | refine Kp.setCell ?_ _ _ (Or.inl rfl) | apply Kp.alloc))⟩

/-- a recipient, wherever it lies -/
structure Wx where
  id : Int
  rc : Int
  snd : ByteArray
  dom : ByteArray
  loc : Bool
  go : Bool
  nx : Int
/-- a scheduler but for its domains, wherever it lies -/
structure Ab where
  c : Cf
  W : List Wx
  A0 : List ByteArray
  A1 : List ByteArray
  G : List (Int × Int)
  last : Bool
def wx (x : Wt) : Wx := ⟨x.id, x.rc, x.snd, x.dom, x.loc, x.go, x.nx⟩
def ab (s : Sd) : Ab := ⟨s.c, s.Ws.map wx, s.A0, s.A1, s.G, s.last⟩
def Padd (x : ByteArray) (L : List ByteArray) : List ByteArray := if Has x L then L else L ++ [x]
def aPut (A : Ab) (x : Wx) : Ab := { A with W := A.W ++ [x], A0 := if x.loc then A.A0 else Padd x.snd A.A0, A1 := if x.loc then Padd x.snd A.A1 else A.A1 }
def Sput (p N : Nat) (s : Sd) (x : Wx) (w : World) (e : Ending) (w' : World) : Prop :=
  e = .returned (.bool true) ∧ ∃ s', SIn w' p s' (N + 1) ∧ St w w' s s' ∧ ab s' = aPut (ab s) x ∧ s'.Ps = s.Ps
/-- the ring of a transport -/
theorem SIn.add0 {w w' : World} {p N : Nat} {s : Sd} {a : ByteArray} {v' : Value} (h : SIn w p s N) (hx : Has a s.A0 = false) (hl : s.A0.length < N) (hr : RgAt w' s.r0 v' (s.A0 ++ [a])) (hs : SameOrNew w s.v0 v') (hk : Kp (fun k => k = s.r0 ∨ In s.v0 k) w w') :
    ∃ s', SIn w' p s' N ∧ St w w' s s' ∧ ab s' = { ab s with A0 := Padd a s.A0 } ∧ s'.Ps = s.Ps := by
  obtain ⟨h1, h2⟩ := h.setRing0 (Nat.le_refl _) hr hs hk (by simp; omega)
  exact ⟨_, h1, h2, by simp [ab, Padd, hx], rfl⟩
theorem SIn.add1 {w w' : World} {p N : Nat} {s : Sd} {a : ByteArray} {v' : Value} (h : SIn w p s N) (hx : Has a s.A1 = false) (hl : s.A1.length < N) (hr : RgAt w' s.r1 v' (s.A1 ++ [a])) (hs : SameOrNew w s.v1 v') (hk : Kp (fun k => k = s.r1 ∨ In s.v1 k) w w') :
    ∃ s', SIn w' p s' N ∧ St w w' s s' ∧ ab s' = { ab s with A1 := Padd a s.A1 } ∧ s'.Ps = s.Ps := by
  obtain ⟨h1, h2⟩ := h.setRing1 (Nat.le_refl _) hr hs hk (by simp; omega)
  exact ⟨_, h1, h2, by simp [ab, Padd, hx], rfl⟩
theorem ab_addW (s : Sd) (x : Wt) : ab (addW s x) = { ab s with W := (ab s).W ++ [wx x] } := by simp [ab, addW]

set_option maxRecDepth 100000 in
theorem sput_new (p N : Nat) (s : Sd) (id rc n : Int) (a b : ByteArray) (w : World) (h : SIn w p s N) (h1 : (Lit.int .i64 id).wf = true) (h2 : (Lit.int .i64 rc).wf = true) (hn : ∀ z ∈ s.Ws, (z.id, z.rc) ≠ (id, rc)) (hb : b.size ≤ maxLen) (hN : N ≤ 1000000) :
    Calls Try.prog 25 #[.pointer (some ⟨p, 0, none⟩), .int .i64 id, .int .i64 rc, .string a, .string b, .int .i64 n] w (Sput p N s ⟨id, rc, a, b, Has b s.c.L, false, C n⟩ w) := by
  have c2 : w.cell? ⟨p, 1, none⟩ = some s.c.lv := (cell_of h.head 1).trans rfl
  have c13 : w.cell? ⟨p, 12, none⟩ = some (.map (some s.bm)) := (cell_of h.head 12).trans rfl
  have c15 : w.cell? ⟨p, 14, none⟩ = some (.map (some s.br)) := (cell_of h.head 14).trans rfl
  obtain ⟨lo, lc, hlv⟩ := h.loc.slice
  have hsr := SRd.own h.loc hlv
  rw [hlv] at c2
  have lp := lt_of_block h.head
  have hk0 : Kp (fun _ => False) w (w.alloc (.cells #[.int .i64 id, .int .i64 rc] 95)) := (by repeat (first | exact Kp.refl _ _ | apply Kp.drew | apply Kp.drewN | refine Kp.setCell ?_ _ _ (Or.inl rfl) | apply Kp.alloc))
  have hlk := fun m => MapAt.miss (h.bym.keep (hk0.drewN m) (fun h => h)) key_keyed Try.underlying88 (wzero _) (key_lit h1 h2) (wm_miss h h1 h2 hn)
  unfold Kv at hlk
  have hll := h.ll
  have H := Lib.hid h; have HSR := Lib.hid hsr
  clear h hsr hlv
  go_enter Try.func25, Try.ntmps25
  go_wp2_with fail
  go_quiet (fail)
  go_wp2_with fail
  obtain ⟨wq, hq⟩ : ∃ wq, wq = (w.alloc (.cells #[.int .i64 id, .int .i64 rc] 95)).drewN nq := ⟨_, rfl⟩
  have hkq : Kp (fun _ => False) w wq := by rw [hq]; exact (by repeat (first | exact Kp.refl _ _ | apply Kp.drew | apply Kp.drewN | refine Kp.setCell ?_ _ _ (Or.inl rfl) | apply Kp.alloc))
  have hbq : wq.heap[w.heap.size]? = some (.cells #[.int .i64 id, .int .i64 rc] 95 (0, 0)) := by rw [hq]; exact heap_new _
  rw [← hq]
  clear hq hlk hk0 c2 c13 c15
  obtain ⟨kb, hkb⟩ : ∃ kb, kb = w.heap.size := ⟨_, rfl⟩
  rw [← hkb] at hbq ⊢
  have HKB := Lib.hid hkb; clear hkb
  have HQ := Lib.hid (H.out.keep hkq (fun _ _ h => h))
  have HKQ := Lib.hid hkq; have HBQ := Lib.hid hbq; clear hkq
  refine (scontains_any _ _ _ _ _ (HSR.out.keep HKQ.out (fun _ _ _ _ h => h)) (by omega)).mono ?_; rintro e w' ⟨rfl, rfl⟩
  obtain ⟨lo', hlo⟩ : ∃ l, l = Has b s.c.L := ⟨_, rfl⟩
  rw [← hlo]
  have HLO := Lib.hid hlo; clear hlo
  have c13 : wq.cell? ⟨p, 12, none⟩ = some (.map (some s.bm)) := (cell_of HQ.out.head 12).trans rfl
  have c15 : wq.cell? ⟨p, 14, none⟩ = some (.map (some s.br)) := (cell_of HQ.out.head 14).trans rfl
  have k0 := cell_of hbq 0
  have k1 := cell_of hbq 1
  simp only [List.getElem?_toArray, List.getElem?_cons_zero, List.getElem?_cons_succ] at k0 k1
  have lpq := lt_of_block HQ.out.head
  have lkq := lt_of_block hbq
  obtain ⟨x, hx⟩ : ∃ x : Wt, x = ⟨wq.heap.size, id, rc, a, b, lo', false, C n⟩ := ⟨_, rfl⟩
  have hkd : Kp (fun _ => False) wq (wq.alloc (.cells #[.int .i64 id, .int .i64 rc, .string a, .string b, .bool lo', .bool false, .int .i64 (C n)] 99)).drew := (by repeat (first | exact Kp.refl _ _ | apply Kp.drew | apply Kp.drewN | refine Kp.setCell ?_ _ _ (Or.inl rfl) | apply Kp.alloc))
  obtain ⟨w9, hr9, hm9, hk9, hs9⟩ := put_run2 (HQ.out.bym.keep hkd (fun h => h)) key_keyed Try.underlying88 (by have := H.out.lw; unfold maxLen; omega) (key_lit h1 h2) (val := .pointer (some ⟨wq.heap.size, 0, none⟩)) (wm_miss H.out h1 h2 hn)
  unfold Kv at hr9
  have hbl := H.out.lt s.bm (by rw [H.out.cols.bym]; rfl)
  have hpb : p ≠ s.bm := fun e => by have := H.out.cols.head; rw [e, H.out.cols.bym] at this; exact Nat.ne_of_beq_eq_false rfl (congrArg Prod.fst (Option.some.inj this))
  have hkq9 : Kp (· = s.bm) wq w9 := (hkd.mono (fun _ _ h => h.elim)).trans hk9
  have hkbm : kb ≠ s.bm := by have := HKB.out; omega
  have hS9 := Lib.hid (show w9.cell? ⟨p, 12, none⟩ = some (.map (some s.bm)) ∧ w9.cell? ⟨kb, 0, none⟩ = some (.int .i64 id) ∧ w9.cell? ⟨kb, 1, none⟩ = some (.int .i64 rc) from ⟨(hkq9.cell 12 lpq hpb).trans c13, (hkq9.cell 0 lkq hkbm).trans k0, (hkq9.cell 1 lkq hkbm).trans k1⟩)
  have HKQ9 := Lib.hid hkq9; clear hkq9
  have HM9 := Lib.hid hm9; have HK9 := Lib.hid hk9; have HN := Lib.hid hn; clear hm9 hk9 hn
  go_wp2_with fail
  go_region_held3 (fun w' => w'.cell? ⟨p, 12, none⟩ = some (.map (some s.bm)) ∧ w'.cell? ⟨kb, 0, none⟩ = some (.int .i64 id) ∧ w'.cell? ⟨kb, 1, none⟩ = some (.int .i64 rc)) (first | exact ⟨c13, k0, k1⟩ | exact ⟨(hkd.cell 12 lpq (fun h => h)).trans c13, (hkd.cell 0 lkq (fun h => h)).trans k0, (hkd.cell 1 lkq (fun h => h)).trans k1⟩ | exact hS9.out)
    (first | (go_at_call 47; refine (clamp_any _ _).mono ?_; rintro e w1 ⟨rfl, rfl⟩))
  have hb9 : w9.heap[wq.heap.size]? = some (.cells #[.int .i64 id, .int .i64 rc, .string a, .string b, .bool lo', .bool false, .int .i64 (C n)] 99 (0, 0)) := HK9.out.keep (heap_new (w := wq) _) (by have := HQ.out.lt s.bm (by rw [HQ.out.cols.bym]; rfl); omega)
  obtain ⟨hA, hAt⟩ := HQ.out.addWait (x := ⟨wq.heap.size, id, rc, a, b, lo', false, C n⟩) HKQ9.out hb ⟨h1, h2⟩ (Nat.le_refl _) HM9.out hb9
  have hAb := ab_addW s ⟨wq.heap.size, id, rc, a, b, lo', false, C n⟩
  have hAP : (addW s ⟨wq.heap.size, id, rc, a, b, lo', false, C n⟩).Ps = s.Ps := rfl
  have hA0 : (addW s ⟨wq.heap.size, id, rc, a, b, lo', false, C n⟩).A0 = s.A0 := rfl
  have hA1 : (addW s ⟨wq.heap.size, id, rc, a, b, lo', false, C n⟩).A1 = s.A1 := rfl
  have hl0 := H.out.l0; have hl1 := H.out.l1
  obtain ⟨s1, hs1⟩ : ∃ s1, s1 = addW s ⟨wq.heap.size, id, rc, a, b, lo', false, C n⟩ := ⟨_, rfl⟩
  rw [← hs1] at hA hAt hAb hAP hA0 hA1
  have HA := Lib.hid hA
  have HT := Lib.hid (St.trans (St.of (s' := s) HKQ.out (fun _ _ h => h.elim) rfl) hAt)
  have HAB := Lib.hid hAb; have HAP := Lib.hid hAP
  have d15 : w9.cell? ⟨p, 14, none⟩ = some (.map (some s1.br)) := (cell_of hA.head 14).trans rfl
  clear hA hAt hAb hAP c13 c15 k0 k1 hb9 hr9 hS9 hs1
  rw [← hA0] at hl0; rw [← hA1] at hl1
  cases lo' with
  | false =>
    cases hx : Has a s1.A0 with
    | false =>
      go_wp2_with (at_lookup; refine wpList_look1 _ rfl _ _ 90 rfl 4 23 bool_law Try.underlying90 (rzero _) _ _ _ rfl HA.out.rgm _ _ rfl (keyOf_bool_mk Try.underlying4 false) (.pointer (some ⟨s1.r0, 0, none⟩)) (by simp [Rm]) ?_)
      refine (radd_any (s1.r0) (s1.v0) (s1.A0) a _ HA.out.rg0 hx (by omega)).mono ?_; rintro e w3 ⟨rfl, ⟨v3, hr3, hs3⟩, hk3⟩
      obtain ⟨s2, g1, g2, g3, g4⟩ := HA.out.add0 hx (by omega) hr3 hs3 hk3
      have HG := Lib.hid (show Sput p N s ⟨id, rc, a, b, false, false, C n⟩ w (.returned (.bool true)) w3 from ⟨rfl, s2, g1, HT.out.trans g2, by rw [g3, HAB.out, hA0]; rfl, by rw [g4, HAP.out]⟩)
      clear g1 g2 g3 g4 hr3 hs3 hk3
      go_wp2_with fail
      go_ret
      rw [← HLO.out]
      exact HG.out
    | true =>
      go_wp2_with (at_lookup; refine wpList_look1 _ rfl _ _ 90 rfl 4 23 bool_law Try.underlying90 (rzero _) _ _ _ rfl HA.out.rgm _ _ rfl (keyOf_bool_mk Try.underlying4 false) (.pointer (some ⟨s1.r0, 0, none⟩)) (by simp [Rm]) ?_)
      refine (radd_no (s1.r0) (s1.v0) (s1.A0) a _ HA.out.rg0 hx (by omega)).mono ?_; rintro e w3 ⟨rfl, rfl⟩
      have HG := Lib.hid (show Sput p N s ⟨id, rc, a, b, false, false, C n⟩ w (.returned (.bool true)) w9 from ⟨rfl, s1, HA.out, HT.out, by rw [HAB.out]; simp [aPut, Padd, ab, ← hA0, hx, wx], by rw [HAP.out]⟩)
      go_wp2_with fail
      go_ret
      rw [← HLO.out]
      exact HG.out
  | true =>
    cases hx : Has a s1.A1 with
    | false =>
      go_wp2_with (at_lookup; refine wpList_look1 _ rfl _ _ 90 rfl 4 23 bool_law Try.underlying90 (rzero _) _ _ _ rfl HA.out.rgm _ _ rfl (keyOf_bool_mk Try.underlying4 true) (.pointer (some ⟨s1.r1, 0, none⟩)) (by simp [Rm]) ?_)
      refine (radd_any (s1.r1) (s1.v1) (s1.A1) a _ HA.out.rg1 hx (by omega)).mono ?_; rintro e w3 ⟨rfl, ⟨v3, hr3, hs3⟩, hk3⟩
      obtain ⟨s2, g1, g2, g3, g4⟩ := HA.out.add1 hx (by omega) hr3 hs3 hk3
      have HG := Lib.hid (show Sput p N s ⟨id, rc, a, b, true, false, C n⟩ w (.returned (.bool true)) w3 from ⟨rfl, s2, g1, HT.out.trans g2, by rw [g3, HAB.out, hA1]; rfl, by rw [g4, HAP.out]⟩)
      clear g1 g2 g3 g4 hr3 hs3 hk3
      go_wp2_with fail
      go_ret
      rw [← HLO.out]
      exact HG.out
    | true =>
      go_wp2_with (at_lookup; refine wpList_look1 _ rfl _ _ 90 rfl 4 23 bool_law Try.underlying90 (rzero _) _ _ _ rfl HA.out.rgm _ _ rfl (keyOf_bool_mk Try.underlying4 true) (.pointer (some ⟨s1.r1, 0, none⟩)) (by simp [Rm]) ?_)
      refine (radd_no (s1.r1) (s1.v1) (s1.A1) a _ HA.out.rg1 hx (by omega)).mono ?_; rintro e w3 ⟨rfl, rfl⟩
      have HG := Lib.hid (show Sput p N s ⟨id, rc, a, b, true, false, C n⟩ w (.returned (.bool true)) w9 from ⟨rfl, s1, HA.out, HT.out, by rw [HAB.out]; simp [aPut, Padd, ab, ← hA1, hx, wx], by rw [HAP.out]⟩)
      go_wp2_with fail
      go_ret
      rw [← HLO.out]
      exact HG.out
theorem sput_any (p N : Nat) (s : Sd) (id rc n : Int) (a b : ByteArray) (w : World) (h : SIn w p s N) (h1 : (Lit.int .i64 id).wf = true) (h2 : (Lit.int .i64 rc).wf = true) (hb : b.size ≤ maxLen) (hN : N ≤ 1000000) :
    Calls Try.prog 25 #[.pointer (some ⟨p, 0, none⟩), .int .i64 id, .int .i64 rc, .string a, .string b, .int .i64 n] w fun e w' =>
      ((∃ x ∈ (ab s).W, (x.id, x.rc) = (id, rc)) → e = .returned (.bool false) ∧ Kp (fun _ => False) w w') ∧ ((¬ ∃ x ∈ (ab s).W, (x.id, x.rc) = (id, rc)) → Sput p N s ⟨id, rc, a, b, Has b s.c.L, false, C n⟩ w e w') := by
  by_cases hx : ∃ x ∈ s.Ws, (x.id, x.rc) = (id, rc)
  · obtain ⟨x, hx, e⟩ := hx
    simp only [Prod.mk.injEq] at e
    obtain ⟨rfl, rfl⟩ := e
    refine (sput_old p N s x n a b w h hx).mono ?_
    rintro e w' ⟨rfl, hk⟩
    exact ⟨fun _ => ⟨rfl, hk⟩, fun hno => absurd ⟨wx x, List.mem_map.2 ⟨x, hx, rfl⟩, rfl⟩ hno⟩
  · refine (sput_new p N s id rc n a b w h h1 h2 (fun z hz e => hx ⟨z, hz, e⟩) hb hN).mono ?_
    intro e w' hq
    exact ⟨fun ⟨x, hx', e⟩ => by obtain ⟨z, hz, rfl⟩ := List.mem_map.1 hx'; exact absurd ⟨z, hz, e⟩ hx, fun _ => hq⟩
end Go.Proofs.Ytbiahndpfbmoeaa

/- What a scheduler's gone does. Condition: what goes is not on its way. -/
namespace Go.Proofs.Ytbiahndpfbmoeaa
open Go.RowKit Go.Maps SatAid Go.MapKept Go.ChangeMaps Go.WideShapes

theorem col_neq {c d : Nat × (Int × Int) × ByteArray} {f : Nat → Option (Nat × (Int × Int) × ByteArray)} {a b : Nat} (h1 : f a = some c) (h2 : f b = some d) (hne : Nat.beq c.1 d.1 = false) : a ≠ b := fun e => by
  rw [e, h2] at h1
  exact Nat.ne_of_beq_eq_false hne (congrArg Prod.fst (Option.some.inj h1)).symm
/-- 'delete(m, k)' in a region that draws its order -/
theorem step_del_key {P : Program} {w : World} {ops : Array Oper} {o : Oper} {a : Act} {K' : Act → World → Prop} {Q : Exit → Act → World → Prop} {E : Prop} (hg : o.guard = none) (m x : Operand) (t k : TypeId) (hop : o.op = Op.call { callee := Callee.builtin Builtin.delete, args := #[m, x], argTypes := #[t, k] })
    (e : TypeId) (K : Keyed P k) (ht : P.underlying t = some (.map k e)) (b n : Nat) (M : List (Lit × Value))
    (hm : a.eval m = .map (some b)) (h : MapAt w P k b n M) (key : Value) (kl : Lit) (hx : a.eval x = key) (hkey : keyOf P k key = some kl)
    (hK : ∀ w', MapAt w' P k b n (M.filter fun p => !p.1.sameKey kl) → Kp (· = b) w w' → K' (a.put o.dst (.tuple #[])) w') :
    if Region.wanted o (yielded ops a.tmps) = true then Oper.wp P o a w K' Q else E := by
  have hw : Region.wanted o (yielded ops a.tmps) = true := by simp [Region.wanted, hg]
  rw [if_pos hw]
  obtain ⟨es, ho, hq⟩ := h
  obtain ⟨w', hrun, h1, h2⟩ := ho.drop K ht hkey o.type
  obtain ⟨es', hD, hq'⟩ := MapAt.del_key hq
  rw [hD] at h1
  unfold Oper.wp
  simp [execOp, hop, resolve, invoke, builtin, hm, hx, hrun, Result.andThen]
  exact hK w' ⟨es', h1, hq'⟩ (Kp.of_turned h2)
def Pdrop (x : ByteArray) (L : List ByteArray) : List ByteArray := if Has x L then Cut (Ix x L) L else L
def aDel (A : Ab) (k : Int × Int) : Ab := { A with W := A.W.filter fun z => !decide ((z.id, z.rc) = k) }
def aLast (A : Ab) (x : Wx) : Bool := A.W.all fun z => !(decide (z.snd = x.snd) && decide (z.loc = x.loc))
def aGone (A : Ab) (x : Wx) : Ab :=
  let B := aDel A (x.id, x.rc)
  if aLast B x then { B with A0 := if x.loc then B.A0 else Pdrop x.snd B.A0, A1 := if x.loc then Pdrop x.snd B.A1 else B.A1 } else B
theorem ab_delW (s : Sd) (k : Int × Int) : ab (delW s k) = aDel (ab s) k := by
  unfold ab delW aDel
  simp only [List.filter_map]
  rfl
def Sgone (p N : Nat) (s : Sd) (x : Wx) (b : Nat) (cs : Array Value) (w : World) (e : Ending) (w' : World) : Prop :=
  e = .returned (.tuple #[]) ∧ w'.heap[b]? = some (.cells cs 99 (0, 0)) ∧ ∃ s', SIn w' p s' N ∧ St w w' s s' ∧ ab s' = aGone (ab s) x ∧ s'.Ps = s.Ps
theorem entry_mem {es : List (Lit × DataW Value)} {M : List (Lit × Value)} {kl : Lit} {c : Value} (hq : es.Perm (Ms M)) (hat : ∀ zd, (DataW.map es).atKey kl zd = .held c) : (kl, c) ∈ M := by
  cases hf : es.find? (fun p => p.1.sameKey kl) with
  | none =>
    have h1 := hat (.held (.bool true))
    have h2 := hat (.held (.bool false))
    simp only [DataW.atKey, hf] at h1 h2
    rw [← h2] at h1
    simp at h1
  | some q =>
    have h1 := hat (.held (.bool true))
    simp only [DataW.atKey, hf] at h1
    have h2 := List.find?_some hf
    have h3 := List.mem_of_find?_eq_some hf
    obtain ⟨u, hu, e⟩ := List.mem_map.1 (hq.mem_iff.1 h3)
    have e1 : q.1 = kl := WideAt.sameKey_eq h2
    subst e
    simp only [DataW.held.injEq] at h1
    simp only at e1
    rw [← e1, ← h1]
    exact hu
theorem has_of_mem {es : List (Lit × DataW Value)} {kl : Lit} {d : DataW Value} (h : (kl, d) ∈ es) (hk : WideAt.IsKeyLit kl) : Maps.has (DataW.map es) kl = true := by
  simp only [Maps.has]
  exact List.any_eq_true.2 ⟨_, h, WideAt.sameKey_self hk⟩
theorem last_all {s : Sd} {x : Wt} (h : ∀ z ∈ s.Ws, ¬ (z.snd = x.snd ∧ z.loc = x.loc)) : aLast (ab s) (wx x) = true := by
  unfold aLast ab
  rw [List.all_eq_true]
  intro z hz
  obtain ⟨u, hu, rfl⟩ := List.mem_map.1 hz
  have := h u hu
  simp only [wx, Bool.not_eq_true', Bool.and_eq_false_iff]
  by_cases e : u.snd = x.snd
  · exact Or.inr (decide_eq_false (fun e2 => this ⟨e, e2⟩))
  · exact Or.inl (decide_eq_false e)
theorem last_any {s : Sd} {x : Wt} (h : ∃ z ∈ s.Ws, z.snd = x.snd ∧ z.loc = x.loc) : aLast (ab s) (wx x) = false := by
  obtain ⟨z, hz, e1, e2⟩ := h
  unfold aLast ab
  rw [List.all_eq_false]
  exact ⟨wx z, List.mem_map.2 ⟨z, hz, rfl⟩, by simp [wx, e1, e2]⟩
theorem gone_stay {A : Ab} {x : Wx} (h : aLast (aDel A (x.id, x.rc)) x = false) : aGone A x = aDel A (x.id, x.rc) := by
  unfold aGone; simp only [h]; rfl
theorem gone_no0 {s : Sd} {x : Wt} (hl : x.loc = false) (h : aLast (aDel (ab s) (x.id, x.rc)) (wx x) = true) (hh : Has x.snd (aDel (ab s) (x.id, x.rc)).A0 = false) : aGone (ab s) (wx x) = aDel (ab s) (x.id, x.rc) := by
  unfold aGone
  simp only [show (wx x).id = x.id from rfl, show (wx x).rc = x.rc from rfl, show (wx x).loc = x.loc from rfl, show (wx x).snd = x.snd from rfl, h, hl, Pdrop, hh]
  rfl
theorem gone_no1 {s : Sd} {x : Wt} (hl : x.loc = true) (h : aLast (aDel (ab s) (x.id, x.rc)) (wx x) = true) (hh : Has x.snd (aDel (ab s) (x.id, x.rc)).A1 = false) : aGone (ab s) (wx x) = aDel (ab s) (x.id, x.rc) := by
  unfold aGone
  simp only [show (wx x).id = x.id from rfl, show (wx x).rc = x.rc from rfl, show (wx x).loc = x.loc from rfl, show (wx x).snd = x.snd from rfl, h, hl, Pdrop, hh]
  rfl
theorem gone_yes0 {s : Sd} {x : Wt} (hl : x.loc = false) (h : aLast (aDel (ab s) (x.id, x.rc)) (wx x) = true) (hh : Has x.snd (aDel (ab s) (x.id, x.rc)).A0 = true) : aGone (ab s) (wx x) = { aDel (ab s) (x.id, x.rc) with A0 := Cut (Ix x.snd (aDel (ab s) (x.id, x.rc)).A0) (aDel (ab s) (x.id, x.rc)).A0 } := by
  unfold aGone
  simp only [show (wx x).id = x.id from rfl, show (wx x).rc = x.rc from rfl, show (wx x).loc = x.loc from rfl, show (wx x).snd = x.snd from rfl, h, hl, Pdrop, hh]
  rfl
theorem gone_yes1 {s : Sd} {x : Wt} (hl : x.loc = true) (h : aLast (aDel (ab s) (x.id, x.rc)) (wx x) = true) (hh : Has x.snd (aDel (ab s) (x.id, x.rc)).A1 = true) : aGone (ab s) (wx x) = { aDel (ab s) (x.id, x.rc) with A1 := Cut (Ix x.snd (aDel (ab s) (x.id, x.rc)).A1) (aDel (ab s) (x.id, x.rc)).A1 } := by
  unfold aGone
  simp only [show (wx x).id = x.id from rfl, show (wx x).rc = x.rc from rfl, show (wx x).loc = x.loc from rfl, show (wx x).snd = x.snd from rfl, h, hl, Pdrop, hh]
  rfl
theorem ranges_keep {H : Type} {P : Program} {k : TypeId} {R : Value → Option (DataW H × List MemPlace)} {w w' : World} {b r n : Nat} {D : DataW H} {left : Lit → Bool} {cnt : Nat} {S : Nat → Prop} (h : w.ranges P k R b r n D left cnt) (hk : Kp S w w') (hb : ¬ S b) (hr : ¬ S r) : w'.ranges P k R b r n D left cnt := by
  obtain ⟨es, clock, since, seen, c0, hb', F, hs, hD, hr', rest⟩ := h
  exact ⟨es, clock, since, seen, c0, hk.keep hb' hb, F, hs, hD, hk.keep hr' hr, rest⟩
set_option maxRecDepth 100000 in
set_option maxHeartbeats 3200000 in
theorem sgone_any (p N : Nat) (s : Sd) (x : Wt) (w : World) (h : SIn w p s N) (hx : x ∈ s.Ws) (hg : (x.id, x.rc) ∉ s.G) (hN : N ≤ 1000000) :
    Calls Try.prog 50 #[.pointer (some ⟨p, 0, none⟩), .pointer (some ⟨x.blk, 0, none⟩)] w (Sgone p N s (wx x) x.blk (Wc x) w) := by
  have c13 : w.cell? ⟨p, 12, none⟩ = some (.map (some s.bm)) := (cell_of h.head 12).trans rfl
  have x0 : w.cell? ⟨x.blk, 0, none⟩ = some (.int .i64 x.id) := (cell_of (h.wts x hx) 0).trans rfl
  have x1 : w.cell? ⟨x.blk, 1, none⟩ = some (.int .i64 x.rc) := (cell_of (h.wts x hx) 1).trans rfl
  have lp := lt_of_block h.head
  have lx := lt_of_block (h.wts x hx)
  have hpb : p ≠ s.bm := fun e => by have := h.cols.head; rw [e, h.cols.bym] at this; exact Nat.ne_of_beq_eq_false rfl (congrArg Prod.fst (Option.some.inj this))
  have hxb : x.blk ≠ s.bm := fun e => by have := h.cols.wts x hx; rw [e, h.cols.bym] at this; exact Nat.ne_of_beq_eq_false rfl (congrArg Prod.fst (Option.some.inj this))
  have hkey := key_lit (h.wfs x hx).1 (h.wfs x hx).2.1
  unfold Kv at hkey
  have H := Lib.hid h; have HX := Lib.hid hx; have HG := Lib.hid hg; have HKEY := Lib.hid hkey
  clear h hx hg hkey
  go_enter Try.func50, Try.ntmps50
  go_wp2_with fail
  go_region_held3 (fun w' => w'.cell? ⟨p, 12, none⟩ = some (.map (some s.bm)) ∧ w'.cell? ⟨x.blk, 0, none⟩ = some (.int .i64 x.id) ∧ w'.cell? ⟨x.blk, 1, none⟩ = some (.int .i64 x.rc)) (first | exact ⟨c13, x0, x1⟩ | exact ⟨(hk1.cell 12 lp hpb).trans c13, (hk1.cell 0 lx hxb).trans x0, (hk1.cell 1 lx hxb).trans x1⟩)
    (first | (refine step_del_key rfl _ _ 88 95 rfl 96 key_keyed Try.underlying88 s.bm _ _ rfl (H.out.bym.keep (Kp.refl (fun _ => False) w).drew (fun h => h)) _ _ rfl HKEY.out ?_; intro w1 hm1 hk10; have hk1 := (Kp.refl (· = s.bm) w).drew.trans hk10))
  obtain ⟨g1, g2⟩ := H.out.delWait HX.out HG.out hk1 hm1
  have HX1 := Lib.hid (hk1.keep (H.out.wts x HX.out) hxb)
  have HA1 := Lib.hid (ab_delW s (x.id, x.rc))
  obtain ⟨s1, hs1⟩ : ∃ s1, s1 = delW s (x.id, x.rc) := ⟨_, rfl⟩
  have HP1 := Lib.hid (show s1.Ps = s.Ps by rw [hs1]; rfl)
  have HCX := Lib.hid (show s1.col x.blk = some (cWait (x.id, x.rc)) by rw [hs1]; exact H.out.cols.wts x HX.out)
  have HBM := Lib.hid (show s1.bm = s.bm by rw [hs1]; rfl)
  rw [← hs1] at g1 g2 HA1
  have H1 := Lib.hid g1; have HT1 := Lib.hid g2
  clear hs1 hk10 c13 x0 x1
  have c13 : w1.cell? ⟨p, 12, none⟩ = some (.map (some s1.bm)) := (cell_of g1.head 12).trans rfl
  clear hm1 hk1 g1 g2
  obtain ⟨es, ho, hq⟩ := H1.out.bym
  rw [HBM.out] at ho c13
  have HQ := Lib.hid hq; clear hq
  go_wp2_with (at_range; refine wpList_range_own _ rfl _ 88 rfl 95 96 key_keyed Try.underlying88 _ s.bm _ _ rfl ho ?_; intro w2 hrg2 hg2 hs2)
  have HK2 := Lib.hid (show Kp (fun _ => False) w1 w2 from (Kp.of_grown hg2).mono (fun _ _ h => by cases h))
  have HRG := Lib.hid hrg2
  clear hrg2 hg2 c13 ho
  obtain ⟨it, hit⟩ : ∃ it, it = w1.heap.size := ⟨_, rfl⟩
  rw [← hit] at HRG ⊢
  have HIT := Lib.hid hit; clear hit
  go_wp2_with fail
  go_frame
  go_loopg [5] (Maps.size (DataW.map es)) (fun k _ wr => ∃ (left : Lit → Bool), wr.ranges Try.prog 95 Rh s.bm it s1.Ws.length (.map es) left k ∧ Kp (fun _ => False) w1 wr ∧ ∀ z ∈ s1.Ws, left (Kx z.id z.rc) = false → ¬ (z.snd = x.snd ∧ z.loc = x.loc))
  case atStart => exact ⟨_, HRG.out, HK2.out, fun z hz e => by
    have hin : ((Kx z.id z.rc), DataW.held (Value.pointer (some ⟨z.blk, 0, none⟩))) ∈ es := HQ.out.mem_iff.2 (List.mem_map.2 ⟨_, wm_mem hz, rfl⟩)
    rw [has_of_mem hin ((H1.out.bym.keyed key_keyed).2 _ (wm_mem hz))] at e
    cases e⟩
  case round =>
    obtain ⟨left, hrg, hkr, hdone⟩ := hrel
    have HRGr := Lib.hid hrg; have HKR := Lib.hid hkr; have HD := Lib.hid hdone; clear hrg hkr hdone
    go_wp2_with (at_next; refine wpList_next_ranges (α := Value) (β := Value) _ rfl _ rfl 95 key_keyed Rh id id (fun key kl _ => ⟨key, rfl⟩) (fun v y _ => ⟨v, rfl⟩) s.bm it _ _ _ _ rfl HRGr.out ?_ ?_)
    · intro _ hl0
      have hlast := Lib.hid (show aLast (aDel (ab s) (x.id, x.rc)) (wx x) = true by
        rw [← HA1.out]
        exact last_all (fun z hz => HD.out z hz (hl0 _)))
      have HR := Lib.hid (H1.out.keep HKR.out (fun _ _ h => h))
      have HXr := Lib.hid (HKR.out.keep HX1.out (fun h => h))
      have c15 : wr.cell? ⟨p, 14, none⟩ = some (.map (some s1.br)) := (cell_of HR.out.head 14).trans rfl
      have y2 : wr.cell? ⟨x.blk, 2, none⟩ = some (.string x.snd) := (cell_of HXr.out 2).trans rfl
      have y4 : wr.cell? ⟨x.blk, 4, none⟩ = some (.bool x.loc) := (cell_of HXr.out 4).trans rfl
      have hl0' := H1.out.l0; have hl1' := H1.out.l1
      have HT := Lib.hid (HT1.out.calm HKR.out)
      clear hl0
      cases hxl : x.loc with
      | false =>
        rw [hxl] at y4
        have HXN := Lib.hid (show x.blk ≠ s1.r0 ∧ ¬ In s1.v0 x.blk from ⟨col_neq HCX.out HR.out.cols.rg0 rfl, fun h => col_neq HCX.out (HR.out.cols.nm0 _ h) rfl rfl⟩)
        cases hh : Has x.snd s1.A0 with
        | false =>
          have hlr := (MapAt.look (HR.out.rgm.keep (Kp.refl (fun _ => False) wr).drew (fun h => h)) bool_law Try.underlying90 (rzero _) (keyOf_bool_mk Try.underlying4 false) (v := .pointer (some ⟨s1.r0, 0, none⟩)) (by simp [Rm])).2
          go_wp2_with fail
          refine still_tail 13 (by kernel_rfl) (by kernel_rfl) ?_
          simp only [List.take_succ_cons, List.take_zero, List.drop_succ_cons, List.drop_zero]
          repeat still_step
          refine wpStill_nil ?_
          clear hlr
          go_wp2_with fail
          refine (rdrop_no s1.r0 s1.v0 s1.A0 x.snd _ ((HR.out.keep (Kp.refl (fun _ => False) wr).drew (fun _ _ h => h)).rg0) hh (by omega)).mono ?_; rintro e w4 ⟨rfl, rfl⟩
          have HZ := Lib.hid (show Sgone p N s (wx x) x.blk (Wc x) w (.returned (.tuple #[])) wr.drew from ⟨rfl, HXr.out, s1, HR.out.keep (Kp.refl (fun _ => False) wr).drew (fun _ _ h => h), HT.out.calm (Kp.refl _ _).drew, by rw [gone_no0 hxl hlast.out (by rw [← HA1.out]; exact hh), HA1.out], HP1.out⟩)
          go_wp2_with fail
          (first | go_end0 | refine bodyPost_ret (results_none rfl _ _ _) rfl ?_)
          exact HZ.out
        | true =>
          have hlr := (MapAt.look (HR.out.rgm.keep (Kp.refl (fun _ => False) wr).drew (fun h => h)) bool_law Try.underlying90 (rzero _) (keyOf_bool_mk Try.underlying4 false) (v := .pointer (some ⟨s1.r0, 0, none⟩)) (by simp [Rm])).2
          go_wp2_with fail
          refine still_tail 13 (by kernel_rfl) (by kernel_rfl) ?_
          simp only [List.take_succ_cons, List.take_zero, List.drop_succ_cons, List.drop_zero]
          repeat still_step
          refine wpStill_nil ?_
          clear hlr
          go_wp2_with fail
          refine (rdrop_any s1.r0 s1.v0 s1.A0 x.snd _ ((HR.out.keep (Kp.refl (fun _ => False) wr).drew (fun _ _ h => h)).rg0) hh (by omega)).mono ?_; rintro e w4 ⟨rfl, ⟨v4, hr4, hs4⟩, hk4⟩
          obtain ⟨q1, q2⟩ := (HR.out.keep (Kp.refl (fun _ => False) wr).drew (fun _ _ h => h)).setRing0 (Nat.le_refl _) hr4 (Or.inl hs4) hk4 (by rw [Cut_len (of_decide_eq_true hh)]; omega)
          have HZ := Lib.hid (show Sgone p N s (wx x) x.blk (Wc x) w (.returned (.tuple #[])) w4 from ⟨rfl, hk4.keep (b := x.blk) HXr.out (by rintro (h | h); exact HXN.out.1 h; exact HXN.out.2 h), _, q1, (HT.out.calm (Kp.refl _ _).drew).trans q2, by rw [gone_yes0 hxl hlast.out (by rw [← HA1.out]; exact hh), ← HA1.out]; rfl, HP1.out⟩)
          clear q1 q2 hr4 hs4 hk4
          go_wp2_with fail
          (first | go_end0 | refine bodyPost_ret (results_none rfl _ _ _) rfl ?_)
          exact HZ.out
      | true =>
        rw [hxl] at y4
        have HXN := Lib.hid (show x.blk ≠ s1.r1 ∧ ¬ In s1.v1 x.blk from ⟨col_neq HCX.out HR.out.cols.rg1 rfl, fun h => col_neq HCX.out (HR.out.cols.nm1 _ h) rfl rfl⟩)
        cases hh : Has x.snd s1.A1 with
        | false =>
          have hlr := (MapAt.look (HR.out.rgm.keep (Kp.refl (fun _ => False) wr).drew (fun h => h)) bool_law Try.underlying90 (rzero _) (keyOf_bool_mk Try.underlying4 true) (v := .pointer (some ⟨s1.r1, 0, none⟩)) (by simp [Rm])).2
          go_wp2_with fail
          refine still_tail 13 (by kernel_rfl) (by kernel_rfl) ?_
          simp only [List.take_succ_cons, List.take_zero, List.drop_succ_cons, List.drop_zero]
          repeat still_step
          refine wpStill_nil ?_
          clear hlr
          go_wp2_with fail
          refine (rdrop_no s1.r1 s1.v1 s1.A1 x.snd _ ((HR.out.keep (Kp.refl (fun _ => False) wr).drew (fun _ _ h => h)).rg1) hh (by omega)).mono ?_; rintro e w4 ⟨rfl, rfl⟩
          have HZ := Lib.hid (show Sgone p N s (wx x) x.blk (Wc x) w (.returned (.tuple #[])) wr.drew from ⟨rfl, HXr.out, s1, HR.out.keep (Kp.refl (fun _ => False) wr).drew (fun _ _ h => h), HT.out.calm (Kp.refl _ _).drew, by rw [gone_no1 hxl hlast.out (by rw [← HA1.out]; exact hh), HA1.out], HP1.out⟩)
          go_wp2_with fail
          (first | go_end0 | refine bodyPost_ret (results_none rfl _ _ _) rfl ?_)
          exact HZ.out
        | true =>
          have hlr := (MapAt.look (HR.out.rgm.keep (Kp.refl (fun _ => False) wr).drew (fun h => h)) bool_law Try.underlying90 (rzero _) (keyOf_bool_mk Try.underlying4 true) (v := .pointer (some ⟨s1.r1, 0, none⟩)) (by simp [Rm])).2
          go_wp2_with fail
          refine still_tail 13 (by kernel_rfl) (by kernel_rfl) ?_
          simp only [List.take_succ_cons, List.take_zero, List.drop_succ_cons, List.drop_zero]
          repeat still_step
          refine wpStill_nil ?_
          clear hlr
          go_wp2_with fail
          refine (rdrop_any s1.r1 s1.v1 s1.A1 x.snd _ ((HR.out.keep (Kp.refl (fun _ => False) wr).drew (fun _ _ h => h)).rg1) hh (by omega)).mono ?_; rintro e w4 ⟨rfl, ⟨v4, hr4, hs4⟩, hk4⟩
          obtain ⟨q1, q2⟩ := (HR.out.keep (Kp.refl (fun _ => False) wr).drew (fun _ _ h => h)).setRing1 (Nat.le_refl _) hr4 (Or.inl hs4) hk4 (by rw [Cut_len (of_decide_eq_true hh)]; omega)
          have HZ := Lib.hid (show Sgone p N s (wx x) x.blk (Wc x) w (.returned (.tuple #[])) w4 from ⟨rfl, hk4.keep (b := x.blk) HXr.out (by rintro (h | h); exact HXN.out.1 h; exact HXN.out.2 h), _, q1, (HT.out.calm (Kp.refl _ _).drew).trans q2, by rw [gone_yes1 hxl hlast.out (by rw [← HA1.out]; exact hh), ← HA1.out]; rfl, HP1.out⟩)
          clear q1 q2 hr4 hs4 hk4
          go_wp2_with fail
          (first | go_end0 | refine bodyPost_ret (results_none rfl _ _ _) rfl ?_)
          exact HZ.out
    · intro xk c kl y yl w3 cnt' hkey hlk hy hat hrg3 hlt hg3 hs3 hen
      have hy' : y = DataW.held c := by
        have h1 : some (DataW.held c, ([] : List MemPlace)) = some (y, yl) := hy
        simp only [Option.some.injEq, Prod.mk.injEq] at h1
        exact h1.1.symm
      rw [hy'] at hat
      obtain ⟨z, hz, e1⟩ := List.mem_map.1 (entry_mem HQ.out hat)
      simp only [Prod.mk.injEq] at e1
      obtain ⟨rfl, rfl⟩ := e1
      have hk3 : Kp (fun k => k = it) wr w3 := (Kp.of_grown hg3).mono (fun _ _ h => by cases h; rfl)
      have hk13 : Kp (fun _ => False) w1 w3 := HKR.out.trans_new hk3 (fun k h1 h2 => by have := HIT.out; omega)
      have HZb := Lib.hid (hk13.keep (H1.out.wts z hz) (fun h => h))
      have HXb := Lib.hid (hk13.keep HX1.out (fun h => h))
      have z2 : w3.cell? ⟨z.blk, 2, none⟩ = some (.string z.snd) := (cell_of HZb.out 2).trans rfl
      have z4 : w3.cell? ⟨z.blk, 4, none⟩ = some (.bool z.loc) := (cell_of HZb.out 4).trans rfl
      have y2 : w3.cell? ⟨x.blk, 2, none⟩ = some (.string x.snd) := (cell_of HXb.out 2).trans rfl
      have y4 : w3.cell? ⟨x.blk, 4, none⟩ = some (.bool x.loc) := (cell_of HXb.out 4).trans rfl
      have HRG3 := Lib.hid hrg3; have HK13 := Lib.hid hk13; have HZ := Lib.hid hz; have HLT := Lib.hid hlt
      have hnext : ¬ (z.snd = x.snd ∧ z.loc = x.loc) → ∀ u ∈ s1.Ws, (left (Kx u.id u.rc) && !(Kx u.id u.rc).sameKey (Kx z.id z.rc)) = false → ¬ (u.snd = x.snd ∧ u.loc = x.loc) := fun hne u hu e => by
        cases hl : left (Kx u.id u.rc) with
        | false => exact HD.out u hu hl
        | true =>
          rw [hl, Bool.true_and, Bool.not_eq_false'] at e
          have e2 := WideAt.sameKey_eq e
          obtain ⟨e3, e4⟩ := key_inj (H1.out.wfs u hu).1 (H1.out.wfs u hu).2.1 (H1.out.wfs z hz).1 (H1.out.wfs z hz).2.1 e2
          have := H1.out.key_eq hu hz (by rw [e3, e4])
          subst this
          exact hne
      have HNX := Lib.hid hnext
      clear hrg3 hk13 hk3 hg3 hnext hz hlt hat hy hy' hlk hkey hs3
      by_cases e1 : z.snd = x.snd
      · rw [e1] at z2
        by_cases e2 : z.loc = x.loc
        · rw [e2] at z4
          have HL := Lib.hid (show aLast (aDel (ab s) (x.id, x.rc)) (wx x) = false by
            rw [← HA1.out]
            exact last_any ⟨z, HZ.out, e1, e2⟩)
          clear e1 e2
          go_wp2_with fail
          go_quiet (fail)
          go_wp2_with fail
          (first | go_end0 | refine bodyPost_ret (results_none rfl _ _ _) rfl ?_)
          exact ⟨rfl, HXb.out, s1, H1.out.keep (HK13.out.drewN _) (fun _ _ h => h), HT1.out.calm (HK13.out.drewN _), by rw [gone_stay HL.out, HA1.out]; rfl, HP1.out⟩
        · have hb : (z.loc == x.loc) = false := by simpa using e2
          go_wp2_with fail
          go_quiet (fail)
          go_wp2_with fail
          go_roundg cnt'
          case measure => exact HLT.out
          case rel => exact ⟨_, ranges_keep HRG3.out ((Kp.refl (fun _ => False) w3).drewN _) (fun h => h) (fun h => h), HK13.out.drewN _, HNX.out (fun h => e2 h.2)⟩
      · have hb := toList_ne e1
        have hb2 : (z.snd.toList == x.snd.toList) = false := by rw [beq_eq_false_iff_ne]; exact hb
        go_wp2_with fail
        go_quiet (fail)
        go_wp2_with fail
        go_roundg cnt'
        case measure => exact HLT.out
        case rel => exact ⟨_, ranges_keep HRG3.out ((Kp.refl (fun _ => False) w3).drewN _) (fun h => h) (fun h => h), HK13.out.drewN _, HNX.out (fun h => e1 h.1)⟩
end Go.Proofs.Ytbiahndpfbmoeaa

/- What a scheduler's Drop, start, Window, Len, Senders do. Condition: its numbers are of int's range. -/
namespace Go.Proofs.Ytbiahndpfbmoeaa
open Go.RowKit Go.Maps SatAid Go.MapKept Go.ChangeMaps Go.WideShapes

theorem SIn.notin {w : World} {p N : Nat} {s : Sd} {x : Wt} (h : SIn w p s N) (hx : x ∈ s.Ws) (hg : x.go = false) : (x.id, x.rc) ∉ s.G := fun hk => by
  obtain ⟨z, hz, e, e2⟩ := h.gin _ hk
  have := h.key_eq hz hx e
  subst this
  rw [hg] at e2
  cases e2
theorem sdrop_none (id rc : Int) (w : World) : Calls Try.prog 27 #[.pointer none, .int .i64 id, .int .i64 rc] w fun e w' => e = .returned (.bool false) ∧ w = w' := by
  go_enter Try.func27, Try.ntmps27
  go_wp2
  go_ret
  exact ⟨rfl, rfl⟩
theorem sdrop_miss (p N : Nat) (s : Sd) (id rc : Int) (w : World) (h : SIn w p s N) (h1 : (Lit.int .i64 id).wf = true) (h2 : (Lit.int .i64 rc).wf = true) (hn : ∀ z ∈ s.Ws, (z.id, z.rc) ≠ (id, rc)) :
    Calls Try.prog 27 #[.pointer (some ⟨p, 0, none⟩), .int .i64 id, .int .i64 rc] w fun e w' => e = .returned (.bool false) ∧ w = w' := by
  have c13 : w.cell? ⟨p, 12, none⟩ = some (.map (some s.bm)) := (cell_of h.head 12).trans rfl
  have HM := Lib.hid (wm_miss h h1 h2 hn)
  have hkey := key_lit h1 h2
  unfold Kv at hkey
  have H := Lib.hid h; clear h hn
  go_enter Try.func27, Try.ntmps27
  go_wp2_with (at_lookup; refine wpList_miss _ rfl _ _ 88 rfl 95 96 key_keyed Try.underlying88 (wzero _) _ _ _ rfl H.out.bym _ _ rfl hkey HM.out ?_)
  go_ret
  exact ⟨rfl, rfl⟩
theorem sdrop_going (p N : Nat) (s : Sd) (x : Wt) (w : World) (h : SIn w p s N) (hx : x ∈ s.Ws) (hg : x.go = true) :
    Calls Try.prog 27 #[.pointer (some ⟨p, 0, none⟩), .int .i64 x.id, .int .i64 x.rc] w fun e w' => e = .returned (.bool false) ∧ w = w' := by
  have c13 : w.cell? ⟨p, 12, none⟩ = some (.map (some s.bm)) := (cell_of h.head 12).trans rfl
  have x5 : w.cell? ⟨x.blk, 5, none⟩ = some (.bool x.go) := (cell_of (h.wts x hx) 5).trans rfl
  rw [hg] at x5
  have hkey := key_lit (h.wfs x hx).1 (h.wfs x hx).2.1
  unfold Kv at hkey
  have H := Lib.hid h; have HX := Lib.hid hx; clear h hx
  go_enter Try.func27, Try.ntmps27
  go_wp2_with (at_lookup; refine wpList_look _ rfl _ _ 88 rfl 95 96 key_keyed Try.underlying88 (wzero _) _ _ _ rfl H.out.bym _ _ rfl hkey _ (wm_mem HX.out) ?_)
  go_ret
  exact ⟨rfl, rfl⟩
def Sgone2 (p N : Nat) (s : Sd) (x : Wx) (w : World) (e : Ending) (w' : World) : Prop :=
  e = .returned (.bool true) ∧ ∃ s', SIn w' p s' N ∧ St w w' s s' ∧ ab s' = aGone (ab s) x ∧ s'.Ps = s.Ps
theorem sdrop_yes (p N : Nat) (s : Sd) (x : Wt) (w : World) (h : SIn w p s N) (hx : x ∈ s.Ws) (hg : x.go = false) (hN : N ≤ 1000000) :
    Calls Try.prog 27 #[.pointer (some ⟨p, 0, none⟩), .int .i64 x.id, .int .i64 x.rc] w (Sgone2 p N s (wx x) w) := by
  have c13 : w.cell? ⟨p, 12, none⟩ = some (.map (some s.bm)) := (cell_of h.head 12).trans rfl
  have x5 : w.cell? ⟨x.blk, 5, none⟩ = some (.bool x.go) := (cell_of (h.wts x hx) 5).trans rfl
  rw [hg] at x5
  have hkey := key_lit (h.wfs x hx).1 (h.wfs x hx).2.1
  unfold Kv at hkey
  have HG := Lib.hid (h.notin hx hg)
  have H := Lib.hid h; have HX := Lib.hid hx; clear h hx
  go_enter Try.func27, Try.ntmps27
  go_wp2_with (at_lookup; refine wpList_look _ rfl _ _ 88 rfl 95 96 key_keyed Try.underlying88 (wzero _) _ _ _ rfl H.out.bym _ _ rfl hkey _ (wm_mem HX.out) ?_)
  refine (sgone_any p N s x _ H.out HX.out HG.out hN).mono ?_; rintro e w1 ⟨rfl, _, hq⟩
  have HQ := Lib.hid hq; clear hq
  go_wp2_with fail
  go_ret
  exact ⟨rfl, HQ.out⟩
theorem slen_none (w : World) : Calls Try.prog 38 #[.pointer none] w fun e w' => e = .returned (.int .i64 0) ∧ w = w' := by
  go_enter Try.func38, Try.ntmps38
  go_wp2
  go_ret
  exact ⟨rfl, rfl⟩
theorem slen_any (p N : Nat) (s : Sd) (w : World) (h : SIn w p s N) :
    Calls Try.prog 38 #[.pointer (some ⟨p, 0, none⟩)] w fun e w' => e = .returned (.int .i64 (ab s).W.length) ∧ w = w' := by
  have c13 : w.cell? ⟨p, 12, none⟩ = some (.map (some s.bm)) := (cell_of h.head 12).trans rfl
  have H := Lib.hid h; clear h
  have HL := Lib.hid (show (Wm s.Ws).length = (ab s).W.length by simp [Wm, ab])
  go_enter Try.func38, Try.ntmps38
  go_wp2_with (at_len; refine wpList_len_map _ rfl _ 88 rfl 95 96 Try.underlying88 _ _ _ rfl H.out.bym ?_; rw [HL.out])
  go_ret
  exact ⟨rfl, rfl⟩
theorem results_cell1 {fn : Func} {p : Tmp} {ty : TypeId} (h : fn.results = #[.cell p ty]) (tmps : Array Value) (P : Program) (w : World) :
    (results fn tmps).run P w = ((asAddr (tmps.getD p undef)).run P w).andThen fun a w₁ => (loadVar ty a).run P w₁ := by
  simp only [results, h]
  simp [Sem.run_bind, Result.andThen]
theorem sstart_any (x : Wt) (w : World) (h : w.heap[x.blk]? = some (.cells (Wc x) 99 (0, 0))) (ps : Value) :
    Calls Try.prog 56 #[ps, .pointer (some ⟨x.blk, 0, none⟩)] w fun e w' => e = .returned (.agg #[.int .i64 x.id, .int .i64 x.rc, .string x.dom]) ∧ Kp (fun _ => False) w w' := by
  have x0 : w.cell? ⟨x.blk, 0, none⟩ = some (.int .i64 x.id) := (cell_of h 0).trans rfl
  have x1 : w.cell? ⟨x.blk, 1, none⟩ = some (.int .i64 x.rc) := (cell_of h 1).trans rfl
  have x3 : w.cell? ⟨x.blk, 3, none⟩ = some (.string x.dom) := (cell_of h 3).trans rfl
  have lx := lt_of_block h
  clear h
  go_enter Try.func56, Try.ntmps56
  go_wp2_with fail
  go_region_held3 (fun w' => w'.cell? ⟨x.blk, 0, none⟩ = some (.int .i64 x.id) ∧ w'.cell? ⟨x.blk, 1, none⟩ = some (.int .i64 x.rc) ∧ w'.cell? ⟨x.blk, 3, none⟩ = some (.string x.dom)) (first | exact ⟨(Kp.cell (S := fun _ => False) (w := w) (by repeat (first | exact Kp.refl _ _ | apply Kp.drew | apply Kp.drewN | refine Kp.setCell ?_ _ _ (Or.inr (by simp)) | apply Kp.alloc)) 0 lx (fun h => h)).trans x0, (Kp.cell (S := fun _ => False) (w := w) (by repeat (first | exact Kp.refl _ _ | apply Kp.drew | apply Kp.drewN | refine Kp.setCell ?_ _ _ (Or.inr (by simp)) | apply Kp.alloc)) 1 lx (fun h => h)).trans x1, (Kp.cell (S := fun _ => False) (w := w) (by repeat (first | exact Kp.refl _ _ | apply Kp.drew | apply Kp.drewN | refine Kp.setCell ?_ _ _ (Or.inr (by simp)) | apply Kp.alloc)) 3 lx (fun h => h)).trans x3⟩) (fail)
  go_wp2_with fail
  refine bodyPost_ret (v := .agg #[.int .i64 x.id, .int .i64 x.rc, .string x.dom]) ?_ rfl ⟨rfl, (by repeat (first | exact Kp.refl _ _ | apply Kp.drew | apply Kp.drewN | refine Kp.setCell ?_ _ _ (Or.inl rfl) | apply Kp.alloc))⟩
  rw [results_cell1 rfl]
  go_simp
theorem ssenders_none (b : Bool) (w : World) : Calls Try.prog 39 #[.pointer none, .bool b] w fun e w' => e = .returned (.slice none 0 0) ∧ w = w' := by
  go_enter Try.func39, Try.ntmps39
  go_wp2
  go_ret
  exact ⟨rfl, rfl⟩
theorem ssenders_any (p N : Nat) (s : Sd) (b : Bool) (w : World) (h : SIn w p s N) (hN : N ≤ 1000000) :
    Calls Try.prog 39 #[.pointer (some ⟨p, 0, none⟩), .bool b] w (Cloned 9 1 (if b then s.A1 else s.A0).length (Sc (if b then s.A1 else s.A0)) w) := by
  have c15 : w.cell? ⟨p, 14, none⟩ = some (.map (some s.br)) := (cell_of h.head 14).trans rfl
  have hl0 := h.l0; have hl1 := h.l1
  have H := Lib.hid h; clear h
  cases b with
  | false =>
    go_enter Try.func39, Try.ntmps39
    go_wp2_with (at_lookup; refine wpList_look1 _ rfl _ _ 90 rfl 4 23 bool_law Try.underlying90 (rzero _) _ _ _ rfl H.out.rgm _ _ rfl (keyOf_bool_mk Try.underlying4 false) (.pointer (some ⟨s.r0, 0, none⟩)) (by simp [Rm]) ?_)
    refine (rnames_any s.r0 s.v0 s.A0 _ H.out.rg0 (by omega)).mono ?_; rintro e w1 ⟨v, rfl, ho, hk⟩
    have HO := Lib.hid ho; have HK := Lib.hid hk; clear ho hk
    go_wp2_with fail
    go_ret
    exact ⟨_, rfl, HO.out, HK.out⟩
  | true =>
    go_enter Try.func39, Try.ntmps39
    go_wp2_with (at_lookup; refine wpList_look1 _ rfl _ _ 90 rfl 4 23 bool_law Try.underlying90 (rzero _) _ _ _ rfl H.out.rgm _ _ rfl (keyOf_bool_mk Try.underlying4 true) (.pointer (some ⟨s.r1, 0, none⟩)) (by simp [Rm]) ?_)
    refine (rnames_any s.r1 s.v1 s.A1 _ H.out.rg1 (by omega)).mono ?_; rintro e w1 ⟨v, rfl, ho, hk⟩
    have HO := Lib.hid ho; have HK := Lib.hid hk; clear ho hk
    go_wp2_with fail
    go_ret
    exact ⟨_, rfl, HO.out, HK.out⟩

/-- what a domain looks like -/
def fp (Ps : List Pe) (d : ByteArray) : Option Pe := Ps.find? fun y => decide (y.dom = d)
def vN (s : Sd) (d : ByteArray) : Int := match fp s.Ps d with | some y => y.now | none => 1
def vB (s : Sd) (d : ByteArray) : Int := match fp s.Ps d with | some y => y.busy | none => 0
def vT (s : Sd) (n : Int) (d : ByteArray) : Int := match fp s.Ps d with | some y => Lf (V s.c.rate) (V s.c.burst) y.l y.t n | none => V s.c.burst
def Tik (s : Sd) (n : Int) : Prop := ∀ y ∈ s.Ps, y.t ≤ n
theorem fp_some {Ps : List Pe} {d : ByteArray} {y : Pe} (h : fp Ps d = some y) : y ∈ Ps ∧ y.dom = d := ⟨List.mem_of_find?_eq_some h, by simpa using List.find?_some h⟩
theorem fp_none {Ps : List Pe} {d : ByteArray} (h : fp Ps d = none) : ∀ y ∈ Ps, y.dom ≠ d := by
  unfold fp at h
  rw [List.find?_eq_none] at h
  intro y hy e
  exact h y hy (decide_eq_true e)
theorem fp_eq {Ps : List Pe} (hp : Ps.Pairwise (fun a b => a.dom ≠ b.dom)) {y : Pe} (hy : y ∈ Ps) : fp Ps y.dom = some y := by
  cases h : fp Ps y.dom with
  | none => exact absurd rfl (fp_none h y hy)
  | some z =>
    obtain ⟨h1, h2⟩ := fp_some h
    rw [pw_eq hp h1 hy h2]
theorem fp_no {Ps : List Pe} {d : ByteArray} (h : ∀ y ∈ Ps, y.dom ≠ d) : fp Ps d = none := by
  unfold fp
  rw [List.find?_eq_none]
  intro y hy e
  exact h y hy (of_decide_eq_true e)
theorem Lf_then {r u l t a b : Int} (hr : 1 ≤ r) (hr2 : r ≤ 100) (hu : 1 ≤ u) (hu2 : u ≤ 100) (hl : 0 ≤ l) (hl2 : l ≤ u) (ht : 0 ≤ t) (hta : t ≤ a) (hab : a ≤ b) (hb : b ≤ 1099511627776) : Lf r u (Lf r u l t a) a b = Lf r u l t b := by
  have e1 := Lf_eq (n := a) hr hr2 hu hu2 hl hl2 ht (by omega)
  have e2 := Lf_eq (n := b) hr hr2 hu hu2 hl hl2 ht (by omega)
  have h1 : 0 ≤ Lf r u l t a := Lf_lo (by omega)
  have h2 : Lf r u l t a ≤ u := Lf_hi
  have e3 := Lf_eq (n := b) hr hr2 hu hu2 h1 h2 (t := a) (by omega) (by omega)
  rw [C_of (n := a) (by omega) (by omega)] at e1
  rw [C_of (n := b) (by omega) (by omega)] at e2 e3
  rw [e3, e2, e1]
  rw [show max (a - t) 0 = a - t by omega, show max (b - t) 0 = b - t by omega, show max (b - a) 0 = b - a by omega]
  have h3 : r * (b - t) = r * (a - t) + r * (b - a) := by rw [← Int.mul_add]; congr 1; omega
  have h4 : 0 ≤ r * (b - a) := Int.mul_nonneg (by omega) (by omega)
  omega
theorem Lf_full' {r u t n : Int} (hr : 1 ≤ r) (hr2 : r ≤ 100) (hu : 1 ≤ u) (hu2 : u ≤ 100) (ht : 0 ≤ t) (htn : t ≤ 1099511627776) : Lf r u u t n = u := by
  rw [Lf_eq hr hr2 hu hu2 (by omega) (Int.le_refl _) ht htn]
  have : 0 ≤ r * max (C n - t) 0 := Int.mul_nonneg (by omega) (by omega)
  omega
/-- its domains look as they did, from now on -/
structure Vq (now : Int) (s s' : Sd) : Prop where
  n : ∀ d, vN s' d = vN s d
  b : ∀ d, vB s' d = vB s d
  t : ∀ m d, now ≤ m → m ≤ 1099511627776 → vT s' m d = vT s m d
  le : Tik s' now
theorem Vq.refl {now : Int} {s : Sd} (h : Tik s now) : Vq now s s := ⟨fun _ => rfl, fun _ => rfl, fun _ _ _ _ => rfl, h⟩
theorem Vq.trans {now : Int} {s s1 s2 : Sd} (h : Vq now s s1) (g : Vq now s1 s2) : Vq now s s2 :=
  ⟨fun d => (g.n d).trans (h.n d), fun d => (g.b d).trans (h.b d), fun m d h1 h2 => (g.t m d h1 h2).trans (h.t m d h1 h2), g.le⟩
theorem Vq.of {now : Int} {s s' : Sd} (hp : s'.Ps = s.Ps) (hc : s'.c = s.c) (h : Tik s now) : Vq now s s' := ⟨fun d => by unfold vN; rw [hp], fun d => by unfold vB; rw [hp], fun m d _ _ => by unfold vT; rw [hp, hc], by unfold Tik; rw [hp]; exact h⟩
/-- a domain more -/
theorem Vq.ext {s s' : Sd} {now : Int} {y : Pe} (ht : Tik s now) (hn : 0 ≤ now) (hn2 : now ≤ 1099511627776) (hx : Pext s now y s'.Ps) (hc : s'.c = s.c) : Vq now s s' := by
  obtain ⟨hy, h | ⟨h, hne, h1, h2, h3, h4⟩⟩ := hx
  · exact Vq.of h hc ht
  · rw [C_of hn hn2] at h4
    have hf : ∀ d, fp s'.Ps d = match fp s.Ps d with | some z => some z | none => if y.dom = d then some y else none := fun d => by
      rw [h]
      unfold fp
      rw [List.find?_append]
      cases hh : s.Ps.find? (fun y => decide (y.dom = d)) with
      | some z => rfl
      | none =>
        simp only [Option.none_or, List.find?_cons, List.find?_nil]
        by_cases e : y.dom = d
        · simp [e]
        · simp [e]
    refine ⟨fun d => ?_, fun d => ?_, fun m d h5 h6 => ?_, fun z hz => ?_⟩
    · unfold vN; rw [hf]
      cases fp s.Ps d with
      | some z => rfl
      | none => simp only; split <;> rename_i h7 <;> split at h7 <;> first | (cases h7; exact h1) | rfl | cases h7
    · unfold vB; rw [hf]
      cases fp s.Ps d with
      | some z => rfl
      | none => simp only; split <;> rename_i h7 <;> split at h7 <;> first | (cases h7; exact h2) | rfl | cases h7
    · unfold vT; rw [hf, hc]
      cases fp s.Ps d with
      | some z => rfl
      | none =>
        simp only
        split <;> rename_i h7 <;> split at h7
        · cases h7
          rw [h3, h4]
          exact Lf_full' (V_lo _) (V_hi _) (V_lo _) (V_hi _) hn hn2
        · cases h7
        · cases h7
        · rfl
    · rw [h] at hz
      rcases List.mem_append.1 hz with hz | hz
      · exact ht z hz
      · obtain rfl := List.mem_singleton.1 hz
        omega
end Go.Proofs.Ytbiahndpfbmoeaa

/- What a scheduler's Window, Left do; a domain's state. Conditions: a domain's name is no longer than a length may be; times do not go back. -/
namespace Go.Proofs.Ytbiahndpfbmoeaa
open Go.RowKit Go.Maps SatAid Go.MapKept Go.ChangeMaps Go.WideShapes

theorem speer_any (p N : Nat) (s : Sd) (d : ByteArray) (n : Int) (w : World) (h : SIn w p s N) (hd : d ∈ s.D) (hN : N ≤ 1000000) :
    Calls Try.prog 53 #[.pointer (some ⟨p, 0, none⟩), .string d, .int .i64 n] w (Speer p N s d n w) := by
  by_cases hy : ∃ y ∈ s.Ps, y.dom = d
  · obtain ⟨y, hy, rfl⟩ := hy
    exact speer_old p N s y n w h hy
  · exact speer_new p N s d n w h hd (fun z hz e => hy ⟨z, hz, e⟩) (by have := h.pslen; have := h.ld; omega)
theorem St.none {w w' : World} {s s' : Sd} (h : St w w' s s') {k : Nat} (hk : k < w.heap.size) (hc : s.col k = none) : s'.col k = none := by
  cases hs : s'.col k with
  | none => rfl
  | some c =>
    rcases h.new k (by rw [hs]; rfl) with e | e
    · rw [hc] at e; cases e
    · omega
theorem St.peer {w w' : World} {p N : Nat} {s : Sd} {Ps' : List Pe} {col' : Nat → Option (Nat × (Int × Int) × ByteArray)} (h : SIn w p s N) (hc : Cext s w col') (hk : Kp (· = s.bp) w w') : St w w' s { s with Ps := Ps', col := col' } :=
  ⟨hc.old, hc.new, hk.mono (fun k _ e => by subst e; rw [h.cols.prm]; rfl)⟩
theorem pn_of {s : Sd} {y : Pe} (hp : s.Ps.Pairwise (fun a b => a.dom ≠ b.dom)) (hy : y ∈ s.Ps) : vN s y.dom = y.now ∧ vB s y.dom = y.busy ∧ ∀ n, vT s n y.dom = Lf (V s.c.rate) (V s.c.burst) y.l y.t n := by
  unfold vN vB vT
  rw [fp_eq hp hy]
  exact ⟨rfl, rfl, fun _ => rfl⟩
theorem fp_sub {Ps : List Pe} {y' : Pe} {d : ByteArray} (hp : Ps.Pairwise (fun a b => a.dom ≠ b.dom)) (hy : ∃ u ∈ Ps, u.dom = y'.dom) : fp (Psub Ps y') d = if d = y'.dom then some y' else fp Ps d := by
  obtain ⟨u, hu, he⟩ := hy
  have hp' : (Psub Ps y').Pairwise (fun a b => a.dom ≠ b.dom) := by
    unfold Psub
    rw [List.pairwise_map]
    refine hp.imp (fun {a b} h => ?_)
    split <;> rename_i h1 <;> split <;> rename_i h2
    · exact absurd (h1.trans h2.symm) h
    · rw [← h1]; exact h
    · rw [← h2]; exact h
    · exact h
  by_cases e : d = y'.dom
  · subst e
    rw [if_pos rfl]
    exact fp_eq hp' (Psub_in hu he)
  · rw [if_neg e]
    cases hf : fp Ps d with
    | none => exact fp_no (fun z hz => by
        rcases Psub_mem hz with ⟨rfl, _⟩ | ⟨hz, _⟩
        · exact fun e2 => e e2.symm
        · exact fp_none hf z hz)
    | some z =>
      obtain ⟨h1, h2⟩ := fp_some hf
      have : z ∈ Psub Ps y' := List.mem_map.2 ⟨z, h1, by rw [if_neg (fun e2 => e (h2 ▸ e2))]⟩
      rw [← h2]
      exact fp_eq hp' this
/-- counted up to now -/
def Pnow (s : Sd) (y : Pe) (now : Int) : Pe := { y with l := Lf (V s.c.rate) (V s.c.burst) y.l y.t now, t := now }
theorem Vq.counted {s : Sd} {y : Pe} {now : Int} (hp : s.Ps.Pairwise (fun a b => a.dom ≠ b.dom)) (hy : y ∈ s.Ps) (hok : 0 ≤ y.l ∧ y.l ≤ V s.c.burst ∧ 0 ≤ y.t) (ht : Tik s now) (_hn2 : now ≤ 1099511627776) : Vq now s { s with Ps := Psub s.Ps (Pnow s y now) } := by
  have hf := fun d => fp_sub (d := d) hp (y' := Pnow s y now) ⟨y, hy, rfl⟩
  have hty := ht y hy
  refine ⟨fun d => ?_, fun d => ?_, fun m d h1 h2 => ?_, fun z hz => ?_⟩
  · unfold vN; simp only [hf]
    by_cases e : d = y.dom
    · subst e; rw [fp_eq hp hy, if_pos (show y.dom = (Pnow s y now).dom from rfl)]; rfl
    · rw [if_neg (show ¬ d = (Pnow s y now).dom from e)]
  · unfold vB; simp only [hf]
    by_cases e : d = y.dom
    · subst e; rw [fp_eq hp hy, if_pos (show y.dom = (Pnow s y now).dom from rfl)]; rfl
    · rw [if_neg (show ¬ d = (Pnow s y now).dom from e)]
  · unfold vT; simp only [hf]
    by_cases e : d = y.dom
    · subst e; rw [fp_eq hp hy, if_pos (show y.dom = (Pnow s y now).dom from rfl)]
      exact Lf_then (V_lo _) (V_hi _) (V_lo _) (V_hi _) hok.1 hok.2.1 hok.2.2 hty h1 h2
    · rw [if_neg (show ¬ d = (Pnow s y now).dom from e)]
  · rcases Psub_mem hz with ⟨rfl, _⟩ | ⟨hz, _⟩
    · exact Int.le_refl _
    · exact ht z hz
/-- Left, of a domain that is there -/
def Sleft (p N : Nat) (s : Sd) (y : Pe) (now : Int) (w : World) (e : Ending) (w' : World) : Prop :=
  e = .returned (.int .i64 (vT s now y.dom)) ∧ SIn w' p { s with Ps := Psub s.Ps (Pnow s y now) } N ∧ Kp (· = y.tb) w w' ∧ Vq now s { s with Ps := Psub s.Ps (Pnow s y now) } ∧ St w w' s { s with Ps := Psub s.Ps (Pnow s y now) }
theorem pleft_any (p N : Nat) (s : Sd) (y : Pe) (now : Int) (w : World) (h : SIn w p s N) (hy : y ∈ s.Ps) (ht : Tik s now) (hn2 : now ≤ 1099511627776) :
    Calls Try.prog 67 #[.pointer (some ⟨y.tb, 0, none⟩), .int .i64 now] w (Sleft p N s y now w) := by
  obtain ⟨k1, k2, k3, k4, k5, _⟩ := h.pok y hy
  obtain ⟨b1, b2, b3⟩ := h.prs y hy
  have hty := ht y hy
  have hC : C now = now := C_of (by omega) hn2
  have hm : max y.t (C now) = now := by rw [hC]; omega
  refine (bleft_any y.tb _ _ _ _ now w b3).mono ?_
  rintro e w' ⟨rfl, hb, hk⟩
  rw [hm] at hb
  have hne : y.wb ≠ y.tb := fun e => by
    obtain ⟨_, c2, c3⟩ := h.cols.prs y hy
    rw [e, c3] at c2
    exact Nat.ne_of_beq_eq_false rfl (congrArg Prod.fst (Option.some.inj c2))
  obtain ⟨g1, g2⟩ := h.setPeer hy (y' := Pnow s y now) rfl rfl rfl rfl (hk.mono (fun _ _ h => Or.inr h)) (hk.keep b2 hne) hb ⟨k1, Lf_lo (by have := V_lo s.c.burst; omega), Lf_hi, by show 0 ≤ now; omega, hn2⟩
  exact ⟨by rw [(pn_of h.doms hy).2.2 now], g1, hk, Vq.counted h.doms hy ⟨k2, k3, k4⟩ ht hn2, g2⟩

theorem swindow_none (d : ByteArray) (w : World) : Calls Try.prog 35 #[.pointer none, .string d] w fun e w' => e = .returned (.tuple #[.int .i64 0, .int .i64 0]) ∧ w = w' := by
  go_enter Try.func35, Try.ntmps35
  go_wp2
  go_ret2
  exact ⟨rfl, rfl⟩
theorem swindow_any (p N : Nat) (s : Sd) (d : ByteArray) (w : World) (h : SIn w p s N) (hd : d.size ≤ maxLen) :
    Calls Try.prog 35 #[.pointer (some ⟨p, 0, none⟩), .string d] w fun e w' => e = .returned (.tuple #[.int .i64 (vN s d), .int .i64 (vB s d)]) ∧ Kp (fun _ => False) w w' := by
  have c14 : w.cell? ⟨p, 13, none⟩ = some (.map (some s.bp)) := (cell_of h.head 13).trans rfl
  have hkey := str_key hd
  by_cases hy : ∃ y ∈ s.Ps, y.dom = d
  · obtain ⟨y, hy, rfl⟩ := hy
    obtain ⟨e1, e2, _⟩ := pn_of h.doms hy
    rw [e1, e2]
    have hin : ((Lit.string y.dom.data.toList), Value.pointer (some ⟨y.blk, 0, none⟩)) ∈ Pm s.Ps := List.mem_map.2 ⟨y, hy, rfl⟩
    obtain ⟨b1, b2, _⟩ := h.prs y hy
    have y0 : w.cell? ⟨y.blk, 0, none⟩ = some (.pointer (some ⟨y.wb, 0, none⟩)) := (cell_of b1 0).trans rfl
    have H := Lib.hid h; have HIN := Lib.hid hin; have HB := Lib.hid b2
    clear h hin b1 b2 hy e1 e2
    go_enter Try.func35, Try.ntmps35
    go_wp2_with (at_lookup; refine wpList_look _ rfl _ _ 89 rfl 9 106 str_law Try.underlying89 (pzero _) _ _ _ rfl H.out.prm _ _ rfl hkey _ HIN.out ?_)
    go_quiet (first | (go_at_call 65; exact Calls.quiet_of_same ((wnow_any y.wb _ _ _ _ (by exact HB.out)).flip)) | (go_at_call 66; exact Calls.quiet_of_same ((wbusy_any y.wb _ _ _ _ (by exact HB.out)).flip)))
    go_wp2_with fail
    go_ret2
    exact ⟨rfl, (by repeat (first | exact Kp.refl _ _ | apply Kp.drew | apply Kp.drewN | refine Kp.setCell ?_ _ _ (Or.inl rfl) | apply Kp.alloc))⟩
  · have hno : ∀ y ∈ s.Ps, y.dom ≠ d := fun y h1 h2 => hy ⟨y, h1, h2⟩
    have e1 : vN s d = 1 := by unfold vN; rw [fp_no hno]
    have e2 : vB s d = 0 := by unfold vB; rw [fp_no hno]
    rw [e1, e2]
    have hmiss : ∀ q ∈ Pm s.Ps, q.1 ≠ .string d.data.toList := fun q hq => by
      obtain ⟨z, hz, rfl⟩ := List.mem_map.1 hq
      exact dom_ne (hno z hz)
    have H := Lib.hid h; have HM := Lib.hid hmiss
    clear h hmiss hy hno e1 e2
    go_enter Try.func35, Try.ntmps35
    go_wp2_with (at_lookup; refine wpList_miss _ rfl _ _ 89 rfl 9 106 str_law Try.underlying89 (pzero _) _ _ _ rfl H.out.prm _ _ rfl hkey HM.out ?_)
    go_ret2
    exact ⟨rfl, (by repeat (first | exact Kp.refl _ _ | apply Kp.drew | apply Kp.drewN | refine Kp.setCell ?_ _ _ (Or.inl rfl) | apply Kp.alloc))⟩
theorem sleft_none (d : ByteArray) (n : Int) (w : World) : Calls Try.prog 37 #[.pointer none, .string d, .int .i64 n] w fun e w' => e = .returned (.int .i64 0) ∧ w = w' := by
  go_enter Try.func37, Try.ntmps37
  go_wp2
  go_ret
  exact ⟨rfl, rfl⟩
/-- it looks as it did, and more is not asked -/
def Slook (p N : Nat) (s : Sd) (now : Int) (r : Value) (w : World) (e : Ending) (w' : World) : Prop :=
  e = .returned r ∧ ∃ Ps' col', SIn w' p { s with Ps := Ps', col := col' } N ∧ St w w' s { s with Ps := Ps', col := col' } ∧ Vq now s { s with Ps := Ps', col := col' }
theorem sleft_any (p N : Nat) (s : Sd) (d : ByteArray) (now : Int) (w : World) (h : SIn w p s N) (hd : d.size ≤ maxLen) (ht : Tik s now) (hn2 : now ≤ 1099511627776) :
    Calls Try.prog 37 #[.pointer (some ⟨p, 0, none⟩), .string d, .int .i64 now] w (Slook p N s now (.int .i64 (vT s now d)) w) := by
  have c14 : w.cell? ⟨p, 13, none⟩ = some (.map (some s.bp)) := (cell_of h.head 13).trans rfl
  have c4 : w.cell? ⟨p, 4, none⟩ = some (.int .i64 s.c.rate) := (cell_of h.head 4).trans rfl
  have c5 : w.cell? ⟨p, 5, none⟩ = some (.int .i64 s.c.burst) := (cell_of h.head 5).trans rfl
  have lp := lt_of_block h.head
  have hkey := str_key hd
  by_cases hy : ∃ y ∈ s.Ps, y.dom = d
  · obtain ⟨y, hy, rfl⟩ := hy
    have hin : ((Lit.string y.dom.data.toList), Value.pointer (some ⟨y.blk, 0, none⟩)) ∈ Pm s.Ps := List.mem_map.2 ⟨y, hy, rfl⟩
    obtain ⟨b1, _⟩ := h.prs y hy
    have y1 : w.cell? ⟨y.blk, 1, none⟩ = some (.pointer (some ⟨y.tb, 0, none⟩)) := (cell_of b1 1).trans rfl
    have H := Lib.hid h; have HIN := Lib.hid hin; have HY := Lib.hid hy; have HT := Lib.hid ht
    clear h hin b1 hy ht c4 c5
    go_enter Try.func37, Try.ntmps37
    go_wp2_with (at_lookup; refine wpList_look _ rfl _ _ 89 rfl 9 106 str_law Try.underlying89 (pzero _) _ _ _ rfl H.out.prm _ _ rfl hkey _ HIN.out ?_)
    refine (pleft_any p N s y now _ H.out HY.out HT.out hn2).mono ?_; rintro e w1 ⟨rfl, g1, _, g2, g3⟩
    have HZ := Lib.hid (show Slook p N s now (.int .i64 (vT s now y.dom)) w (.returned (.int .i64 (vT s now y.dom))) w1 from ⟨rfl, _, _, g1, g3, g2⟩)
    clear g1 g2 g3
    go_wp2_with fail
    go_ret
    exact HZ.out
  · have hno : ∀ y ∈ s.Ps, y.dom ≠ d := fun y h1 h2 => hy ⟨y, h1, h2⟩
    have e1 : vT s now d = V s.c.burst := by unfold vT; rw [fp_no hno]
    rw [e1]
    have hmiss : ∀ q ∈ Pm s.Ps, q.1 ≠ .string d.data.toList := fun q hq => by
      obtain ⟨z, hz, rfl⟩ := List.mem_map.1 hq
      exact dom_ne (hno z hz)
    have hfull := Lf_full' (r := V s.c.rate) (u := V s.c.burst) (t := C now) (n := now) (V_lo _) (V_hi _) (V_lo _) (V_hi _) (C_lo _) (C_hi _)
    have H := Lib.hid h; have HM := Lib.hid hmiss; have HT := Lib.hid ht; have HF := Lib.hid hfull
    clear h hmiss hy hno e1 ht hfull
    go_enter Try.func37, Try.ntmps37
    go_wp2_with (at_lookup; refine wpList_miss _ rfl _ _ 89 rfl 9 106 str_law Try.underlying89 (pzero _) _ _ _ rfl H.out.prm _ _ rfl hkey HM.out ?_)
    go_region_held3 (fun w' => w'.cell? ⟨p, 4, none⟩ = some (.int .i64 s.c.rate) ∧ w'.cell? ⟨p, 5, none⟩ = some (.int .i64 s.c.burst)) (first | exact ⟨c4, c5⟩ | exact ⟨(hkb.cell 4 lp (fun h => h)).trans c4, (hkb.cell 5 lp (fun h => h)).trans c5⟩ | exact ⟨(hkc.cell 4 lp (fun h => h)).trans c4, (hkc.cell 5 lp (fun h => h)).trans c5⟩)
      (first | (go_at_call 68; refine (bnew_any _ _ _ _).mono ?_; rintro e wb ⟨tb, rfl, htb, htc, hkb0⟩; have hkb := (show Kp (fun _ => False) w _ from (Kp.refl _ _).drew).trans hkb0) | (go_at_call 67; refine (bleft_any tb _ _ _ _ now _ htc).mono ?_; rintro e wc ⟨rfl, htd, hkc0⟩; have hkc := hkb.trans_new hkc0 (fun k h1 h2 => by have h3 : w.heap.size ≤ tb := htb; have h4 : k = tb := h2; omega); rw [HF.out]))
    have HZ := Lib.hid (show Slook p N s now (.int .i64 (V s.c.burst)) w (.returned (.int .i64 (V s.c.burst))) wc from ⟨rfl, s.Ps, s.col, H.out.keep hkc (fun _ _ h => h), St.of hkc (fun _ _ h => h.elim) rfl, Vq.of rfl rfl HT.out⟩)
    clear htc htd hkb0 hkb hkc0 hkc
    go_wp2_with fail
    go_ret
    exact HZ.out
end Go.Proofs.Ytbiahndpfbmoeaa
