/- What a scheduler's Put does. Conditions: its numbers are of int's range, no string is longer than a length may be, there are no more recipients than fit into memory. -/
import Derived.Test.YtbiahndpfbmoeaaSd5
namespace Go.Proofs.Ytbiahndpfbmoeaa
open Go.RowKit Go.Maps SatAid Go.MapKept Go.ChangeMaps Go.WideShapes

theorem wzero (w : World) : (zeroValue 96).run Try.prog w = .ok (.pointer none) w := by kernel_rfl
theorem rzero (w : World) : (zeroValue 23).run Try.prog w = .ok (.pointer none) w := by kernel_rfl
theorem wm_mem {s : Sd} {x : Wt} (hx : x ∈ s.Ws) : (Kx x.id x.rc, Value.pointer (some ⟨x.blk, 0, none⟩)) ∈ Wm s.Ws := List.mem_map.2 ⟨x, hx, rfl⟩
theorem wm_miss {w : World} {p N : Nat} {s : Sd} {id rc : Int} (h : SIn w p s N) (h1 : (Lit.int .i64 id).wf = true) (h2 : (Lit.int .i64 rc).wf = true) (hn : ∀ z ∈ s.Ws, (z.id, z.rc) ≠ (id, rc)) : ∀ q ∈ Wm s.Ws, q.1 ≠ Kx id rc := by
  intro q hq e
  obtain ⟨z, hz, rfl⟩ := List.mem_map.1 hq
  obtain ⟨a, b, _⟩ := h.wfs z hz
  obtain ⟨e1, e2⟩ := key_inj a b h1 h2 e
  exact hn z hz (by rw [e1, e2])
theorem sput_none (id rc n : Int) (a b : ByteArray) (w : World) : Calls Try.prog 25 #[.pointer none, .int .i64 id, .int .i64 rc, .string a, .string b, .int .i64 n] w fun e w' => e = .returned (.bool false) ∧ w = w' := by
  go_enter Try.func25, Try.ntmps25
  go_wp2
  go_ret
  exact ⟨rfl, rfl⟩
theorem sput_old (p N : Nat) (s : Sd) (x : Wt) (n : Int) (a b : ByteArray) (w : World) (h : SIn w p s N) (hx : x ∈ s.Ws) :
    Calls Try.prog 25 #[.pointer (some ⟨p, 0, none⟩), .int .i64 x.id, .int .i64 x.rc, .string a, .string b, .int .i64 n] w fun e w' => e = .returned (.bool false) ∧ Kp (fun _ => False) w w' := by
  have c13 : w.cell? ⟨p, 12, none⟩ = some (.map (some s.bm)) := (cell_of h.head 12).trans rfl
  have lp := lt_of_block h.head
  obtain ⟨h1, h2, _⟩ := h.wfs x hx
  have hk0 : Kp (fun _ => False) w (w.alloc (.cells #[.int .i64 x.id, .int .i64 x.rc] 95)) := (by repeat (first | exact Kp.refl _ _ | apply Kp.drew | apply Kp.drewN | refine Kp.setCell ?_ _ _ (Or.inl rfl) | apply Kp.alloc))
  have hlk := fun m => (MapAt.look (h.bym.keep (hk0.drewN m) (fun h => h)) key_keyed Try.underlying88 (wzero _) (key_lit h1 h2) (wm_mem hx)).1
  unfold Kv at hlk
  clear h1 h2
  go_enter Try.func25, Try.ntmps25
  go_wp2_with fail
  go_quiet (fail)
  go_wp2_with fail
  go_ret
  exact ⟨rfl, (by repeat (first | exact Kp.refl _ _ | apply Kp.drew | apply Kp.drewN | refine Kp.setCell ?_ _ _ (Or.inl rfl) | apply Kp.alloc))⟩

/-- a recipient, wherever it lies -/
structure Wx where
  id : Int
  rc : Int
  snd : ByteArray
  dom : ByteArray
  loc : Bool
  go : Bool
  nx : Int
/-- a scheduler but for its domains, wherever it lies -/
structure Ab where
  c : Cf
  W : List Wx
  A0 : List ByteArray
  A1 : List ByteArray
  G : List (Int × Int)
  last : Bool
def wx (x : Wt) : Wx := ⟨x.id, x.rc, x.snd, x.dom, x.loc, x.go, x.nx⟩
def ab (s : Sd) : Ab := ⟨s.c, s.Ws.map wx, s.A0, s.A1, s.G, s.last⟩
def Padd (x : ByteArray) (L : List ByteArray) : List ByteArray := if Has x L then L else L ++ [x]
def aPut (A : Ab) (x : Wx) : Ab := { A with W := A.W ++ [x], A0 := if x.loc then A.A0 else Padd x.snd A.A0, A1 := if x.loc then Padd x.snd A.A1 else A.A1 }
def Sput (p N : Nat) (s : Sd) (x : Wx) (w : World) (e : Ending) (w' : World) : Prop :=
  e = .returned (.bool true) ∧ ∃ s', SIn w' p s' (N + 1) ∧ St w w' s s' ∧ ab s' = aPut (ab s) x ∧ s'.Ps = s.Ps
/-- the ring of a transport -/
theorem SIn.add0 {w w' : World} {p N : Nat} {s : Sd} {a : ByteArray} {v' : Value} (h : SIn w p s N) (hx : Has a s.A0 = false) (hl : s.A0.length < N) (hr : RgAt w' s.r0 v' (s.A0 ++ [a])) (hs : SameOrNew w s.v0 v') (hk : Kp (fun k => k = s.r0 ∨ In s.v0 k) w w') :
    ∃ s', SIn w' p s' N ∧ St w w' s s' ∧ ab s' = { ab s with A0 := Padd a s.A0 } ∧ s'.Ps = s.Ps := by
  obtain ⟨h1, h2⟩ := h.setRing0 (Nat.le_refl _) hr hs hk (by simp; omega)
  exact ⟨_, h1, h2, by simp [ab, Padd, hx], rfl⟩
theorem SIn.add1 {w w' : World} {p N : Nat} {s : Sd} {a : ByteArray} {v' : Value} (h : SIn w p s N) (hx : Has a s.A1 = false) (hl : s.A1.length < N) (hr : RgAt w' s.r1 v' (s.A1 ++ [a])) (hs : SameOrNew w s.v1 v') (hk : Kp (fun k => k = s.r1 ∨ In s.v1 k) w w') :
    ∃ s', SIn w' p s' N ∧ St w w' s s' ∧ ab s' = { ab s with A1 := Padd a s.A1 } ∧ s'.Ps = s.Ps := by
  obtain ⟨h1, h2⟩ := h.setRing1 (Nat.le_refl _) hr hs hk (by simp; omega)
  exact ⟨_, h1, h2, by simp [ab, Padd, hx], rfl⟩
theorem ab_addW (s : Sd) (x : Wt) : ab (addW s x) = { ab s with W := (ab s).W ++ [wx x] } := by simp [ab, addW]

set_option maxRecDepth 100000 in
theorem sput_new (p N : Nat) (s : Sd) (id rc n : Int) (a b : ByteArray) (w : World) (h : SIn w p s N) (h1 : (Lit.int .i64 id).wf = true) (h2 : (Lit.int .i64 rc).wf = true) (hn : ∀ z ∈ s.Ws, (z.id, z.rc) ≠ (id, rc)) (hb : b.size ≤ maxLen) (hN : N ≤ 1000000) :
    Calls Try.prog 25 #[.pointer (some ⟨p, 0, none⟩), .int .i64 id, .int .i64 rc, .string a, .string b, .int .i64 n] w (Sput p N s ⟨id, rc, a, b, Has b s.c.L, false, C n⟩ w) := by
  have c2 : w.cell? ⟨p, 1, none⟩ = some s.c.lv := (cell_of h.head 1).trans rfl
  have c13 : w.cell? ⟨p, 12, none⟩ = some (.map (some s.bm)) := (cell_of h.head 12).trans rfl
  have c15 : w.cell? ⟨p, 14, none⟩ = some (.map (some s.br)) := (cell_of h.head 14).trans rfl
  obtain ⟨lo, lc, hlv⟩ := h.loc.slice
  have hsr := SRd.own h.loc hlv
  rw [hlv] at c2
  have lp := lt_of_block h.head
  have hk0 : Kp (fun _ => False) w (w.alloc (.cells #[.int .i64 id, .int .i64 rc] 95)) := (by repeat (first | exact Kp.refl _ _ | apply Kp.drew | apply Kp.drewN | refine Kp.setCell ?_ _ _ (Or.inl rfl) | apply Kp.alloc))
  have hlk := fun m => MapAt.miss (h.bym.keep (hk0.drewN m) (fun h => h)) key_keyed Try.underlying88 (wzero _) (key_lit h1 h2) (wm_miss h h1 h2 hn)
  unfold Kv at hlk
  have hll := h.ll
  have H := Lib.hid h; have HSR := Lib.hid hsr
  clear h hsr hlv
  go_enter Try.func25, Try.ntmps25
  go_wp2_with fail
  go_quiet (fail)
  go_wp2_with fail
  obtain ⟨wq, hq⟩ : ∃ wq, wq = (w.alloc (.cells #[.int .i64 id, .int .i64 rc] 95)).drewN nq := ⟨_, rfl⟩
  have hkq : Kp (fun _ => False) w wq := by rw [hq]; exact (by repeat (first | exact Kp.refl _ _ | apply Kp.drew | apply Kp.drewN | refine Kp.setCell ?_ _ _ (Or.inl rfl) | apply Kp.alloc))
  have hbq : wq.heap[w.heap.size]? = some (.cells #[.int .i64 id, .int .i64 rc] 95 (0, 0)) := by rw [hq]; exact heap_new _
  rw [← hq]
  clear hq hlk hk0 c2 c13 c15
  obtain ⟨kb, hkb⟩ : ∃ kb, kb = w.heap.size := ⟨_, rfl⟩
  rw [← hkb] at hbq ⊢
  have HKB := Lib.hid hkb; clear hkb
  have HQ := Lib.hid (H.out.keep hkq (fun _ _ h => h))
  have HKQ := Lib.hid hkq; have HBQ := Lib.hid hbq; clear hkq
  refine (scontains_any _ _ _ _ _ (HSR.out.keep HKQ.out (fun _ _ _ _ h => h)) (by omega)).mono ?_; rintro e w' ⟨rfl, rfl⟩
  obtain ⟨lo', hlo⟩ : ∃ l, l = Has b s.c.L := ⟨_, rfl⟩
  rw [← hlo]
  have HLO := Lib.hid hlo; clear hlo
  have c13 : wq.cell? ⟨p, 12, none⟩ = some (.map (some s.bm)) := (cell_of HQ.out.head 12).trans rfl
  have c15 : wq.cell? ⟨p, 14, none⟩ = some (.map (some s.br)) := (cell_of HQ.out.head 14).trans rfl
  have k0 := cell_of hbq 0
  have k1 := cell_of hbq 1
  simp only [List.getElem?_toArray, List.getElem?_cons_zero, List.getElem?_cons_succ] at k0 k1
  have lpq := lt_of_block HQ.out.head
  have lkq := lt_of_block hbq
  obtain ⟨x, hx⟩ : ∃ x : Wt, x = ⟨wq.heap.size, id, rc, a, b, lo', false, C n⟩ := ⟨_, rfl⟩
  have hkd : Kp (fun _ => False) wq (wq.alloc (.cells #[.int .i64 id, .int .i64 rc, .string a, .string b, .bool lo', .bool false, .int .i64 (C n)] 99)).drew := (by repeat (first | exact Kp.refl _ _ | apply Kp.drew | apply Kp.drewN | refine Kp.setCell ?_ _ _ (Or.inl rfl) | apply Kp.alloc))
  obtain ⟨w9, hr9, hm9, hk9, hs9⟩ := put_run2 (HQ.out.bym.keep hkd (fun h => h)) key_keyed Try.underlying88 (by have := H.out.lw; unfold maxLen; omega) (key_lit h1 h2) (val := .pointer (some ⟨wq.heap.size, 0, none⟩)) (wm_miss H.out h1 h2 hn)
  unfold Kv at hr9
  have hbl := H.out.lt s.bm (by rw [H.out.cols.bym]; rfl)
  have hpb : p ≠ s.bm := fun e => by have := H.out.cols.head; rw [e, H.out.cols.bym] at this; exact Nat.ne_of_beq_eq_false rfl (congrArg Prod.fst (Option.some.inj this))
  have hkq9 : Kp (· = s.bm) wq w9 := (hkd.mono (fun _ _ h => h.elim)).trans hk9
  have hkbm : kb ≠ s.bm := by have := HKB.out; omega
  have hS9 := Lib.hid (show w9.cell? ⟨p, 12, none⟩ = some (.map (some s.bm)) ∧ w9.cell? ⟨kb, 0, none⟩ = some (.int .i64 id) ∧ w9.cell? ⟨kb, 1, none⟩ = some (.int .i64 rc) from ⟨(hkq9.cell 12 lpq hpb).trans c13, (hkq9.cell 0 lkq hkbm).trans k0, (hkq9.cell 1 lkq hkbm).trans k1⟩)
  have HKQ9 := Lib.hid hkq9; clear hkq9
  have HM9 := Lib.hid hm9; have HK9 := Lib.hid hk9; have HN := Lib.hid hn; clear hm9 hk9 hn
  go_wp2_with fail
  go_region_held3 (fun w' => w'.cell? ⟨p, 12, none⟩ = some (.map (some s.bm)) ∧ w'.cell? ⟨kb, 0, none⟩ = some (.int .i64 id) ∧ w'.cell? ⟨kb, 1, none⟩ = some (.int .i64 rc)) (first | exact ⟨c13, k0, k1⟩ | exact ⟨(hkd.cell 12 lpq (fun h => h)).trans c13, (hkd.cell 0 lkq (fun h => h)).trans k0, (hkd.cell 1 lkq (fun h => h)).trans k1⟩ | exact hS9.out)
    (first | (go_at_call 47; refine (clamp_any _ _).mono ?_; rintro e w1 ⟨rfl, rfl⟩))
  have hb9 : w9.heap[wq.heap.size]? = some (.cells #[.int .i64 id, .int .i64 rc, .string a, .string b, .bool lo', .bool false, .int .i64 (C n)] 99 (0, 0)) := HK9.out.keep (heap_new (w := wq) _) (by have := HQ.out.lt s.bm (by rw [HQ.out.cols.bym]; rfl); omega)
  obtain ⟨hA, hAt⟩ := HQ.out.addWait (x := ⟨wq.heap.size, id, rc, a, b, lo', false, C n⟩) HKQ9.out hb ⟨h1, h2⟩ (Nat.le_refl _) HM9.out hb9
  have hAb := ab_addW s ⟨wq.heap.size, id, rc, a, b, lo', false, C n⟩
  have hAP : (addW s ⟨wq.heap.size, id, rc, a, b, lo', false, C n⟩).Ps = s.Ps := rfl
  have hA0 : (addW s ⟨wq.heap.size, id, rc, a, b, lo', false, C n⟩).A0 = s.A0 := rfl
  have hA1 : (addW s ⟨wq.heap.size, id, rc, a, b, lo', false, C n⟩).A1 = s.A1 := rfl
  have hl0 := H.out.l0; have hl1 := H.out.l1
  obtain ⟨s1, hs1⟩ : ∃ s1, s1 = addW s ⟨wq.heap.size, id, rc, a, b, lo', false, C n⟩ := ⟨_, rfl⟩
  rw [← hs1] at hA hAt hAb hAP hA0 hA1
  have HA := Lib.hid hA
  have HT := Lib.hid (St.trans (St.of (s' := s) HKQ.out (fun _ _ h => h.elim) rfl) hAt)
  have HAB := Lib.hid hAb; have HAP := Lib.hid hAP
  have d15 : w9.cell? ⟨p, 14, none⟩ = some (.map (some s1.br)) := (cell_of hA.head 14).trans rfl
  clear hA hAt hAb hAP c13 c15 k0 k1 hb9 hr9 hS9 hs1
  rw [← hA0] at hl0; rw [← hA1] at hl1
  cases lo' with
  | false =>
    cases hx : Has a s1.A0 with
    | false =>
      go_wp2_with (at_lookup; refine wpList_look1 _ rfl _ _ 90 rfl 4 23 bool_law Try.underlying90 (rzero _) _ _ _ rfl HA.out.rgm _ _ rfl (keyOf_bool_mk Try.underlying4 false) (.pointer (some ⟨s1.r0, 0, none⟩)) (by simp [Rm]) ?_)
      refine (radd_any (s1.r0) (s1.v0) (s1.A0) a _ HA.out.rg0 hx (by omega)).mono ?_; rintro e w3 ⟨rfl, ⟨v3, hr3, hs3⟩, hk3⟩
      obtain ⟨s2, g1, g2, g3, g4⟩ := HA.out.add0 hx (by omega) hr3 hs3 hk3
      have HG := Lib.hid (show Sput p N s ⟨id, rc, a, b, false, false, C n⟩ w (.returned (.bool true)) w3 from ⟨rfl, s2, g1, HT.out.trans g2, by rw [g3, HAB.out, hA0]; rfl, by rw [g4, HAP.out]⟩)
      clear g1 g2 g3 g4 hr3 hs3 hk3
      go_wp2_with fail
      go_ret
      rw [← HLO.out]
      exact HG.out
    | true =>
      go_wp2_with (at_lookup; refine wpList_look1 _ rfl _ _ 90 rfl 4 23 bool_law Try.underlying90 (rzero _) _ _ _ rfl HA.out.rgm _ _ rfl (keyOf_bool_mk Try.underlying4 false) (.pointer (some ⟨s1.r0, 0, none⟩)) (by simp [Rm]) ?_)
      refine (radd_no (s1.r0) (s1.v0) (s1.A0) a _ HA.out.rg0 hx (by omega)).mono ?_; rintro e w3 ⟨rfl, rfl⟩
      have HG := Lib.hid (show Sput p N s ⟨id, rc, a, b, false, false, C n⟩ w (.returned (.bool true)) w9 from ⟨rfl, s1, HA.out, HT.out, by rw [HAB.out]; simp [aPut, Padd, ab, ← hA0, hx, wx], by rw [HAP.out]⟩)
      go_wp2_with fail
      go_ret
      rw [← HLO.out]
      exact HG.out
  | true =>
    cases hx : Has a s1.A1 with
    | false =>
      go_wp2_with (at_lookup; refine wpList_look1 _ rfl _ _ 90 rfl 4 23 bool_law Try.underlying90 (rzero _) _ _ _ rfl HA.out.rgm _ _ rfl (keyOf_bool_mk Try.underlying4 true) (.pointer (some ⟨s1.r1, 0, none⟩)) (by simp [Rm]) ?_)
      refine (radd_any (s1.r1) (s1.v1) (s1.A1) a _ HA.out.rg1 hx (by omega)).mono ?_; rintro e w3 ⟨rfl, ⟨v3, hr3, hs3⟩, hk3⟩
      obtain ⟨s2, g1, g2, g3, g4⟩ := HA.out.add1 hx (by omega) hr3 hs3 hk3
      have HG := Lib.hid (show Sput p N s ⟨id, rc, a, b, true, false, C n⟩ w (.returned (.bool true)) w3 from ⟨rfl, s2, g1, HT.out.trans g2, by rw [g3, HAB.out, hA1]; rfl, by rw [g4, HAP.out]⟩)
      clear g1 g2 g3 g4 hr3 hs3 hk3
      go_wp2_with fail
      go_ret
      rw [← HLO.out]
      exact HG.out
    | true =>
      go_wp2_with (at_lookup; refine wpList_look1 _ rfl _ _ 90 rfl 4 23 bool_law Try.underlying90 (rzero _) _ _ _ rfl HA.out.rgm _ _ rfl (keyOf_bool_mk Try.underlying4 true) (.pointer (some ⟨s1.r1, 0, none⟩)) (by simp [Rm]) ?_)
      refine (radd_no (s1.r1) (s1.v1) (s1.A1) a _ HA.out.rg1 hx (by omega)).mono ?_; rintro e w3 ⟨rfl, rfl⟩
      have HG := Lib.hid (show Sput p N s ⟨id, rc, a, b, true, false, C n⟩ w (.returned (.bool true)) w9 from ⟨rfl, s1, HA.out, HT.out, by rw [HAB.out]; simp [aPut, Padd, ab, ← hA1, hx, wx], by rw [HAP.out]⟩)
      go_wp2_with fail
      go_ret
      rw [← HLO.out]
      exact HG.out
theorem sput_any (p N : Nat) (s : Sd) (id rc n : Int) (a b : ByteArray) (w : World) (h : SIn w p s N) (h1 : (Lit.int .i64 id).wf = true) (h2 : (Lit.int .i64 rc).wf = true) (hb : b.size ≤ maxLen) (hN : N ≤ 1000000) :
    Calls Try.prog 25 #[.pointer (some ⟨p, 0, none⟩), .int .i64 id, .int .i64 rc, .string a, .string b, .int .i64 n] w fun e w' =>
      ((∃ x ∈ (ab s).W, (x.id, x.rc) = (id, rc)) → e = .returned (.bool false) ∧ Kp (fun _ => False) w w') ∧ ((¬ ∃ x ∈ (ab s).W, (x.id, x.rc) = (id, rc)) → Sput p N s ⟨id, rc, a, b, Has b s.c.L, false, C n⟩ w e w') := by
  by_cases hx : ∃ x ∈ s.Ws, (x.id, x.rc) = (id, rc)
  · obtain ⟨x, hx, e⟩ := hx
    simp only [Prod.mk.injEq] at e
    obtain ⟨rfl, rfl⟩ := e
    refine (sput_old p N s x n a b w h hx).mono ?_
    rintro e w' ⟨rfl, hk⟩
    exact ⟨fun _ => ⟨rfl, hk⟩, fun hno => absurd ⟨wx x, List.mem_map.2 ⟨x, hx, rfl⟩, rfl⟩ hno⟩
  · refine (sput_new p N s id rc n a b w h h1 h2 (fun z hz e => hx ⟨z, hz, e⟩) hb hN).mono ?_
    intro e w' hq
    exact ⟨fun ⟨x, hx', e⟩ => by obtain ⟨z, hz, rfl⟩ := List.mem_map.1 hx'; exact absurd ⟨z, hz, e⟩ hx, fun _ => hq⟩
end Go.Proofs.Ytbiahndpfbmoeaa
