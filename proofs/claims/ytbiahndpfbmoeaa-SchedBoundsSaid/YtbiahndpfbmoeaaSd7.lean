/- What a scheduler's gone does. Condition: what goes is not on its way. -/
import Derived.Test.YtbiahndpfbmoeaaSd6
namespace Go.Proofs.Ytbiahndpfbmoeaa
open Go.RowKit Go.Maps SatAid Go.MapKept Go.ChangeMaps Go.WideShapes

theorem col_neq {c d : Nat × (Int × Int) × ByteArray} {f : Nat → Option (Nat × (Int × Int) × ByteArray)} {a b : Nat} (h1 : f a = some c) (h2 : f b = some d) (hne : Nat.beq c.1 d.1 = false) : a ≠ b := fun e => by
  rw [e, h2] at h1
  exact Nat.ne_of_beq_eq_false hne (congrArg Prod.fst (Option.some.inj h1)).symm
/-- 'delete(m, k)' in a region that draws its order -/
theorem step_del_key {P : Program} {w : World} {ops : Array Oper} {o : Oper} {a : Act} {K' : Act → World → Prop} {Q : Exit → Act → World → Prop} {E : Prop} (hg : o.guard = none) (m x : Operand) (t k : TypeId) (hop : o.op = Op.call { callee := Callee.builtin Builtin.delete, args := #[m, x], argTypes := #[t, k] })
    (e : TypeId) (K : Keyed P k) (ht : P.underlying t = some (.map k e)) (b n : Nat) (M : List (Lit × Value))
    (hm : a.eval m = .map (some b)) (h : MapAt w P k b n M) (key : Value) (kl : Lit) (hx : a.eval x = key) (hkey : keyOf P k key = some kl)
    (hK : ∀ w', MapAt w' P k b n (M.filter fun p => !p.1.sameKey kl) → Kp (· = b) w w' → K' (a.put o.dst (.tuple #[])) w') :
    if Region.wanted o (yielded ops a.tmps) = true then Oper.wp P o a w K' Q else E := by
  have hw : Region.wanted o (yielded ops a.tmps) = true := by simp [Region.wanted, hg]
  rw [if_pos hw]
  obtain ⟨es, ho, hq⟩ := h
  obtain ⟨w', hrun, h1, h2⟩ := ho.drop K ht hkey o.type
  obtain ⟨es', hD, hq'⟩ := MapAt.del_key hq
  rw [hD] at h1
  unfold Oper.wp
  simp [execOp, hop, resolve, invoke, builtin, hm, hx, hrun, Result.andThen]
  exact hK w' ⟨es', h1, hq'⟩ (Kp.of_turned h2)
def Pdrop (x : ByteArray) (L : List ByteArray) : List ByteArray := if Has x L then Cut (Ix x L) L else L
def aDel (A : Ab) (k : Int × Int) : Ab := { A with W := A.W.filter fun z => !decide ((z.id, z.rc) = k) }
def aLast (A : Ab) (x : Wx) : Bool := A.W.all fun z => !(decide (z.snd = x.snd) && decide (z.loc = x.loc))
def aGone (A : Ab) (x : Wx) : Ab :=
  let B := aDel A (x.id, x.rc)
  if aLast B x then { B with A0 := if x.loc then B.A0 else Pdrop x.snd B.A0, A1 := if x.loc then Pdrop x.snd B.A1 else B.A1 } else B
theorem ab_delW (s : Sd) (k : Int × Int) : ab (delW s k) = aDel (ab s) k := by
  unfold ab delW aDel
  simp only [List.filter_map]
  rfl
def Sgone (p N : Nat) (s : Sd) (x : Wx) (b : Nat) (cs : Array Value) (w : World) (e : Ending) (w' : World) : Prop :=
  e = .returned (.tuple #[]) ∧ w'.heap[b]? = some (.cells cs 99 (0, 0)) ∧ ∃ s', SIn w' p s' N ∧ St w w' s s' ∧ ab s' = aGone (ab s) x ∧ s'.Ps = s.Ps
theorem entry_mem {es : List (Lit × DataW Value)} {M : List (Lit × Value)} {kl : Lit} {c : Value} (hq : es.Perm (Ms M)) (hat : ∀ zd, (DataW.map es).atKey kl zd = .held c) : (kl, c) ∈ M := by
  cases hf : es.find? (fun p => p.1.sameKey kl) with
  | none =>
    have h1 := hat (.held (.bool true))
    have h2 := hat (.held (.bool false))
    simp only [DataW.atKey, hf] at h1 h2
    rw [← h2] at h1
    simp at h1
  | some q =>
    have h1 := hat (.held (.bool true))
    simp only [DataW.atKey, hf] at h1
    have h2 := List.find?_some hf
    have h3 := List.mem_of_find?_eq_some hf
    obtain ⟨u, hu, e⟩ := List.mem_map.1 (hq.mem_iff.1 h3)
    have e1 : q.1 = kl := WideAt.sameKey_eq h2
    subst e
    simp only [DataW.held.injEq] at h1
    simp only at e1
    rw [← e1, ← h1]
    exact hu
theorem has_of_mem {es : List (Lit × DataW Value)} {kl : Lit} {d : DataW Value} (h : (kl, d) ∈ es) (hk : WideAt.IsKeyLit kl) : Maps.has (DataW.map es) kl = true := by
  simp only [Maps.has]
  exact List.any_eq_true.2 ⟨_, h, WideAt.sameKey_self hk⟩
theorem last_all {s : Sd} {x : Wt} (h : ∀ z ∈ s.Ws, ¬ (z.snd = x.snd ∧ z.loc = x.loc)) : aLast (ab s) (wx x) = true := by
  unfold aLast ab
  rw [List.all_eq_true]
  intro z hz
  obtain ⟨u, hu, rfl⟩ := List.mem_map.1 hz
  have := h u hu
  simp only [wx, Bool.not_eq_true', Bool.and_eq_false_iff]
  by_cases e : u.snd = x.snd
  · exact Or.inr (decide_eq_false (fun e2 => this ⟨e, e2⟩))
  · exact Or.inl (decide_eq_false e)
theorem last_any {s : Sd} {x : Wt} (h : ∃ z ∈ s.Ws, z.snd = x.snd ∧ z.loc = x.loc) : aLast (ab s) (wx x) = false := by
  obtain ⟨z, hz, e1, e2⟩ := h
  unfold aLast ab
  rw [List.all_eq_false]
  exact ⟨wx z, List.mem_map.2 ⟨z, hz, rfl⟩, by simp [wx, e1, e2]⟩
theorem gone_stay {A : Ab} {x : Wx} (h : aLast (aDel A (x.id, x.rc)) x = false) : aGone A x = aDel A (x.id, x.rc) := by
  unfold aGone; simp only [h]; rfl
theorem gone_no0 {s : Sd} {x : Wt} (hl : x.loc = false) (h : aLast (aDel (ab s) (x.id, x.rc)) (wx x) = true) (hh : Has x.snd (aDel (ab s) (x.id, x.rc)).A0 = false) : aGone (ab s) (wx x) = aDel (ab s) (x.id, x.rc) := by
  unfold aGone
  simp only [show (wx x).id = x.id from rfl, show (wx x).rc = x.rc from rfl, show (wx x).loc = x.loc from rfl, show (wx x).snd = x.snd from rfl, h, hl, Pdrop, hh]
  rfl
theorem gone_no1 {s : Sd} {x : Wt} (hl : x.loc = true) (h : aLast (aDel (ab s) (x.id, x.rc)) (wx x) = true) (hh : Has x.snd (aDel (ab s) (x.id, x.rc)).A1 = false) : aGone (ab s) (wx x) = aDel (ab s) (x.id, x.rc) := by
  unfold aGone
  simp only [show (wx x).id = x.id from rfl, show (wx x).rc = x.rc from rfl, show (wx x).loc = x.loc from rfl, show (wx x).snd = x.snd from rfl, h, hl, Pdrop, hh]
  rfl
theorem gone_yes0 {s : Sd} {x : Wt} (hl : x.loc = false) (h : aLast (aDel (ab s) (x.id, x.rc)) (wx x) = true) (hh : Has x.snd (aDel (ab s) (x.id, x.rc)).A0 = true) : aGone (ab s) (wx x) = { aDel (ab s) (x.id, x.rc) with A0 := Cut (Ix x.snd (aDel (ab s) (x.id, x.rc)).A0) (aDel (ab s) (x.id, x.rc)).A0 } := by
  unfold aGone
  simp only [show (wx x).id = x.id from rfl, show (wx x).rc = x.rc from rfl, show (wx x).loc = x.loc from rfl, show (wx x).snd = x.snd from rfl, h, hl, Pdrop, hh]
  rfl
theorem gone_yes1 {s : Sd} {x : Wt} (hl : x.loc = true) (h : aLast (aDel (ab s) (x.id, x.rc)) (wx x) = true) (hh : Has x.snd (aDel (ab s) (x.id, x.rc)).A1 = true) : aGone (ab s) (wx x) = { aDel (ab s) (x.id, x.rc) with A1 := Cut (Ix x.snd (aDel (ab s) (x.id, x.rc)).A1) (aDel (ab s) (x.id, x.rc)).A1 } := by
  unfold aGone
  simp only [show (wx x).id = x.id from rfl, show (wx x).rc = x.rc from rfl, show (wx x).loc = x.loc from rfl, show (wx x).snd = x.snd from rfl, h, hl, Pdrop, hh]
  rfl
theorem ranges_keep {H : Type} {P : Program} {k : TypeId} {R : Value → Option (DataW H × List MemPlace)} {w w' : World} {b r n : Nat} {D : DataW H} {left : Lit → Bool} {cnt : Nat} {S : Nat → Prop} (h : w.ranges P k R b r n D left cnt) (hk : Kp S w w') (hb : ¬ S b) (hr : ¬ S r) : w'.ranges P k R b r n D left cnt := by
  obtain ⟨es, clock, since, seen, c0, hb', F, hs, hD, hr', rest⟩ := h
  exact ⟨es, clock, since, seen, c0, hk.keep hb' hb, F, hs, hD, hk.keep hr' hr, rest⟩
set_option maxRecDepth 100000 in
set_option maxHeartbeats 3200000 in
theorem sgone_any (p N : Nat) (s : Sd) (x : Wt) (w : World) (h : SIn w p s N) (hx : x ∈ s.Ws) (hg : (x.id, x.rc) ∉ s.G) (hN : N ≤ 1000000) :
    Calls Try.prog 50 #[.pointer (some ⟨p, 0, none⟩), .pointer (some ⟨x.blk, 0, none⟩)] w (Sgone p N s (wx x) x.blk (Wc x) w) := by
  have c13 : w.cell? ⟨p, 12, none⟩ = some (.map (some s.bm)) := (cell_of h.head 12).trans rfl
  have x0 : w.cell? ⟨x.blk, 0, none⟩ = some (.int .i64 x.id) := (cell_of (h.wts x hx) 0).trans rfl
  have x1 : w.cell? ⟨x.blk, 1, none⟩ = some (.int .i64 x.rc) := (cell_of (h.wts x hx) 1).trans rfl
  have lp := lt_of_block h.head
  have lx := lt_of_block (h.wts x hx)
  have hpb : p ≠ s.bm := fun e => by have := h.cols.head; rw [e, h.cols.bym] at this; exact Nat.ne_of_beq_eq_false rfl (congrArg Prod.fst (Option.some.inj this))
  have hxb : x.blk ≠ s.bm := fun e => by have := h.cols.wts x hx; rw [e, h.cols.bym] at this; exact Nat.ne_of_beq_eq_false rfl (congrArg Prod.fst (Option.some.inj this))
  have hkey := key_lit (h.wfs x hx).1 (h.wfs x hx).2.1
  unfold Kv at hkey
  have H := Lib.hid h; have HX := Lib.hid hx; have HG := Lib.hid hg; have HKEY := Lib.hid hkey
  clear h hx hg hkey
  go_enter Try.func50, Try.ntmps50
  go_wp2_with fail
  go_region_held3 (fun w' => w'.cell? ⟨p, 12, none⟩ = some (.map (some s.bm)) ∧ w'.cell? ⟨x.blk, 0, none⟩ = some (.int .i64 x.id) ∧ w'.cell? ⟨x.blk, 1, none⟩ = some (.int .i64 x.rc)) (first | exact ⟨c13, x0, x1⟩ | exact ⟨(hk1.cell 12 lp hpb).trans c13, (hk1.cell 0 lx hxb).trans x0, (hk1.cell 1 lx hxb).trans x1⟩)
    (first | (refine step_del_key rfl _ _ 88 95 rfl 96 key_keyed Try.underlying88 s.bm _ _ rfl (H.out.bym.keep (Kp.refl (fun _ => False) w).drew (fun h => h)) _ _ rfl HKEY.out ?_; intro w1 hm1 hk10; have hk1 := (Kp.refl (· = s.bm) w).drew.trans hk10))
  obtain ⟨g1, g2⟩ := H.out.delWait HX.out HG.out hk1 hm1
  have HX1 := Lib.hid (hk1.keep (H.out.wts x HX.out) hxb)
  have HA1 := Lib.hid (ab_delW s (x.id, x.rc))
  obtain ⟨s1, hs1⟩ : ∃ s1, s1 = delW s (x.id, x.rc) := ⟨_, rfl⟩
  have HP1 := Lib.hid (show s1.Ps = s.Ps by rw [hs1]; rfl)
  have HCX := Lib.hid (show s1.col x.blk = some (cWait (x.id, x.rc)) by rw [hs1]; exact H.out.cols.wts x HX.out)
  have HBM := Lib.hid (show s1.bm = s.bm by rw [hs1]; rfl)
  rw [← hs1] at g1 g2 HA1
  have H1 := Lib.hid g1; have HT1 := Lib.hid g2
  clear hs1 hk10 c13 x0 x1
  have c13 : w1.cell? ⟨p, 12, none⟩ = some (.map (some s1.bm)) := (cell_of g1.head 12).trans rfl
  clear hm1 hk1 g1 g2
  obtain ⟨es, ho, hq⟩ := H1.out.bym
  rw [HBM.out] at ho c13
  have HQ := Lib.hid hq; clear hq
  go_wp2_with (at_range; refine wpList_range_own _ rfl _ 88 rfl 95 96 key_keyed Try.underlying88 _ s.bm _ _ rfl ho ?_; intro w2 hrg2 hg2 hs2)
  have HK2 := Lib.hid (show Kp (fun _ => False) w1 w2 from (Kp.of_grown hg2).mono (fun _ _ h => by cases h))
  have HRG := Lib.hid hrg2
  clear hrg2 hg2 c13 ho
  obtain ⟨it, hit⟩ : ∃ it, it = w1.heap.size := ⟨_, rfl⟩
  rw [← hit] at HRG ⊢
  have HIT := Lib.hid hit; clear hit
  go_wp2_with fail
  go_frame
  go_loopg [5] (Maps.size (DataW.map es)) (fun k _ wr => ∃ (left : Lit → Bool), wr.ranges Try.prog 95 Rh s.bm it s1.Ws.length (.map es) left k ∧ Kp (fun _ => False) w1 wr ∧ ∀ z ∈ s1.Ws, left (Kx z.id z.rc) = false → ¬ (z.snd = x.snd ∧ z.loc = x.loc))
  case atStart => exact ⟨_, HRG.out, HK2.out, fun z hz e => by
    have hin : ((Kx z.id z.rc), DataW.held (Value.pointer (some ⟨z.blk, 0, none⟩))) ∈ es := HQ.out.mem_iff.2 (List.mem_map.2 ⟨_, wm_mem hz, rfl⟩)
    rw [has_of_mem hin ((H1.out.bym.keyed key_keyed).2 _ (wm_mem hz))] at e
    cases e⟩
  case round =>
    obtain ⟨left, hrg, hkr, hdone⟩ := hrel
    have HRGr := Lib.hid hrg; have HKR := Lib.hid hkr; have HD := Lib.hid hdone; clear hrg hkr hdone
    go_wp2_with (at_next; refine wpList_next_ranges (α := Value) (β := Value) _ rfl _ rfl 95 key_keyed Rh id id (fun key kl _ => ⟨key, rfl⟩) (fun v y _ => ⟨v, rfl⟩) s.bm it _ _ _ _ rfl HRGr.out ?_ ?_)
    · intro _ hl0
      have hlast := Lib.hid (show aLast (aDel (ab s) (x.id, x.rc)) (wx x) = true by
        rw [← HA1.out]
        exact last_all (fun z hz => HD.out z hz (hl0 _)))
      have HR := Lib.hid (H1.out.keep HKR.out (fun _ _ h => h))
      have HXr := Lib.hid (HKR.out.keep HX1.out (fun h => h))
      have c15 : wr.cell? ⟨p, 14, none⟩ = some (.map (some s1.br)) := (cell_of HR.out.head 14).trans rfl
      have y2 : wr.cell? ⟨x.blk, 2, none⟩ = some (.string x.snd) := (cell_of HXr.out 2).trans rfl
      have y4 : wr.cell? ⟨x.blk, 4, none⟩ = some (.bool x.loc) := (cell_of HXr.out 4).trans rfl
      have hl0' := H1.out.l0; have hl1' := H1.out.l1
      have HT := Lib.hid (HT1.out.calm HKR.out)
      clear hl0
      cases hxl : x.loc with
      | false =>
        rw [hxl] at y4
        have HXN := Lib.hid (show x.blk ≠ s1.r0 ∧ ¬ In s1.v0 x.blk from ⟨col_neq HCX.out HR.out.cols.rg0 rfl, fun h => col_neq HCX.out (HR.out.cols.nm0 _ h) rfl rfl⟩)
        cases hh : Has x.snd s1.A0 with
        | false =>
          have hlr := (MapAt.look (HR.out.rgm.keep (Kp.refl (fun _ => False) wr).drew (fun h => h)) bool_law Try.underlying90 (rzero _) (keyOf_bool_mk Try.underlying4 false) (v := .pointer (some ⟨s1.r0, 0, none⟩)) (by simp [Rm])).2
          go_wp2_with fail
          refine still_tail 13 (by kernel_rfl) (by kernel_rfl) ?_
          simp only [List.take_succ_cons, List.take_zero, List.drop_succ_cons, List.drop_zero]
          repeat still_step
          refine wpStill_nil ?_
          clear hlr
          go_wp2_with fail
          refine (rdrop_no s1.r0 s1.v0 s1.A0 x.snd _ ((HR.out.keep (Kp.refl (fun _ => False) wr).drew (fun _ _ h => h)).rg0) hh (by omega)).mono ?_; rintro e w4 ⟨rfl, rfl⟩
          have HZ := Lib.hid (show Sgone p N s (wx x) x.blk (Wc x) w (.returned (.tuple #[])) wr.drew from ⟨rfl, HXr.out, s1, HR.out.keep (Kp.refl (fun _ => False) wr).drew (fun _ _ h => h), HT.out.calm (Kp.refl _ _).drew, by rw [gone_no0 hxl hlast.out (by rw [← HA1.out]; exact hh), HA1.out], HP1.out⟩)
          go_wp2_with fail
          (first | go_end0 | refine bodyPost_ret (results_none rfl _ _ _) rfl ?_)
          exact HZ.out
        | true =>
          have hlr := (MapAt.look (HR.out.rgm.keep (Kp.refl (fun _ => False) wr).drew (fun h => h)) bool_law Try.underlying90 (rzero _) (keyOf_bool_mk Try.underlying4 false) (v := .pointer (some ⟨s1.r0, 0, none⟩)) (by simp [Rm])).2
          go_wp2_with fail
          refine still_tail 13 (by kernel_rfl) (by kernel_rfl) ?_
          simp only [List.take_succ_cons, List.take_zero, List.drop_succ_cons, List.drop_zero]
          repeat still_step
          refine wpStill_nil ?_
          clear hlr
          go_wp2_with fail
          refine (rdrop_any s1.r0 s1.v0 s1.A0 x.snd _ ((HR.out.keep (Kp.refl (fun _ => False) wr).drew (fun _ _ h => h)).rg0) hh (by omega)).mono ?_; rintro e w4 ⟨rfl, ⟨v4, hr4, hs4⟩, hk4⟩
          obtain ⟨q1, q2⟩ := (HR.out.keep (Kp.refl (fun _ => False) wr).drew (fun _ _ h => h)).setRing0 (Nat.le_refl _) hr4 (Or.inl hs4) hk4 (by rw [Cut_len (of_decide_eq_true hh)]; omega)
          have HZ := Lib.hid (show Sgone p N s (wx x) x.blk (Wc x) w (.returned (.tuple #[])) w4 from ⟨rfl, hk4.keep (b := x.blk) HXr.out (by rintro (h | h); exact HXN.out.1 h; exact HXN.out.2 h), _, q1, (HT.out.calm (Kp.refl _ _).drew).trans q2, by rw [gone_yes0 hxl hlast.out (by rw [← HA1.out]; exact hh), ← HA1.out]; rfl, HP1.out⟩)
          clear q1 q2 hr4 hs4 hk4
          go_wp2_with fail
          (first | go_end0 | refine bodyPost_ret (results_none rfl _ _ _) rfl ?_)
          exact HZ.out
      | true =>
        rw [hxl] at y4
        have HXN := Lib.hid (show x.blk ≠ s1.r1 ∧ ¬ In s1.v1 x.blk from ⟨col_neq HCX.out HR.out.cols.rg1 rfl, fun h => col_neq HCX.out (HR.out.cols.nm1 _ h) rfl rfl⟩)
        cases hh : Has x.snd s1.A1 with
        | false =>
          have hlr := (MapAt.look (HR.out.rgm.keep (Kp.refl (fun _ => False) wr).drew (fun h => h)) bool_law Try.underlying90 (rzero _) (keyOf_bool_mk Try.underlying4 true) (v := .pointer (some ⟨s1.r1, 0, none⟩)) (by simp [Rm])).2
          go_wp2_with fail
          refine still_tail 13 (by kernel_rfl) (by kernel_rfl) ?_
          simp only [List.take_succ_cons, List.take_zero, List.drop_succ_cons, List.drop_zero]
          repeat still_step
          refine wpStill_nil ?_
          clear hlr
          go_wp2_with fail
          refine (rdrop_no s1.r1 s1.v1 s1.A1 x.snd _ ((HR.out.keep (Kp.refl (fun _ => False) wr).drew (fun _ _ h => h)).rg1) hh (by omega)).mono ?_; rintro e w4 ⟨rfl, rfl⟩
          have HZ := Lib.hid (show Sgone p N s (wx x) x.blk (Wc x) w (.returned (.tuple #[])) wr.drew from ⟨rfl, HXr.out, s1, HR.out.keep (Kp.refl (fun _ => False) wr).drew (fun _ _ h => h), HT.out.calm (Kp.refl _ _).drew, by rw [gone_no1 hxl hlast.out (by rw [← HA1.out]; exact hh), HA1.out], HP1.out⟩)
          go_wp2_with fail
          (first | go_end0 | refine bodyPost_ret (results_none rfl _ _ _) rfl ?_)
          exact HZ.out
        | true =>
          have hlr := (MapAt.look (HR.out.rgm.keep (Kp.refl (fun _ => False) wr).drew (fun h => h)) bool_law Try.underlying90 (rzero _) (keyOf_bool_mk Try.underlying4 true) (v := .pointer (some ⟨s1.r1, 0, none⟩)) (by simp [Rm])).2
          go_wp2_with fail
          refine still_tail 13 (by kernel_rfl) (by kernel_rfl) ?_
          simp only [List.take_succ_cons, List.take_zero, List.drop_succ_cons, List.drop_zero]
          repeat still_step
          refine wpStill_nil ?_
          clear hlr
          go_wp2_with fail
          refine (rdrop_any s1.r1 s1.v1 s1.A1 x.snd _ ((HR.out.keep (Kp.refl (fun _ => False) wr).drew (fun _ _ h => h)).rg1) hh (by omega)).mono ?_; rintro e w4 ⟨rfl, ⟨v4, hr4, hs4⟩, hk4⟩
          obtain ⟨q1, q2⟩ := (HR.out.keep (Kp.refl (fun _ => False) wr).drew (fun _ _ h => h)).setRing1 (Nat.le_refl _) hr4 (Or.inl hs4) hk4 (by rw [Cut_len (of_decide_eq_true hh)]; omega)
          have HZ := Lib.hid (show Sgone p N s (wx x) x.blk (Wc x) w (.returned (.tuple #[])) w4 from ⟨rfl, hk4.keep (b := x.blk) HXr.out (by rintro (h | h); exact HXN.out.1 h; exact HXN.out.2 h), _, q1, (HT.out.calm (Kp.refl _ _).drew).trans q2, by rw [gone_yes1 hxl hlast.out (by rw [← HA1.out]; exact hh), ← HA1.out]; rfl, HP1.out⟩)
          clear q1 q2 hr4 hs4 hk4
          go_wp2_with fail
          (first | go_end0 | refine bodyPost_ret (results_none rfl _ _ _) rfl ?_)
          exact HZ.out
    · intro xk c kl y yl w3 cnt' hkey hlk hy hat hrg3 hlt hg3 hs3 hen
      have hy' : y = DataW.held c := by
        have h1 : some (DataW.held c, ([] : List MemPlace)) = some (y, yl) := hy
        simp only [Option.some.injEq, Prod.mk.injEq] at h1
        exact h1.1.symm
      rw [hy'] at hat
      obtain ⟨z, hz, e1⟩ := List.mem_map.1 (entry_mem HQ.out hat)
      simp only [Prod.mk.injEq] at e1
      obtain ⟨rfl, rfl⟩ := e1
      have hk3 : Kp (fun k => k = it) wr w3 := (Kp.of_grown hg3).mono (fun _ _ h => by cases h; rfl)
      have hk13 : Kp (fun _ => False) w1 w3 := HKR.out.trans_new hk3 (fun k h1 h2 => by have := HIT.out; omega)
      have HZb := Lib.hid (hk13.keep (H1.out.wts z hz) (fun h => h))
      have HXb := Lib.hid (hk13.keep HX1.out (fun h => h))
      have z2 : w3.cell? ⟨z.blk, 2, none⟩ = some (.string z.snd) := (cell_of HZb.out 2).trans rfl
      have z4 : w3.cell? ⟨z.blk, 4, none⟩ = some (.bool z.loc) := (cell_of HZb.out 4).trans rfl
      have y2 : w3.cell? ⟨x.blk, 2, none⟩ = some (.string x.snd) := (cell_of HXb.out 2).trans rfl
      have y4 : w3.cell? ⟨x.blk, 4, none⟩ = some (.bool x.loc) := (cell_of HXb.out 4).trans rfl
      have HRG3 := Lib.hid hrg3; have HK13 := Lib.hid hk13; have HZ := Lib.hid hz; have HLT := Lib.hid hlt
      have hnext : ¬ (z.snd = x.snd ∧ z.loc = x.loc) → ∀ u ∈ s1.Ws, (left (Kx u.id u.rc) && !(Kx u.id u.rc).sameKey (Kx z.id z.rc)) = false → ¬ (u.snd = x.snd ∧ u.loc = x.loc) := fun hne u hu e => by
        cases hl : left (Kx u.id u.rc) with
        | false => exact HD.out u hu hl
        | true =>
          rw [hl, Bool.true_and, Bool.not_eq_false'] at e
          have e2 := WideAt.sameKey_eq e
          obtain ⟨e3, e4⟩ := key_inj (H1.out.wfs u hu).1 (H1.out.wfs u hu).2.1 (H1.out.wfs z hz).1 (H1.out.wfs z hz).2.1 e2
          have := H1.out.key_eq hu hz (by rw [e3, e4])
          subst this
          exact hne
      have HNX := Lib.hid hnext
      clear hrg3 hk13 hk3 hg3 hnext hz hlt hat hy hy' hlk hkey hs3
      by_cases e1 : z.snd = x.snd
      · rw [e1] at z2
        by_cases e2 : z.loc = x.loc
        · rw [e2] at z4
          have HL := Lib.hid (show aLast (aDel (ab s) (x.id, x.rc)) (wx x) = false by
            rw [← HA1.out]
            exact last_any ⟨z, HZ.out, e1, e2⟩)
          clear e1 e2
          go_wp2_with fail
          go_quiet (fail)
          go_wp2_with fail
          (first | go_end0 | refine bodyPost_ret (results_none rfl _ _ _) rfl ?_)
          exact ⟨rfl, HXb.out, s1, H1.out.keep (HK13.out.drewN _) (fun _ _ h => h), HT1.out.calm (HK13.out.drewN _), by rw [gone_stay HL.out, HA1.out]; rfl, HP1.out⟩
        · have hb : (z.loc == x.loc) = false := by simpa using e2
          go_wp2_with fail
          go_quiet (fail)
          go_wp2_with fail
          go_roundg cnt'
          case measure => exact HLT.out
          case rel => exact ⟨_, ranges_keep HRG3.out ((Kp.refl (fun _ => False) w3).drewN _) (fun h => h) (fun h => h), HK13.out.drewN _, HNX.out (fun h => e2 h.2)⟩
      · have hb := toList_ne e1
        have hb2 : (z.snd.toList == x.snd.toList) = false := by rw [beq_eq_false_iff_ne]; exact hb
        go_wp2_with fail
        go_quiet (fail)
        go_wp2_with fail
        go_roundg cnt'
        case measure => exact HLT.out
        case rel => exact ⟨_, ranges_keep HRG3.out ((Kp.refl (fun _ => False) w3).drewN _) (fun h => h) (fun h => h), HK13.out.drewN _, HNX.out (fun h => e1 h.1)⟩
end Go.Proofs.Ytbiahndpfbmoeaa
