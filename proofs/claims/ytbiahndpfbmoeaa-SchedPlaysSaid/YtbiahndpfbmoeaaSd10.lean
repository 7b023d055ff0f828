/- What a scheduler's ready does. Conditions: times do not go back. -/
import Derived.Test.YtbiahndpfbmoeaaSd9
namespace Go.Proofs.Ytbiahndpfbmoeaa
open Go.RowKit Go.Maps SatAid Go.MapKept Go.ChangeMaps Go.WideShapes

theorem wt_info : (Try.prog.info? 96).map (fun i => (i.zero, i.size, i.bytes)) = some (some (.pointer none), 1, 8) := by kernel_rfl
def Rp (R : List Wt) : List Value := R.map fun x => .pointer (some ⟨x.blk, 0, none⟩)
theorem Rp_len (R : List Wt) : (Rp R).length = R.length * 1 := by simp [Rp]
theorem one_ptr {a : Option Addr} : ∀ u ∈ [Value.pointer a], u.oneCell' = true := by intro u hu; simp at hu; subst hu; rfl
/-- may it begin now? -/
def rdy (s : Sd) (loc : Bool) (now : Int) (x : Wt) : Bool := decide (x.loc = loc) && (!x.go && (decide (x.nx ≤ now) && (decide (vB s x.dom < vN s x.dom) && decide (0 < vT s now x.dom))))
theorem filter_step {α : Type} {l : List α} {z : α} {p q : α → Bool} (hn : l.Nodup) (hz : z ∈ l) (hq : ∀ x ∈ l, x ≠ z → q x = p x) (hp : p z = false) : (l.filter q).Perm (if q z then z :: l.filter p else l.filter p) := by
  obtain ⟨a, b, rfl⟩ := List.append_of_mem hz
  have hnd := hn
  rw [List.nodup_append] at hn
  obtain ⟨h1, h2, h3⟩ := hn
  obtain ⟨h4, h5⟩ := List.nodup_cons.1 h2
  have ha : a.filter q = a.filter p := List.filter_congr fun x hx => hq x (List.mem_append_left _ hx) (h3 x hx z (List.mem_cons_self ..))
  have hb : b.filter q = b.filter p := List.filter_congr fun x hx => hq x (List.mem_append_right _ (List.mem_cons_of_mem _ hx)) (fun e => h4 (e ▸ hx))
  rw [List.filter_append, List.filter_append, ha, List.filter_cons, List.filter_cons, hb, hp]
  simp only [Bool.false_eq_true, if_false]
  cases q z with
  | true => simp only [if_true]; exact List.perm_middle
  | false => simp only [Bool.false_eq_true, if_false]; exact List.Perm.refl _
theorem SIn.wnodup {w : World} {p N : Nat} {s : Sd} (h : SIn w p s N) : s.Ws.Nodup := List.nodup_iff_pairwise_ne.2 (h.keys.imp (fun {a b} n e => n (by rw [e])))
/-- what has come so far -/
def sofar (s : Sd) (loc : Bool) (now : Int) (left : Lit → Bool) : List Wt := s.Ws.filter fun x => !left (Kx x.id x.rc) && rdy s loc now x
theorem sofar_step {w : World} {p N : Nat} {s : Sd} {loc : Bool} {now : Int} {left : Lit → Bool} {z : Wt} (h : SIn w p s N) (hz : z ∈ s.Ws) (hl : left (Kx z.id z.rc) = true) :
    (sofar s loc now (fun k => left k && !k.sameKey (Kx z.id z.rc))).Perm (if rdy s loc now z then z :: sofar s loc now left else sofar s loc now left) := by
  have hself : (Kx z.id z.rc).sameKey (Kx z.id z.rc) = true := WideAt.sameKey_self ((h.bym.keyed key_keyed).2 _ (wm_mem hz))
  have := filter_step (l := s.Ws) (z := z) (p := fun x => !left (Kx x.id x.rc) && rdy s loc now x) (q := fun x => !(left (Kx x.id x.rc) && !(Kx x.id x.rc).sameKey (Kx z.id z.rc)) && rdy s loc now x) h.wnodup hz (fun x hx hne => by
    have : (Kx x.id x.rc).sameKey (Kx z.id z.rc) = false := same_not (fun e => hne (by
      obtain ⟨e3, e4⟩ := key_inj (h.wfs x hx).1 (h.wfs x hx).2.1 (h.wfs z hz).1 (h.wfs z hz).2.1 e
      exact h.key_eq hx hz (by rw [e3, e4])))
    simp only [this, Bool.not_false, Bool.and_true]) (by simp only [hl, Bool.not_true, Bool.false_and])
  simp only [hself, Bool.not_true, Bool.and_false, Bool.not_false, Bool.true_and] at this
  exact this
theorem vq_rdy {s s' : Sd} {loc : Bool} {now : Int} {x : Wt} (h : Vq now s s') (hn2 : now ≤ 1099511627776) : rdy s' loc now x = rdy s loc now x := by
  unfold rdy
  rw [h.n, h.b, h.t now _ (Int.le_refl _) hn2]
def Sready (p N : Nat) (s : Sd) (loc : Bool) (now : Int) (w : World) (e : Ending) (w' : World) : Prop :=
  ∃ Ps' col' R v, e = .returned v ∧ SIn w' p { s with Ps := Ps', col := col' } N ∧ St w w' s { s with Ps := Ps', col := col' } ∧ Vq now s { s with Ps := Ps', col := col' } ∧ Own w' 96 1 v R.length (Rp R) ∧ R.Perm (s.Ws.filter (rdy s loc now)) ∧ ∀ k, v.ownBlock = some k → w.heap.size ≤ k ∧ col' k = none
/-- where the loop stands -/
structure RL (w wr : World) (p N : Nat) (s : Sd) (now : Int) (it : Nat) (es : List (Lit × DataW Value)) (left : Lit → Bool) (cnt : Nat) (Lr : List Wt) (Ps' : List Pe) (col' : Nat → Option (Nat × (Int × Int) × ByteArray)) (R : List Wt) (v : Value) : Prop where
  rg : wr.ranges Try.prog 95 Rh s.bm it s.Ws.length (.map es) left cnt
  si : SIn wr p { s with Ps := Ps', col := col' } N
  st : St w wr s { s with Ps := Ps', col := col' }
  vq : Vq now s { s with Ps := Ps', col := col' }
  ow : Own wr 96 1 v R.length (Rp R)
  pm : R.Perm Lr
  vn : ∀ k, v.ownBlock = some k → w.heap.size ≤ k ∧ col' k = none ∧ k ≠ it
  ic : col' it = none
  i0 : w.heap.size ≤ it
section
variable {w wr w3 : World} {p N : Nat} {s : Sd} {now : Int} {it : Nat} {es : List (Lit × DataW Value)} {left left' : Lit → Bool} {cnt cnt' : Nat} {Lr : List Wt} {Ps' : List Pe} {col' : Nat → Option (Nat × (Int × Int) × ByteArray)} {R : List Wt} {v : Value}
theorem col_ne {c : Nat × (Int × Int) × ByteArray} {f : Nat → Option (Nat × (Int × Int) × ByteArray)} {a b : Nat} (h1 : f a = none) (h2 : f b = some c) : a ≠ b := fun e => by rw [e, h2] at h1; cases h1
theorem RL.next (h : RL w wr p N s now it es left cnt Lr Ps' col' R v) (hk : Kp (· = it) wr w3) (hr : w3.ranges Try.prog 95 Rh s.bm it s.Ws.length (.map es) left' cnt') : RL w w3 p N s now it es left' cnt' Lr Ps' col' R v :=
  ⟨hr, h.si.keep hk (fun k e e2 => by subst e2; have e' : (col' k).isSome := e; rw [h.ic] at e'; cases e'), ⟨h.st.old, h.st.new, h.st.kp.trans_new hk (fun k h1 e => by have e' : k = it := e; have := h.i0; omega)⟩, h.vq, h.ow.keep hk (fun k e e2 => (h.vn k e).2.2 e2), h.pm, h.vn, h.ic, h.i0⟩
theorem RL.calm (h : RL w wr p N s now it es left cnt Lr Ps' col' R v) (hk : Kp (fun _ => False) wr w3) : RL w w3 p N s now it es left cnt Lr Ps' col' R v :=
  ⟨ranges_keep h.rg hk (fun h => h) (fun h => h), h.si.keep hk (fun _ _ h => h), h.st.calm hk, h.vq, h.ow.keep hk (fun _ _ h => h), h.pm, h.vn, h.ic, h.i0⟩
theorem RL.turn {Ps2 : List Pe} {col2 : Nat → Option (Nat × (Int × Int) × ByteArray)} {S : Nat → Prop} (h : RL w wr p N s now it es left cnt Lr Ps' col' R v) (hk : Kp S wr w3) (hS : ∀ k, S k → ∃ c, col' k = some c ∧ Nat.beq c.1 1 = false) (hi : SIn w3 p { s with Ps := Ps2, col := col2 } N) (hst : St wr w3 { s with Ps := Ps', col := col' } { s with Ps := Ps2, col := col2 }) (hv : Vq now { s with Ps := Ps', col := col' } { s with Ps := Ps2, col := col2 }) :
    RL w w3 p N s now it es left cnt Lr Ps2 col2 R v := by
  have hno : ∀ k, col' k = none → ¬ S k := fun k e e2 => by obtain ⟨c, e3, _⟩ := hS k e2; rw [e] at e3; cases e3
  have hbm : ¬ S s.bm := fun e => by
    obtain ⟨c, e3, e4⟩ := hS _ e
    have e5 : col' s.bm = some cBy := h.si.cols.bym
    rw [e5] at e3
    obtain rfl := Option.some.inj e3
    cases e4
  refine ⟨ranges_keep h.rg hk hbm (hno _ h.ic), hi, h.st.trans hst, h.vq.trans hv, h.ow.keep hk (fun k e => hno k (h.vn k e).2.1), h.pm, fun k e => ⟨(h.vn k e).1, hst.none (h.ow.lt e) (h.vn k e).2.1, (h.vn k e).2.2⟩, hst.none h.rg.lt h.ic, h.i0⟩
theorem RL.add {x : Wt} {v' : Value} (h : RL w wr p N s now it es left cnt Lr Ps' col' R v) (hk : Kp (In v) wr w3) (ho : Own w3 96 1 v' (R.length + 1) (Rp R ++ [.pointer (some ⟨x.blk, 0, none⟩)])) (hs : SameOrNew wr v v') : RL w w3 p N s now it es left cnt (x :: Lr) Ps' col' (R ++ [x]) v' := by
  have hno : ∀ k, (col' k).isSome → ¬ In v k := fun k e e2 => by rw [(h.vn k e2).2.1] at e; cases e
  refine ⟨ranges_keep h.rg hk (hno _ (by have e5 : col' s.bm = some cBy := h.si.cols.bym; rw [e5]; rfl)) (fun e => (h.vn _ e).2.2 rfl), h.si.keep hk hno, ⟨h.st.old, h.st.new, h.st.kp.trans_new hk (fun k h1 e => by have := (h.vn k e).1; omega)⟩, h.vq, ?_, (List.perm_append_singleton _ _).trans (List.Perm.cons _ h.pm), fun k e => ?_, h.ic, h.i0⟩
  · rw [List.length_append]
    have e : Rp (R ++ [x]) = Rp R ++ [.pointer (some ⟨x.blk, 0, none⟩)] := by simp [Rp]
    rw [e]; exact ho
  · rcases hs with hs | hs
    · rw [hs] at e; exact h.vn k e
    · have h1 := hs k e
      have h2 := h.rg.lt
      have h3 := h.st.kp.size
      refine ⟨by omega, ?_, by omega⟩
      cases hc : col' k with
      | none => rfl
      | some c => have := h.si.lt k (by show (col' k).isSome; rw [hc]; rfl); omega
end
set_option maxRecDepth 100000 in
set_option maxHeartbeats 3200000 in
theorem sready_any (p N : Nat) (s : Sd) (loc : Bool) (now : Int) (w : World) (h : SIn w p s N) (ht : Tik s now) (hn : 0 ≤ now) (hn2 : now ≤ 1099511627776) (hN : N ≤ 1000000) :
    Calls Try.prog 69 #[.pointer (some ⟨p, 0, none⟩), .bool loc, .int .i64 now] w (Sready p N s loc now w) := by
  have c13 : w.cell? ⟨p, 12, none⟩ = some (.map (some s.bm)) := (cell_of h.head 12).trans rfl
  obtain ⟨es, ho, hq⟩ := h.bym
  have HQ := Lib.hid hq; have H := Lib.hid h; have HT := Lib.hid ht; clear hq h ht
  obtain ⟨i0, hi, hz0, hz1, hz2⟩ := info_parts wt_info
  go_enter Try.func69, Try.ntmps69
  go_wp2_with (at_range; refine wpList_range_own _ rfl _ 88 rfl 95 96 key_keyed Try.underlying88 _ s.bm _ _ rfl ho ?_; intro w2 hrg2 hg2 hs2)
  have hk2 : Kp (fun _ => False) w w2 := (Kp.of_grown hg2).mono (fun _ _ h => by cases h)
  have H0 := Lib.hid (show RL w w2 p N s now w.heap.size es (Maps.has (DataW.map es)) (Maps.size (DataW.map es)) (sofar s loc now (Maps.has (DataW.map es))) s.Ps s.col [] (.slice none 0 0) from
    ⟨hrg2, H.out.keep hk2 (fun _ _ h => h), St.of hk2 (fun _ _ h => h.elim) rfl, Vq.refl HT.out, Own.nil _ _ _, by
      have : sofar s loc now (Maps.has (DataW.map es)) = [] := by
        unfold sofar
        rw [List.filter_eq_nil_iff]
        intro z hz
        have hin : ((Kx z.id z.rc), DataW.held (Value.pointer (some ⟨z.blk, 0, none⟩))) ∈ es := HQ.out.mem_iff.2 (List.mem_map.2 ⟨_, wm_mem hz, rfl⟩)
        rw [has_of_mem hin ((H.out.bym.keyed key_keyed).2 _ (wm_mem hz))]
        simp
      rw [this], fun k e => by simp [Value.ownBlock] at e, by
      cases hs : s.col w.heap.size with
      | none => rfl
      | some c => have := H.out.lt w.heap.size (by rw [hs]; rfl); omega, Nat.le_refl _⟩)
  clear hrg2 hg2 hk2 c13 ho hs2
  obtain ⟨it, hit⟩ : ∃ it, it = w.heap.size := ⟨_, rfl⟩
  rw [← hit] at H0 ⊢
  clear hit
  go_wp2_with fail
  go_frame
  go_loopg [7, 9, 10] (Maps.size (DataW.map es)) (fun k o _ _ wr => ∃ (left : Lit → Bool) (Ps' : List Pe) (col' : Nat → Option (Nat × (Int × Int) × ByteArray)) (R : List Wt), RL w wr p N s now it es left k (sofar s loc now left) Ps' col' R o)
  case atStart => exact ⟨_, _, _, _, H0.out⟩
  case round =>
    obtain ⟨left, Ps', col', R, hrl⟩ := hrel
    have HRL := Lib.hid hrl; clear hrl
    go_wp2_with (at_next; refine wpList_next_ranges (α := Value) (β := Value) _ rfl _ rfl 95 key_keyed Rh id id (fun key kl _ => ⟨key, rfl⟩) (fun v y _ => ⟨v, rfl⟩) s.bm it _ _ _ _ rfl HRL.out.rg ?_ ?_)
    · intro _ hl0
      have hall : sofar s loc now left = s.Ws.filter (rdy s loc now) := by
        unfold sofar
        exact List.filter_congr fun x hx => by rw [hl0]; rfl
      have HZ := Lib.hid (show Sready p N s loc now w (.returned u7) wr from ⟨Ps', col', R, u7, rfl, HRL.out.si, HRL.out.st, HRL.out.vq, HRL.out.ow, hall ▸ HRL.out.pm, fun k e => ⟨(HRL.out.vn k e).1, (HRL.out.vn k e).2.1⟩⟩)
      clear hl0 hall
      go_wp2_with fail
      go_ret
      exact HZ.out
    · intro xk c kl y yl w3 cnt' hkey hlk hy hat hrg3 hlt hg3 hs3 hen
      have hy' : y = DataW.held c := by
        have h1 : some (DataW.held c, ([] : List MemPlace)) = some (y, yl) := hy
        simp only [Option.some.injEq, Prod.mk.injEq] at h1
        exact h1.1.symm
      rw [hy'] at hat
      obtain ⟨z, hz, e1⟩ := List.mem_map.1 (entry_mem HQ.out hat)
      simp only [Prod.mk.injEq] at e1
      obtain ⟨rfl, rfl⟩ := e1
      have hk3 : Kp (· = it) wr w3 := (Kp.of_grown hg3).mono (fun _ _ h => by cases h; rfl)
      have H3 := Lib.hid (HRL.out.next hk3 hrg3)
      have HZ := Lib.hid hz; have HLT := Lib.hid hlt
      have HST := Lib.hid (sofar_step (loc := loc) (now := now) H.out hz hlk)
      have HZb := Lib.hid (H3.out.si.wts z hz)
      have z3 : w3.cell? ⟨z.blk, 3, none⟩ = some (.string z.dom) := (cell_of HZb.out 3).trans rfl
      have z4 : w3.cell? ⟨z.blk, 4, none⟩ = some (.bool z.loc) := (cell_of HZb.out 4).trans rfl
      have z5 : w3.cell? ⟨z.blk, 5, none⟩ = some (.bool z.go) := (cell_of HZb.out 5).trans rfl
      have z6 : w3.cell? ⟨z.blk, 6, none⟩ = some (.int .i64 z.nx) := (cell_of HZb.out 6).trans rfl
      clear hrg3 hk3 hg3 hz hlt hat hy hy' hlk hkey hs3
      have SKIP := Lib.hid (fun (h : rdy s loc now z = false) => show RL w w3 p N s now it es (fun k => left k && !k.sameKey (Kx z.id z.rc)) cnt' (sofar s loc now (fun k => left k && !k.sameKey (Kx z.id z.rc))) Ps' col' R u7 from
        { H3.out with pm := by have := HST.out; rw [h] at this; exact H3.out.pm.trans this.symm })
      by_cases e1 : z.loc = loc
      · rw [e1] at z4
        cases e2 : z.go with
        | true =>
          rw [e2] at z5
          have hr := SKIP.out (by unfold rdy; simp [e2])
          have HR := Lib.hid hr; clear hr SKIP
          go_wp2_with fail
          go_roundg cnt'
          case measure => exact HLT.out
          case rel => exact ⟨_, Ps', col', R, HR.out⟩
        | false =>
          rw [e2] at z5
          by_cases e3 : z.nx ≤ now
          · go_wp2_with fail
            refine (speer_any p N { s with Ps := Ps', col := col' } z.dom now _ H3.out.si (H.out.wfs z HZ.out).2.2 hN).mono ?_; rintro e w4 ⟨y, Ps4, col4, rfl, hyd, hpx, hcx, hsi4, hk4⟩
            have hp4 : (s.Ps = s.Ps) := rfl
            have h4 := H3.out.turn hk4 (fun k e => ⟨cPeers, by rw [e]; exact H3.out.si.cols.prm, rfl⟩) hsi4 (St.peer H3.out.si hcx hk4) (Vq.ext (s' := { s with Ps := Ps4, col := col4 }) H3.out.vq.le hn hn2 hpx rfl)
            have hy4 := hpx.1
            obtain ⟨q1, q2, q3⟩ := pn_of h4.si.doms hy4
            obtain ⟨b1, b2, _⟩ := h4.si.prs y hy4
            have y0 : w4.cell? ⟨y.blk, 0, none⟩ = some (.pointer (some ⟨y.wb, 0, none⟩)) := (cell_of b1 0).trans rfl
            have y1 : w4.cell? ⟨y.blk, 1, none⟩ = some (.pointer (some ⟨y.tb, 0, none⟩)) := (cell_of b1 1).trans rfl
            have ly := lt_of_block b1
            obtain ⟨T, hT⟩ : ∃ T, T = vT { s with Ps := Ps4, col := col4 } now y.dom := ⟨_, rfl⟩
            have HRD := Lib.hid (show rdy s loc now z = (decide (y.busy < y.now) && decide (0 < T)) from by
              unfold rdy
              rw [← hyd, ← h4.vq.n, ← h4.vq.b, ← h4.vq.t now _ (Int.le_refl _) hn2, q1, q2, ← hT]
              simp [e1, e2, e3])
            have H4 := Lib.hid h4; have HY4 := Lib.hid hy4; have HB2 := Lib.hid b2; have HTT := Lib.hid hT
            have hne : y.tb ≠ y.blk := col_neq (h4.si.cols.prs y hy4).2.2 (h4.si.cols.prs y hy4).1 rfl
            clear hpx hcx hsi4 hk4 h4 hy4 q1 q2 q3 b1 b2 hT hp4 SKIP
            by_cases hbn : y.busy < y.now
            · have hd1 : decide (y.busy < y.now) = true := decide_eq_true hbn
              go_wp2_with fail
              go_region_held3 (fun w' => w'.cell? ⟨y.blk, 0, none⟩ = some (.pointer (some ⟨y.wb, 0, none⟩)) ∧ w'.cell? ⟨y.blk, 1, none⟩ = some (.pointer (some ⟨y.tb, 0, none⟩))) (first | exact ⟨y0, y1⟩ | exact ⟨(hk5.cell 0 ly (fun h => hne h.symm)).trans y0, (hk5.cell 1 ly (fun h => hne h.symm)).trans y1⟩)
                (first | (go_at_call 66; refine (wbusy_any y.wb _ _ _ _ (by exact HB2.out)).mono ?_; rintro e w' ⟨rfl, rfl⟩) | (go_at_call 65; refine (wnow_any y.wb _ _ _ _ (by exact HB2.out)).mono ?_; rintro e w' ⟨rfl, rfl⟩) | (go_at_call 67; refine (pleft_any p N { s with Ps := Ps4, col := col4 } y now _ (H4.out.calm (Kp.refl _ w4).drew).si HY4.out H4.out.vq.le hn2).mono ?_; rintro e w5 ⟨rfl, g1, hk5, g2, g3⟩; rw [← HTT.out]))
              have h5 := (H4.out.calm (Kp.refl _ w4).drew).turn hk5 (fun k e => ⟨cBuck y.dom, by have e' : k = y.tb := e; rw [e']; exact (H4.out.si.cols.prs y HY4.out).2.2, rfl⟩) g1 g3 g2
              have H5 := Lib.hid h5
              clear hk5 g1 g2 g3 h5
              by_cases hTp : 0 < T
              · have hd2 : decide (0 < T) = true := decide_eq_true hTp
                have hr : rdy s loc now z = true := by rw [HRD.out, hd1, hd2]; rfl
                have HP6 := Lib.hid (by have := HST.out; rw [hr] at this; exact this)
                have hRl : R.length ≤ N := by
                  have h1 := H5.out.pm.length_eq
                  have h2 : (sofar s loc now left).length ≤ s.Ws.length := List.length_filter_le _ _
                  have h3 := H.out.lw
                  omega
                obtain ⟨ov, oc, rfl⟩ := H5.out.ow.slice
                go_wp2_with (at_builtin; (refine wpList_append_prec _ rfl _ _ 131 rfl 96 i0 _ 1 8 Try.underlying131 hi hz0 hz1 hz2 rfl (by decide) _ R.length (Rp R) rfl (by exact H5.out.ow.alloc _) _ 1 1 [.pointer (some ⟨z.blk, 0, none⟩)] rfl (fun h => by cases h) rfl lit_news one_ptr (by unfold maxLen; omega) (by omega) ?_; intro v' w6 ho6 hk6 hsn6 _))
                have h6 := (H5.out.calm ((Kp.refl (fun _ => False) w5).alloc (.cells #[.pointer (some ⟨z.blk, 0, none⟩)] 96))).add (x := z) hk6 ho6 hsn6
                have H6 := Lib.hid h6
                clear ho6 hk6 hsn6 h6
                go_wp2_with fail
                go_roundg cnt'
                case measure => exact HLT.out
                case rel => exact ⟨_, _, _, _, { H6.out with pm := H6.out.pm.trans HP6.out.symm }⟩
              · have hd2 : decide (0 < T) = false := decide_eq_false hTp
                have hr : rdy s loc now z = false := by rw [HRD.out, hd1, hd2]; rfl
                have HP6 := Lib.hid (by have := HST.out; rw [hr] at this; exact this)
                go_wp2_with fail
                go_roundg cnt'
                case measure => exact HLT.out
                case rel => exact ⟨_, _, _, _, { H5.out with pm := H5.out.pm.trans HP6.out.symm }⟩
            · have hd1 : decide (y.busy < y.now) = false := decide_eq_false hbn
              have hr : rdy s loc now z = false := by rw [HRD.out, hd1]; rfl
              have HP6 := Lib.hid (by have := HST.out; rw [hr] at this; exact this)
              go_wp2_with fail
              go_quiet (first | (go_at_call 65; exact Calls.quiet_of_same ((wnow_any y.wb _ _ _ _ (by exact HB2.out)).flip)) | (go_at_call 66; exact Calls.quiet_of_same ((wbusy_any y.wb _ _ _ _ (by exact HB2.out)).flip)))
              go_wp2_with fail
              go_roundg cnt'
              case measure => exact HLT.out
              case rel => exact ⟨_, _, _, _, { H4.out.calm ((Kp.refl (fun _ => False) w4).drewN _) with pm := H4.out.pm.trans HP6.out.symm }⟩
          · have hr := SKIP.out (by unfold rdy; simp [e3])
            have HR := Lib.hid hr; clear hr SKIP
            go_wp2_with fail
            go_roundg cnt'
            case measure => exact HLT.out
            case rel => exact ⟨_, Ps', col', R, HR.out⟩
      · have hb : (z.loc == loc) = false := by simpa using e1
        have hr := SKIP.out (by unfold rdy; simp [e1])
        have HR := Lib.hid hr; clear hr SKIP
        go_wp2_with fail
        go_roundg cnt'
        case measure => exact HLT.out
        case rel => exact ⟨_, Ps', col', R, HR.out⟩
end Go.Proofs.Ytbiahndpfbmoeaa
