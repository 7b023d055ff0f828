/- What the reference's Put does. Condition: there are no more recipients than fit into memory. -/
import Derived.Test.YtbiahndpfbmoeaaSf2
import Derived.Test.YtbiahndpfbmoeaaSfS
import Derived.Deep.CutBlock
namespace Go.Proofs.Ytbiahndpfbmoeaa
open Go.RowKit SatAid

theorem wait_info : (Try.prog.info? 62).map (fun i => (i.zero, i.size, i.bytes)) = some (some (.agg #[.int .i64 0, .int .i64 0, .int .i64 0, .string ByteArray.empty, .string ByteArray.empty, .bool false, .bool false]), 7, 64) := by kernel_rfl
theorem Wf_one (x : Wt) : ∀ u ∈ Wf x, u.oneCell' = true := by
  intro u hu
  simp [Wf] at hu
  rcases hu with rfl | rfl | rfl | rfl | rfl | rfl | rfl <;> rfl
theorem dm_find {W W' : List Wx} {k : Int × Int} (h : ∃ x ∈ W, (x.id, x.rc) = k) : dmA (W ++ W') k = dmA W k := by
  unfold dmA
  rw [List.find?_append]
  cases hf : W.find? (fun x => decide ((x.id, x.rc) = k)) with
  | some z => rfl
  | none =>
    rw [List.find?_eq_none] at hf
    obtain ⟨x, hx, e⟩ := h
    exact absurd (decide_eq_true e) (hf x hx)
theorem starts_same {A A' : Ab} (hG : A'.G = A.G) (h : ∀ k ∈ A.G, dmA A'.W k = dmA A.W k) : aStarts A' = aStarts A := by
  unfold aStarts
  rw [hG]
  exact List.map_congr_left fun k hk => by rw [h k hk]
theorem src_cells7 {w w' : World} {v : Value} {ao : Option Addr} {c : Nat} {W : List Wt} (h : Own w 62 7 v W.length (Wl W)) (hv : v = .slice ao W.length c) (hk : Kp (fun _ => False) w w') :
    ∀ ad, ao = some ad → ∀ j u, (Wl W)[j]? = some u → w'.cell? (ad.add j) = some u := by
  intro ad e j u hu
  subst hv
  rcases h.shape with ⟨h1, _, _⟩ | ⟨g, cap, h1, _⟩
  · simp only [Value.slice.injEq] at h1; rw [h1.1] at e; cases e
  · simp only [Value.slice.injEq] at h1
    obtain ⟨rfl, _, rfl⟩ := h1
    cases e
    rw [Addr.add_lit, Nat.zero_add]
    exact (hk.cell _ (h.lt rfl) (fun h => h)).trans (h.cell hu)
theorem fside_false (w : World) : Calls Try.prog 49 #[.bool false] w fun e w' => e = .returned (.int .i64 0) ∧ w = w' := fside_any false w
theorem fside_true (w : World) : Calls Try.prog 49 #[.bool true] w fun e w' => e = .returned (.int .i64 1) ∧ w = w' := fside_any true w
def FPut (q N : Nat) (s : Sd) (vl vp : Value) (x : Wx) (w : World) (e : Ending) (w' : World) : Prop :=
  ((∃ z ∈ (ab s).W, (z.id, z.rc) = (x.id, x.rc)) → e = .returned (.bool false) ∧ MIn w' q s vl vp N ∧ Kp (fun _ => False) w w') ∧
  ((¬ ∃ z ∈ (ab s).W, (z.id, z.rc) = (x.id, x.rc)) → e = .returned (.bool true) ∧ ∃ s' vl', MIn w' q s' vl' vp (N + 1) ∧ St w w' s s' ∧ ab s' = aPut (ab s) x ∧ s'.Ps = s.Ps ∧ s'.D = s.D ++ [x.dom])
/-- one more waits, in a row of its own -/
theorem MIn.putL {w w6 z : World} {q N : Nat} {s : Sd} {vl vp v9 : Value} {X : Wt} (h : MIn w q s vl vp N) (hS : Kp (fun _ => False) w z) (ho : z.ownsRow w.heap.size 62 7 v9 (s.Ws.length + 1) (Wl s.Ws ++ Wf X)) (hw : w6 = z.setCell ⟨q, 12, none⟩ v9) (hn : ∀ x ∈ s.Ws, ¬ (x.id = X.id ∧ x.rc = X.rc)) :
    MIn w6 q (fL s v9 (s.Ws ++ [X]) (s.D ++ [X.dom])) v9 vp (N + 1) ∧ St w w6 s (fL s v9 (s.Ws ++ [X]) (s.D ++ [X.dom])) := by
  subst hw
  have hq := lt_of_block h.head
  have hnew : ∀ k, v9.ownBlock = some k → w.heap.size ≤ k := fun k e => (World.ownsRow.lt ho k e).1
  refine h.setL (Nat.le_succ N) ((hS.mono (fun _ _ h => h.elim)).setCell _ _ (Or.inl (Or.inl rfl))) (heap_set (hS.keep h.head (fun h => h)) _) ?_ (Or.inr hnew) (fun d hd => List.mem_append_left _ hd) (fun x hx => ?_) ?_ (fun k hk => ?_) ?_ ?_ ?_
  · rw [List.length_append, Wl_app, show Wl [X] = Wf X by simp [Wl]]
    exact Own.keep (own_weaken ho) ((Kp.refl (· = q) z).setCell ⟨q, 12, none⟩ _ (Or.inl rfl)) (fun k hk e => by have := hnew k hk; have e2 : k = q := e; omega)
  · rcases List.mem_append.1 hx with hx | hx
    · exact List.mem_append_left _ (h.wfs x hx)
    · obtain rfl := List.mem_singleton.1 hx; exact List.mem_append_right _ (List.mem_singleton_self _)
  · rw [List.pairwise_append]
    exact ⟨h.keys, List.pairwise_singleton _ _, fun a ha b hb => by
      obtain rfl := List.mem_singleton.1 hb
      intro e
      exact hn a ha ⟨congrArg Prod.fst e, congrArg Prod.snd e⟩⟩
  · obtain ⟨x, hx, e1, e2⟩ := h.gin k hk
    exact ⟨x, List.mem_append_left _ hx, e1, e2⟩
  · refine starts_same rfl (fun k hk => ?_)
    obtain ⟨x, hx, e1, _⟩ := h.gin k hk
    show dmA ((s.Ws ++ [X]).map wx) k = dmA (s.Ws.map wx) k
    rw [List.map_append]
    exact dm_find ⟨wx x, List.mem_map.2 ⟨x, hx, rfl⟩, e1⟩
  · have := h.lw; simp; omega
  · have := h.ld; simp; omega
theorem MIn.rfG {w : World} {q N : Nat} {s : Sd} {vl vp : Value} (h : MIn w q s vl vp N) (b : Bool) : RfG w q (if b then 16 else 15) (Hm s vl vp) 56 (if b then s.v1 else s.v0) (if b then s.A1 else s.A0) := by
  cases b
  · exact ⟨h.head, rfl, h.rg0⟩
  · exact ⟨h.head, rfl, h.rg1⟩
theorem MIn.ring {w w' : World} {q N : Nat} {s : Sd} {vl vp v' : Value} {A' : List ByteArray} (h : MIn w q s vl vp N) (b : Bool) (hr : RfG w' q (if b then 16 else 15) ((Hm s vl vp).setIfInBounds (if b then 16 else 15) v') 56 v' A') (hk : Kp (fun k => k = q) w w') (hn : ∀ k, v'.ownBlock = some k → w.heap.size ≤ k) (hnd : A'.Nodup) (hl : A'.length ≤ N) :
    MIn w' q (fR s b v' A') vl vp N ∧ St w w' s (fR s b v' A') := by
  refine h.setR b hk ?_ hr.row hn hnd hl
  cases b
  · exact hr.head
  · exact hr.head
theorem nodup_snoc {L : List ByteArray} {x : ByteArray} (h : L.Nodup) (hx : Has x L = false) : (L ++ [x]).Nodup := by
  rw [List.nodup_append]
  refine ⟨h, List.nodup_cons.2 ⟨List.not_mem_nil, List.nodup_nil⟩, fun a ha b hb e => ?_⟩
  obtain rfl := List.mem_singleton.1 hb
  subst e
  rw [(Has_mem _ _).2 ha] at hx
  cases hx
set_option maxRecDepth 100000 in
set_option maxHeartbeats 3200000 in
theorem fput_any (q N : Nat) (s : Sd) (vl vp : Value) (id rc nx : Int) (snd dom : ByteArray) (l0 k0 : Bool) (w : World) (h : MIn w q s vl vp N) (hN : N ≤ 1000000) :
    Calls Try.prog 26 #[.pointer (some ⟨q, 0, none⟩), .agg #[.int .i64 id, .int .i64 rc, .int .i64 nx, .string snd, .string dom, .bool l0, .bool k0]] w (FPut q N s vl vp ⟨id, rc, snd, dom, Has dom s.c.L, false, C nx⟩ w) := by
  obtain ⟨lo, lc, hlv, hlrd, _⟩ := h.loc
  obtain ⟨ao, cap, rfl, _, _, hao⟩ := lrow_own h.lst
  obtain ⟨i0, hi, hi0, hi1, hi2⟩ := info_parts wait_info
  have HLV := Lib.hid hlv; have HLRD := Lib.hid hlrd; have H := Lib.hid h
  have hll : s.c.L.length ≤ 1000000 := Nat.le_trans h.ll hN
  have HNONE := Lib.hid (show ao = none → s.Ws.length = 0 ∧ cap = 0 from fun e => by
    subst e
    rcases h.lst.shape with ⟨h1, h2, _⟩ | ⟨g, c, h1, _⟩
    · simp only [Value.slice.injEq] at h1; exact ⟨h2, h1.2.2⟩
    · simp only [Value.slice.injEq] at h1; cases h1.1)
  clear h hlv hlrd hao
  go_enter Try.func26, Try.ntmps26
  go_wp2_with fail
  refine (fat_any q N s _ vp id rc _ (H.out.calm (by repeat (first | exact Kp.refl _ _ | apply Kp.drew | apply Kp.drewN | refine Kp.setCell ?_ _ _ (Or.inl rfl) | apply Kp.alloc))) hN).mono ?_; rintro e w1' ⟨r, rfl, hr, rfl⟩
  have hb1 := heap_new (w := w) (.cells #[.int .i64 id, .int .i64 rc, .int .i64 nx, .string snd, .string dom, .bool l0, .bool k0] 62)
  have hk1 : Kp (fun _ => False) w (w.alloc (.cells #[.int .i64 id, .int .i64 rc, .int .i64 nx, .string snd, .string dom, .bool l0, .bool k0] 62)) := (by repeat (first | exact Kp.refl _ _ | apply Kp.drew | apply Kp.drewN | refine Kp.setCell ?_ _ _ (Or.inl rfl) | apply Kp.alloc))
  obtain ⟨w1, hw1⟩ : ∃ w1, w1 = w.alloc (.cells #[.int .i64 id, .int .i64 rc, .int .i64 nx, .string snd, .string dom, .bool l0, .bool k0] 62) := ⟨_, rfl⟩
  obtain ⟨b3, hb3⟩ : ∃ b3, b3 = w.heap.size := ⟨_, rfl⟩
  rw [← hw1] at hb1 hk1 ⊢
  rw [← hb3] at hb1 ⊢
  have HK1 := Lib.hid hk1; have HB1 := Lib.hid hb1; have HB3 := Lib.hid hb3
  have H1 := Lib.hid (H.out.calm hk1)
  clear hw1 hk1 hb1 hb3
  rcases hr with ⟨i, x, hx, hxi, hxr, rfl, _⟩ | ⟨hno, rfl⟩
  · have HR := Lib.hid (show FPut q N s (.slice ao s.Ws.length cap) vp ⟨id, rc, snd, dom, Has dom s.c.L, false, C nx⟩ w (.returned (.bool false)) w1 from ⟨fun _ => ⟨rfl, H1.out, HK1.out⟩, fun hn => absurd ⟨wx x, List.mem_map.2 ⟨x, List.mem_of_getElem? hx, rfl⟩, by show (x.id, x.rc) = (id, rc); rw [hxi, hxr]⟩ hn⟩)
    have q0 : (0 : Int) ≤ (i : Int) := by omega
    clear hx hxi hxr
    go_wp2_with fail
    go_ret
    exact HR.out
  obtain ⟨lb, hlb⟩ : ∃ lb, lb = Has dom s.c.L := ⟨_, rfl⟩
  have HNO := Lib.hid hno
  have c1 : w1.cell? ⟨q, 1, none⟩ = some (.slice lo s.c.L.length lc) := (cell_of H1.out.head 1).trans (by show some s.c.lv = _; rw [HLV.out])
  have b4 : w1.cell? ⟨b3, 4, none⟩ = some (.string dom) := (cell_of HB1.out 4).trans rfl
  have b2 : w1.cell? ⟨b3, 2, none⟩ = some (.int .i64 nx) := (cell_of HB1.out 2).trans rfl
  have e5 := frozen_of HB1.out 5; have e6 := frozen_of HB1.out 6; have e2 := frozen_of HB1.out 2
  have b5 : w1.cell? ⟨b3, 5, none⟩ = some (.bool l0) := (cell_of HB1.out 5).trans rfl
  have b6 : w1.cell? ⟨b3, 6, none⟩ = some (.bool k0) := (cell_of HB1.out 6).trans rfl
  have lq := lt_of_block H1.out.head
  have lb3 := lt_of_block HB1.out
  have hqb : ¬ q = b3 := fun e => by have h1 := lt_of_block H.out.head; have h2 := HB3.out; omega
  have HLR1 := Lib.hid (show SRd w1 lo s.c.L from HLRD.out.keep HK1.out (fun _ _ _ _ h => h))
  have hiz : decide ((0 : Int) ≤ Iz dom s.c.L) = lb := by rw [hlb]; exact Iz_ge _ _
  rw [← hlb]
  have HLB := Lib.hid hlb
  clear hno hlb
  go_wp2_with fail
  go_region_held3 (fun w' => w'.cell? ⟨q, 1, none⟩ = some (.slice lo s.c.L.length lc) ∧ w'.cell? ⟨b3, 4, none⟩ = some (.string dom)) (first | exact ⟨c1, b4⟩ | exact ⟨(World.cell?_setCell_far _ _ _ _ (Ne.symm hqb)).trans c1, (World.cell?_setCell_other _ _ _ _ (by intro e; cases e)).trans b4⟩)
    (first | (go_at_call 41; refine (rhas_any lo lc s.c.L dom _ (HLR1.out.keep (Kp.refl (fun _ => False) w1).drew (fun _ _ _ _ h => h)) (by omega)).mono ?_; rintro e w2 ⟨rfl, rfl⟩))
  go_wp2_with fail
  refine (rclamp_any nx _).mono ?_; rintro e w2 ⟨rfl, rfl⟩
  go_wp2_with fail
  have hb5 : ((((w1.setCell ⟨b3, 5, none⟩ (.bool lb)).setCell ⟨b3, 6, none⟩ (.bool false)).setCell ⟨b3, 2, none⟩ (.int .i64 (C nx))).drew).heap[b3]? = some (.cells #[.int .i64 id, .int .i64 rc, .int .i64 (C nx), .string snd, .string dom, .bool lb, .bool false] 62 (0, 0)) := heap_set (heap_set (heap_set HB1.out _) _) _
  have hk15 : Kp (fun k => k = b3) w1 ((((w1.setCell ⟨b3, 5, none⟩ (.bool lb)).setCell ⟨b3, 6, none⟩ (.bool false)).setCell ⟨b3, 2, none⟩ (.int .i64 (C nx))).drew) := (by repeat (first | exact Kp.refl _ _ | apply Kp.drew | apply Kp.drewN | refine Kp.setCell ?_ _ _ (Or.inl rfl) | apply Kp.alloc))
  obtain ⟨w5, hw5⟩ : ∃ w5, w5 = (((w1.setCell ⟨b3, 5, none⟩ (.bool lb)).setCell ⟨b3, 6, none⟩ (.bool false)).setCell ⟨b3, 2, none⟩ (.int .i64 (C nx))).drew := ⟨_, rfl⟩
  rw [← hw5] at hb5 hk15 ⊢
  have hk5 : Kp (fun _ => False) w w5 := HK1.out.trans_new hk15 (fun k h1 h2 => by have h3 : k = b3 := h2; have := HB3.out; omega)
  obtain ⟨W, hW⟩ : ∃ W, W = s.Ws := ⟨_, rfl⟩
  have h5 := H.out.calm hk5
  have HF := Lib.hid (show ∀ w', Kp (fun _ => False) w5 w' → w'.cell? ⟨q, 12, none⟩ = some (.slice ao W.length cap) ∧ w'.cell? ⟨b3, 0, none⟩ = some (.int .i64 id) ∧ w'.cell? ⟨b3, 1, none⟩ = some (.int .i64 rc) ∧ w'.cell? ⟨b3, 2, none⟩ = some (.int .i64 (C nx)) ∧ w'.cell? ⟨b3, 3, none⟩ = some (.string snd) ∧ w'.cell? ⟨b3, 4, none⟩ = some (.string dom) ∧ w'.cell? ⟨b3, 5, none⟩ = some (.bool lb) ∧ w'.cell? ⟨b3, 6, none⟩ = some (.bool false) from fun w' hk => by
    have hb := hk.keep hb5 (fun h => h)
    rw [hW]
    exact ⟨(cell_of (hk.keep h5.head (fun h => h)) 12).trans rfl, (cell_of hb 0).trans rfl, (cell_of hb 1).trans rfl, (cell_of hb 2).trans rfl, (cell_of hb 3).trans rfl, (cell_of hb 4).trans rfl, (cell_of hb 5).trans rfl, (cell_of hb 6).trans rfl⟩)
  have HNW := Lib.hid (show ∀ w', Kp (fun _ => False) w5 w' → ∀ ad, ao = some ad → ∀ j u, (Wl W)[j]? = some u → w'.cell? (ad.add j) = some u from fun w' hk => by rw [hW]; exact src_cells7 h5.lst rfl hk)
  have HQ5 := Lib.hid (show q < w5.heap.size ∧ w5.frozen? ⟨q, 12, none⟩ = false from ⟨lt_of_block h5.head, frozen_of h5.head 12⟩)
  rw [← hW] at HNONE ⊢
  have HW := Lib.hid hW; have H5 := Lib.hid h5; have HK5 := Lib.hid hk5; have HB5 := Lib.hid hb5
  have hwl : W.length ≤ 1000000 := by rw [hW]; exact Nat.le_trans h5.lw hN
  clear hW h5 hk5 hb5 hk15 hw5 c1 b4 b2 e5 e6 e2 b5 b6 hiz HB1 H1 HLR1
  go_cut [] from 27 (fun wx => ∃ (z : World) (a9 : Option Addr) (c9 : Nat), wx = z.setCell ⟨q, 12, none⟩ (.slice a9 (W.length + 1) c9) ∧ Kp (fun _ => False) w5 z ∧ z.ownsRow w5.heap.size 62 7 (.slice a9 (W.length + 1) c9) (W.length + 1) (Wl W ++ Wf ⟨0, id, rc, snd, dom, lb, false, C nx⟩))
  case first =>
    refine region_E 12 (fun w' => Kp (fun _ => False) w5 w') (by kernel_rfl) (Kp.refl _ _).drew (fun hS => ?_)
    refine takeE (i := 0) (v := ?_) rfl (by kernel_rfl) (by kernel_rfl) (by kernel_rfl) (by kernel_rfl) (fun _ _ _ h => h) hS (Or.inl ⟨by rfl, ?_⟩) ?_
    rotate_left
    · intro w hSw; obtain ⟨f12, g0, g1, g2, g3, g4, g5, g6⟩ := HF.out w hSw; go_simp <;> with_reducible rfl
    try simp only [Act.put, List.setIfInBounds_toArray, List.set_cons_zero, List.set_cons_succ]
    refine takeE (i := 2) (v := ?_) rfl (by kernel_rfl) (by kernel_rfl) (by kernel_rfl) (by kernel_rfl) (fun _ _ _ h => h) hS (Or.inl ⟨by rfl, ?_⟩) ?_
    rotate_left
    · intro w hSw; obtain ⟨f12, g0, g1, g2, g3, g4, g5, g6⟩ := HF.out w hSw; go_simp <;> with_reducible rfl
    try simp only [Act.put, List.setIfInBounds_toArray, List.set_cons_zero, List.set_cons_succ]
    refine takeE (i := 3) (v := ?_) rfl (by kernel_rfl) (by kernel_rfl) (by kernel_rfl) (by kernel_rfl) (fun _ _ _ h => h) hS (Or.inl ⟨by rfl, ?_⟩) ?_
    rotate_left
    · intro w hSw; obtain ⟨f12, g0, g1, g2, g3, g4, g5, g6⟩ := HF.out w hSw; go_simp <;> with_reducible rfl
    try simp only [Act.put, List.setIfInBounds_toArray, List.set_cons_zero, List.set_cons_succ]
    refine takeE (i := 4) (v := ?_) rfl (by kernel_rfl) (by kernel_rfl) (by kernel_rfl) (by kernel_rfl) (fun _ _ _ h => h) hS (Or.inl ⟨by rfl, ?_⟩) ?_
    rotate_left
    · intro w hSw; obtain ⟨f12, g0, g1, g2, g3, g4, g5, g6⟩ := HF.out w hSw; go_simp <;> with_reducible rfl
    try simp only [Act.put, List.setIfInBounds_toArray, List.set_cons_zero, List.set_cons_succ]
    refine takeE (i := 5) (v := ?_) rfl (by kernel_rfl) (by kernel_rfl) (by kernel_rfl) (by kernel_rfl) (fun _ _ _ h => h) hS (Or.inl ⟨by rfl, ?_⟩) ?_
    rotate_left
    · intro w hSw; obtain ⟨f12, g0, g1, g2, g3, g4, g5, g6⟩ := HF.out w hSw; go_simp <;> with_reducible rfl
    try simp only [Act.put, List.setIfInBounds_toArray, List.set_cons_zero, List.set_cons_succ]
    refine takeE (i := 7) (v := ?_) rfl (by kernel_rfl) (by kernel_rfl) (by kernel_rfl) (by kernel_rfl) (fun _ _ _ h => h) hS (Or.inl ⟨by rfl, ?_⟩) ?_
    rotate_left
    · intro w hSw; obtain ⟨f12, g0, g1, g2, g3, g4, g5, g6⟩ := HF.out w hSw; go_simp <;> with_reducible rfl
    try simp only [Act.put, List.setIfInBounds_toArray, List.set_cons_zero, List.set_cons_succ]
    refine readyE (rs := [1, 8]) (by kernel_rfl) (by simp) ?_
    refine consE (o := _) rfl (fun K hK => ?_) (consE (o := _) rfl (fun K hK => ?_) nilE)
    ·
      -- 1 buildSlice
      go_simp
      have hsz1 := hS.size
      refine allocE hK (hS.alloc _) (fun z1 hz1 hS => ?_)
      have hO1 : z1.ownsRow w5.heap.size 62 7 (.slice (some ⟨w5.drew.heap.size, 0, none⟩) 0 0) 0 [] := by rw [hz1]; exact World.ownsRow_lit _ #[] 0 hsz1 (by unfold maxLen; omega) rfl
      have hk1 : Kp (fun _ => False) w5.drew z1 := by rw [hz1]; exact (Kp.refl _ _).alloc _
      have hd1 : w5.drew.heap.size < z1.heap.size := by rw [hz1, World.size_alloc]; exact Nat.lt_succ_self _
      have hin1 : ∀ k, In (.slice (some ⟨w5.drew.heap.size, 0, none⟩) 0 0) k → k = w5.drew.heap.size := fun k e => by have e2 : some w5.drew.heap.size = some k := e; cases e2; rfl
      try (have hC8b := news_keep hk1 hl8 (fun h => h) hC8; have hl8b := Nat.lt_of_lt_of_le hl8 hk1.size; clear hC8 hl8; have hC8 := hC8b; have hl8 := hl8b; clear hC8b hl8b)
      clear hz1
      clear hK K
      try simp only [Act.put, List.setIfInBounds_toArray, List.set_cons_zero, List.set_cons_succ]
      refine readyE (rs := [6, 8]) (by kernel_rfl) (by simp) ?_
      refine consE (o := _) rfl (fun K hK => ?_) (consE (o := _) rfl (fun K hK => ?_) nilE)
      ·
        -- 6 call
        refine step_append_src rfl _ _ 51 rfl w5.heap.size 62 i0 _ 7 64 Try.underlying51 hi hi0 hi1 hi2 rfl (by decide) _ 0 [] rfl (by first | exact hO1 | exact own_keep hO1 hk8 (fun _ _ h => h)) ao W.length cap (Wl W) rfl HNONE.out (Wl_len _) (HNW.out _ hS) (Wl_one _) (by unfold maxLen; omega) (by omega) hS.size ?_
        intro v6 z2 hO6 hk6
        have hS6 : Kp (fun _ => False) w5 z2 := hS.trans_new hk6 (fun k h1 h2 => by have := hin1 k h2; omega)
        try (have hC8b := news_keep hk6 hl8 (fun e => by have := hin1 _ e; omega) hC8; have hl8b := Nat.lt_of_lt_of_le hl8 hk6.size; clear hC8 hl8; have hC8 := hC8b; have hl8 := hl8b; clear hC8b hl8b)
        refine keepE hK hS6 (fun hS => ?_)
        clear hK K
        try simp only [Act.put, List.setIfInBounds_toArray, List.set_cons_zero, List.set_cons_succ]
        refine readyE (rs := [8]) (by kernel_rfl) (by simp) ?_
        refine consE (o := _) rfl (fun K hK => ?_) nilE
        -- 8 buildSlice
        go_simp
        have hsz8 := hS.size
        refine allocE hK (hS.alloc _) (fun z3 hz3 hS => ?_)
        have hC8 : ∀ j u, (Wf ⟨0, id, rc, snd, dom, lb, false, C nx⟩)[j]? = some u → z3.cell? ((⟨z2.heap.size, 0, none⟩ : Addr).add j) = some u := by rw [hz3]; exact lit_news (cs := Wf ⟨0, id, rc, snd, dom, lb, false, C nx⟩) _ rfl
        have hk8 : Kp (fun _ => False) z2 z3 := by rw [hz3]; exact (Kp.refl _ _).alloc _
        have hd8 : z2.heap.size < z3.heap.size := by rw [hz3, World.size_alloc]; exact Nat.lt_succ_self _
        have hl8 : z2.heap.size < z3.heap.size := by omega
        clear hz3
        clear hK K
        try simp only [Act.put, List.setIfInBounds_toArray, List.set_cons_zero, List.set_cons_succ]
        refine readyE (rs := [9]) (by kernel_rfl) (by simp) ?_
        refine consE (o := _) rfl (fun K hK => ?_) nilE
        -- 9 call
        refine step_append_src rfl _ _ 51 rfl w5.heap.size 62 i0 _ 7 64 Try.underlying51 hi hi0 hi1 hi2 rfl (by decide) _ _ _ rfl (by first | exact hO6 | exact own_keep hO6 hk8 (fun _ _ h => h)) (some ⟨_, 0, none⟩) 1 1 (Wf ⟨0, id, rc, snd, dom, lb, false, C nx⟩) rfl (fun h => by cases h) rfl (by intro ad e; cases e; exact hC8) (Wf_one _) (by unfold maxLen; omega) (by omega) hS.size ?_
        intro v9 z4 hO9 hk9
        obtain ⟨a9, c9, rfl⟩ := (own_weaken hO9).slice
        have hS9 : Kp (fun _ => False) w5 z4 := hS.trans_new hk9 (fun k h1 h2 => by have := (World.ownsRow.lt hO6 k h2).1; omega)
        refine keepE hK hS9 (fun hS => ?_)
        clear hK K
        try simp only [Act.put, List.setIfInBounds_toArray, List.set_cons_zero, List.set_cons_succ]
        refine readyE (rs := [10]) (by kernel_rfl) (by simp) ?_
        refine consE (o := _) rfl (fun K hK => ?_) nilE
        -- 10 nilCheck
        go_simp
        refine keepE hK hS (fun hS => ?_)
        clear hK K
        try simp only [Act.put, List.setIfInBounds_toArray, List.set_cons_zero, List.set_cons_succ]
        refine takeE (i := 11) (v := ?_) rfl (by kernel_rfl) (by kernel_rfl) (by kernel_rfl) (by kernel_rfl) (fun _ _ _ h => h) hS (Or.inl ⟨by rfl, ?_⟩) ?_
        rotate_left
        · intro w hSw; obtain ⟨f12, g0, g1, g2, g3, g4, g5, g6⟩ := HF.out w hSw; go_simp <;> with_reducible rfl
        try simp only [Act.put, List.setIfInBounds_toArray, List.set_cons_zero, List.set_cons_succ]
        refine readyE (rs := [12]) (by kernel_rfl) (by simp) ?_
        refine consE (o := _) rfl (fun K hK => ?_) nilE
        -- 12 store
        have e12 := (hS.frozen 12 HQ5.out.1 (fun h => h)).trans HQ5.out.2
        obtain ⟨f12, _⟩ := HF.out _ hS
        go_simp
        refine hK.out _ _ (fun h => absurd rfl h) ?_
        clear hK K
        try simp only [Act.put, List.setIfInBounds_toArray, List.set_cons_zero, List.set_cons_succ]
        refine doneE (by kernel_rfl) ?_ _
        go_wp2_with fail
        go_meet
        exact ⟨_, _, _, rfl, hS, by have h := hO9; rw [List.nil_append, Nat.zero_add] at h; exact h⟩
      ·
        -- 8 buildSlice
        go_simp
        have hsz8 := hS.size
        refine allocE hK (hS.alloc _) (fun z2 hz2 hS => ?_)
        have hC8 : ∀ j u, (Wf ⟨0, id, rc, snd, dom, lb, false, C nx⟩)[j]? = some u → z2.cell? ((⟨z1.heap.size, 0, none⟩ : Addr).add j) = some u := by rw [hz2]; exact lit_news (cs := Wf ⟨0, id, rc, snd, dom, lb, false, C nx⟩) _ rfl
        have hk8 : Kp (fun _ => False) z1 z2 := by rw [hz2]; exact (Kp.refl _ _).alloc _
        have hd8 : z1.heap.size < z2.heap.size := by rw [hz2, World.size_alloc]; exact Nat.lt_succ_self _
        have hl8 : z1.heap.size < z2.heap.size := by omega
        clear hz2
        clear hK K
        try simp only [Act.put, List.setIfInBounds_toArray, List.set_cons_zero, List.set_cons_succ]
        refine readyE (rs := [6]) (by kernel_rfl) (by simp) ?_
        refine consE (o := _) rfl (fun K hK => ?_) nilE
        -- 6 call
        refine step_append_src rfl _ _ 51 rfl w5.heap.size 62 i0 _ 7 64 Try.underlying51 hi hi0 hi1 hi2 rfl (by decide) _ 0 [] rfl (by first | exact hO1 | exact own_keep hO1 hk8 (fun _ _ h => h)) ao W.length cap (Wl W) rfl HNONE.out (Wl_len _) (HNW.out _ hS) (Wl_one _) (by unfold maxLen; omega) (by omega) hS.size ?_
        intro v6 z3 hO6 hk6
        have hS6 : Kp (fun _ => False) w5 z3 := hS.trans_new hk6 (fun k h1 h2 => by have := hin1 k h2; omega)
        try (have hC8b := news_keep hk6 hl8 (fun e => by have := hin1 _ e; omega) hC8; have hl8b := Nat.lt_of_lt_of_le hl8 hk6.size; clear hC8 hl8; have hC8 := hC8b; have hl8 := hl8b; clear hC8b hl8b)
        refine keepE hK hS6 (fun hS => ?_)
        clear hK K
        try simp only [Act.put, List.setIfInBounds_toArray, List.set_cons_zero, List.set_cons_succ]
        refine readyE (rs := [9]) (by kernel_rfl) (by simp) ?_
        refine consE (o := _) rfl (fun K hK => ?_) nilE
        -- 9 call
        refine step_append_src rfl _ _ 51 rfl w5.heap.size 62 i0 _ 7 64 Try.underlying51 hi hi0 hi1 hi2 rfl (by decide) _ _ _ rfl (by first | exact hO6 | exact own_keep hO6 hk8 (fun _ _ h => h)) (some ⟨_, 0, none⟩) 1 1 (Wf ⟨0, id, rc, snd, dom, lb, false, C nx⟩) rfl (fun h => by cases h) rfl (by intro ad e; cases e; exact hC8) (Wf_one _) (by unfold maxLen; omega) (by omega) hS.size ?_
        intro v9 z4 hO9 hk9
        obtain ⟨a9, c9, rfl⟩ := (own_weaken hO9).slice
        have hS9 : Kp (fun _ => False) w5 z4 := hS.trans_new hk9 (fun k h1 h2 => by have := (World.ownsRow.lt hO6 k h2).1; omega)
        refine keepE hK hS9 (fun hS => ?_)
        clear hK K
        try simp only [Act.put, List.setIfInBounds_toArray, List.set_cons_zero, List.set_cons_succ]
        refine readyE (rs := [10]) (by kernel_rfl) (by simp) ?_
        refine consE (o := _) rfl (fun K hK => ?_) nilE
        -- 10 nilCheck
        go_simp
        refine keepE hK hS (fun hS => ?_)
        clear hK K
        try simp only [Act.put, List.setIfInBounds_toArray, List.set_cons_zero, List.set_cons_succ]
        refine takeE (i := 11) (v := ?_) rfl (by kernel_rfl) (by kernel_rfl) (by kernel_rfl) (by kernel_rfl) (fun _ _ _ h => h) hS (Or.inl ⟨by rfl, ?_⟩) ?_
        rotate_left
        · intro w hSw; obtain ⟨f12, g0, g1, g2, g3, g4, g5, g6⟩ := HF.out w hSw; go_simp <;> with_reducible rfl
        try simp only [Act.put, List.setIfInBounds_toArray, List.set_cons_zero, List.set_cons_succ]
        refine readyE (rs := [12]) (by kernel_rfl) (by simp) ?_
        refine consE (o := _) rfl (fun K hK => ?_) nilE
        -- 12 store
        have e12 := (hS.frozen 12 HQ5.out.1 (fun h => h)).trans HQ5.out.2
        obtain ⟨f12, _⟩ := HF.out _ hS
        go_simp
        refine hK.out _ _ (fun h => absurd rfl h) ?_
        clear hK K
        try simp only [Act.put, List.setIfInBounds_toArray, List.set_cons_zero, List.set_cons_succ]
        refine doneE (by kernel_rfl) ?_ _
        go_wp2_with fail
        go_meet
        exact ⟨_, _, _, rfl, hS, by have h := hO9; rw [List.nil_append, Nat.zero_add] at h; exact h⟩
    ·
      -- 8 buildSlice
      go_simp
      have hsz8 := hS.size
      refine allocE hK (hS.alloc _) (fun z1 hz1 hS => ?_)
      have hC8 : ∀ j u, (Wf ⟨0, id, rc, snd, dom, lb, false, C nx⟩)[j]? = some u → z1.cell? ((⟨w5.drew.heap.size, 0, none⟩ : Addr).add j) = some u := by rw [hz1]; exact lit_news (cs := Wf ⟨0, id, rc, snd, dom, lb, false, C nx⟩) _ rfl
      have hk8 : Kp (fun _ => False) w5.drew z1 := by rw [hz1]; exact (Kp.refl _ _).alloc _
      have hd8 : w5.drew.heap.size < z1.heap.size := by rw [hz1, World.size_alloc]; exact Nat.lt_succ_self _
      have hl8 : w5.drew.heap.size < z1.heap.size := by omega
      clear hz1
      clear hK K
      try simp only [Act.put, List.setIfInBounds_toArray, List.set_cons_zero, List.set_cons_succ]
      refine readyE (rs := [1]) (by kernel_rfl) (by simp) ?_
      refine consE (o := _) rfl (fun K hK => ?_) nilE
      -- 1 buildSlice
      go_simp
      have hsz1 := hS.size
      refine allocE hK (hS.alloc _) (fun z2 hz2 hS => ?_)
      have hO1 : z2.ownsRow w5.heap.size 62 7 (.slice (some ⟨z1.heap.size, 0, none⟩) 0 0) 0 [] := by rw [hz2]; exact World.ownsRow_lit _ #[] 0 hsz1 (by unfold maxLen; omega) rfl
      have hk1 : Kp (fun _ => False) z1 z2 := by rw [hz2]; exact (Kp.refl _ _).alloc _
      have hd1 : z1.heap.size < z2.heap.size := by rw [hz2, World.size_alloc]; exact Nat.lt_succ_self _
      have hin1 : ∀ k, In (.slice (some ⟨z1.heap.size, 0, none⟩) 0 0) k → k = z1.heap.size := fun k e => by have e2 : some z1.heap.size = some k := e; cases e2; rfl
      try (have hC8b := news_keep hk1 hl8 (fun h => h) hC8; have hl8b := Nat.lt_of_lt_of_le hl8 hk1.size; clear hC8 hl8; have hC8 := hC8b; have hl8 := hl8b; clear hC8b hl8b)
      clear hz2
      clear hK K
      try simp only [Act.put, List.setIfInBounds_toArray, List.set_cons_zero, List.set_cons_succ]
      refine readyE (rs := [6]) (by kernel_rfl) (by simp) ?_
      refine consE (o := _) rfl (fun K hK => ?_) nilE
      -- 6 call
      refine step_append_src rfl _ _ 51 rfl w5.heap.size 62 i0 _ 7 64 Try.underlying51 hi hi0 hi1 hi2 rfl (by decide) _ 0 [] rfl (by first | exact hO1 | exact own_keep hO1 hk8 (fun _ _ h => h)) ao W.length cap (Wl W) rfl HNONE.out (Wl_len _) (HNW.out _ hS) (Wl_one _) (by unfold maxLen; omega) (by omega) hS.size ?_
      intro v6 z3 hO6 hk6
      have hS6 : Kp (fun _ => False) w5 z3 := hS.trans_new hk6 (fun k h1 h2 => by have := hin1 k h2; omega)
      try (have hC8b := news_keep hk6 hl8 (fun e => by have := hin1 _ e; omega) hC8; have hl8b := Nat.lt_of_lt_of_le hl8 hk6.size; clear hC8 hl8; have hC8 := hC8b; have hl8 := hl8b; clear hC8b hl8b)
      refine keepE hK hS6 (fun hS => ?_)
      clear hK K
      try simp only [Act.put, List.setIfInBounds_toArray, List.set_cons_zero, List.set_cons_succ]
      refine readyE (rs := [9]) (by kernel_rfl) (by simp) ?_
      refine consE (o := _) rfl (fun K hK => ?_) nilE
      -- 9 call
      refine step_append_src rfl _ _ 51 rfl w5.heap.size 62 i0 _ 7 64 Try.underlying51 hi hi0 hi1 hi2 rfl (by decide) _ _ _ rfl (by first | exact hO6 | exact own_keep hO6 hk8 (fun _ _ h => h)) (some ⟨_, 0, none⟩) 1 1 (Wf ⟨0, id, rc, snd, dom, lb, false, C nx⟩) rfl (fun h => by cases h) rfl (by intro ad e; cases e; exact hC8) (Wf_one _) (by unfold maxLen; omega) (by omega) hS.size ?_
      intro v9 z4 hO9 hk9
      obtain ⟨a9, c9, rfl⟩ := (own_weaken hO9).slice
      have hS9 : Kp (fun _ => False) w5 z4 := hS.trans_new hk9 (fun k h1 h2 => by have := (World.ownsRow.lt hO6 k h2).1; omega)
      refine keepE hK hS9 (fun hS => ?_)
      clear hK K
      try simp only [Act.put, List.setIfInBounds_toArray, List.set_cons_zero, List.set_cons_succ]
      refine readyE (rs := [10]) (by kernel_rfl) (by simp) ?_
      refine consE (o := _) rfl (fun K hK => ?_) nilE
      -- 10 nilCheck
      go_simp
      refine keepE hK hS (fun hS => ?_)
      clear hK K
      try simp only [Act.put, List.setIfInBounds_toArray, List.set_cons_zero, List.set_cons_succ]
      refine takeE (i := 11) (v := ?_) rfl (by kernel_rfl) (by kernel_rfl) (by kernel_rfl) (by kernel_rfl) (fun _ _ _ h => h) hS (Or.inl ⟨by rfl, ?_⟩) ?_
      rotate_left
      · intro w hSw; obtain ⟨f12, g0, g1, g2, g3, g4, g5, g6⟩ := HF.out w hSw; go_simp <;> with_reducible rfl
      try simp only [Act.put, List.setIfInBounds_toArray, List.set_cons_zero, List.set_cons_succ]
      refine readyE (rs := [12]) (by kernel_rfl) (by simp) ?_
      refine consE (o := _) rfl (fun K hK => ?_) nilE
      -- 12 store
      have e12 := (hS.frozen 12 HQ5.out.1 (fun h => h)).trans HQ5.out.2
      obtain ⟨f12, _⟩ := HF.out _ hS
      go_simp
      refine hK.out _ _ (fun h => absurd rfl h) ?_
      clear hK K
      try simp only [Act.put, List.setIfInBounds_toArray, List.set_cons_zero, List.set_cons_succ]
      refine doneE (by kernel_rfl) ?_ _
      go_wp2_with fail
      go_meet
      exact ⟨_, _, _, rfl, hS, by have h := hO9; rw [List.nil_append, Nat.zero_add] at h; exact h⟩
  case rest =>
    obtain ⟨z, a9, c9, rfl, hzk, hzo⟩ := hcut
    have hW := HW.out
    subst hW
    obtain ⟨h6, st6⟩ := H5.out.putL (X := ⟨0, id, rc, snd, dom, lb, false, C nx⟩) hzk hzo rfl HNO.out
    have hk6 : Kp (fun k => k = q) w5 (z.setCell ⟨q, 12, none⟩ (.slice a9 (s.Ws.length + 1) c9)) := (hzk.mono (fun _ _ h => h.elim)).setCell _ _ (Or.inl rfl)
    have hb6 := hk6.keep HB5.out (fun h => hqb h.symm)
    obtain ⟨w6, hw6⟩ : ∃ w6, w6 = z.setCell ⟨q, 12, none⟩ (.slice a9 (s.Ws.length + 1) c9) := ⟨_, rfl⟩
    rw [← hw6] at h6 st6 hk6 hb6 ⊢
    have H6 := Lib.hid h6
    have HST := Lib.hid (show St w w6 s _ from (St.of HK5.out (fun _ _ h => h.elim) rfl).trans st6)
    have b5 : w6.cell? ⟨b3, 5, none⟩ = some (.bool lb) := (cell_of hb6 5).trans rfl
    have b3s : w6.cell? ⟨b3, 3, none⟩ = some (.string snd) := (cell_of hb6 3).trans rfl
    have lb6 := lt_of_block hb6
    have hqb' : ¬ b3 = q := fun h => hqb h.symm
    have HNW2 := Lib.hid (show ¬ ∃ z ∈ (ab s).W, (z.id, z.rc) = (id, rc) from fun ⟨z, hz, e⟩ => by
      obtain ⟨x, hx, rfl⟩ := List.mem_map.1 hz
      exact HNO.out x hx ⟨congrArg Prod.fst e, congrArg Prod.snd e⟩)
    clear hw6 h6 st6 hk6 hb6 hzk hzo HF HNW
    cases lb with
    | false =>
      have HLB0 := Lib.hid (show Has dom s.c.L = false from HLB.out.symm)
      have HM7 := Lib.hid (H6.out.calm (Kp.refl (fun _ => False) w6).drew)
      have R0 : RfG w6.drew q 15 (Hm (fL s (.slice a9 (s.Ws.length + 1) c9) (s.Ws ++ [⟨0, id, rc, snd, dom, false, false, C nx⟩]) (s.D ++ [dom])) (.slice a9 (s.Ws.length + 1) c9) vp) 56 s.v0 s.A0 := HM7.out.rfG false
      have HR0 := Lib.hid R0
      have HA := Lib.hid (show s.A0.Nodup ∧ s.A0.length ≤ N from ⟨H5.out.n0, H5.out.l0⟩)
      have hl0 : s.A0.length ≤ 1000000 := Nat.le_trans HA.out.2 hN
      clear R0
      by_cases hx : Has snd s.A0 = true
      · have HXX := Lib.hid hx
        clear hx
        go_wp2_with fail
        go_region_held3 (fun w' => w'.cell? ⟨b3, 5, none⟩ = some (.bool false) ∧ w'.cell? ⟨b3, 3, none⟩ = some (.string snd)) (first | exact ⟨b5, b3s⟩)
          (first | (go_at_call 49; refine (fside_false _).mono ?_; rintro e w7 ⟨rfl, rfl⟩) | (go_at_call 15; refine (gadd_no q 15 _ _ _ _ snd _ HR0.out HXX.out (by omega)).mono ?_; rintro e w8 ⟨rfl, rfl⟩))
        go_wp2_with fail
        go_ret
        refine ⟨fun hn => absurd hn HNW2.out, fun _ => ⟨rfl, _, _, HM7.out, (HST.out.calm (Kp.refl (fun _ => False) w6).drew), ?_, rfl, rfl⟩⟩
        rw [HLB0.out]
        unfold aPut Padd ab fL wx
        have h1 := HXX.out
        simp [h1]
      · have hx' : Has snd s.A0 = false := by simpa using hx
        have HXX := Lib.hid hx'
        clear hx hx'
        go_wp2_with fail
        go_region_held3 (fun w' => w'.cell? ⟨b3, 5, none⟩ = some (.bool false) ∧ w'.cell? ⟨b3, 3, none⟩ = some (.string snd)) (first | exact ⟨b5, b3s⟩ | exact ⟨(HK8.out.cell 5 lb6 hqb').trans b5, (HK8.out.cell 3 lb6 hqb').trans b3s⟩)
          (first | (go_at_call 49; refine (fside_false _).mono ?_; rintro e w7 ⟨rfl, rfl⟩) | (go_at_call 15; refine (gadd_any q 15 _ _ _ _ snd _ HR0.out HXX.out (by omega)).mono ?_; rintro e w8 ⟨rfl, ⟨v8, hr8, hn8⟩, hk8⟩; have HR8 := Lib.hid hr8; have HN8 := Lib.hid hn8; have HK8 := Lib.hid hk8; clear hr8 hn8 hk8))
        go_wp2_with fail
        go_ret
        obtain ⟨h9, st9⟩ := HM7.out.ring false HR8.out HK8.out HN8.out (nodup_snoc HA.out.1 HXX.out) (by have := HA.out.2; simp; omega)
        refine ⟨fun hn => absurd hn HNW2.out, fun _ => ⟨rfl, _, _, h9, (HST.out.calm (Kp.refl (fun _ => False) w6).drew).trans st9, ?_, rfl, rfl⟩⟩
        rw [HLB0.out]
        unfold aPut Padd ab fR fL wx
        have h1 := HXX.out
        simp [h1]
    | true =>
      have HLB0 := Lib.hid (show Has dom s.c.L = true from HLB.out.symm)
      have HM7 := Lib.hid (H6.out.calm (Kp.refl (fun _ => False) w6).drew)
      have R0 : RfG w6.drew q 16 (Hm (fL s (.slice a9 (s.Ws.length + 1) c9) (s.Ws ++ [⟨0, id, rc, snd, dom, true, false, C nx⟩]) (s.D ++ [dom])) (.slice a9 (s.Ws.length + 1) c9) vp) 56 s.v1 s.A1 := HM7.out.rfG true
      have HR0 := Lib.hid R0
      have HA := Lib.hid (show s.A1.Nodup ∧ s.A1.length ≤ N from ⟨H5.out.n1, H5.out.l1⟩)
      have hl0 : s.A1.length ≤ 1000000 := Nat.le_trans HA.out.2 hN
      clear R0
      by_cases hx : Has snd s.A1 = true
      · have HXX := Lib.hid hx
        clear hx
        go_wp2_with fail
        go_region_held3 (fun w' => w'.cell? ⟨b3, 5, none⟩ = some (.bool true) ∧ w'.cell? ⟨b3, 3, none⟩ = some (.string snd)) (first | exact ⟨b5, b3s⟩)
          (first | (go_at_call 49; refine (fside_true _).mono ?_; rintro e w7 ⟨rfl, rfl⟩) | (go_at_call 15; refine (gadd_no q 16 _ _ _ _ snd _ HR0.out HXX.out (by omega)).mono ?_; rintro e w8 ⟨rfl, rfl⟩))
        go_wp2_with fail
        go_ret
        refine ⟨fun hn => absurd hn HNW2.out, fun _ => ⟨rfl, _, _, HM7.out, (HST.out.calm (Kp.refl (fun _ => False) w6).drew), ?_, rfl, rfl⟩⟩
        rw [HLB0.out]
        unfold aPut Padd ab fL wx
        have h1 := HXX.out
        simp [h1]
      · have hx' : Has snd s.A1 = false := by simpa using hx
        have HXX := Lib.hid hx'
        clear hx hx'
        go_wp2_with fail
        go_region_held3 (fun w' => w'.cell? ⟨b3, 5, none⟩ = some (.bool true) ∧ w'.cell? ⟨b3, 3, none⟩ = some (.string snd)) (first | exact ⟨b5, b3s⟩ | exact ⟨(HK8.out.cell 5 lb6 hqb').trans b5, (HK8.out.cell 3 lb6 hqb').trans b3s⟩)
          (first | (go_at_call 49; refine (fside_true _).mono ?_; rintro e w7 ⟨rfl, rfl⟩) | (go_at_call 15; refine (gadd_any q 16 _ _ _ _ snd _ HR0.out HXX.out (by omega)).mono ?_; rintro e w8 ⟨rfl, ⟨v8, hr8, hn8⟩, hk8⟩; have HR8 := Lib.hid hr8; have HN8 := Lib.hid hn8; have HK8 := Lib.hid hk8; clear hr8 hn8 hk8))
        go_wp2_with fail
        go_ret
        obtain ⟨h9, st9⟩ := HM7.out.ring true HR8.out HK8.out HN8.out (nodup_snoc HA.out.1 HXX.out) (by have := HA.out.2; simp; omega)
        refine ⟨fun hn => absurd hn HNW2.out, fun _ => ⟨rfl, _, _, h9, (HST.out.calm (Kp.refl (fun _ => False) w6).drew).trans st9, ?_, rfl, rfl⟩⟩
        rw [HLB0.out]
        unfold aPut Padd ab fR fL wx
        have h1 := HXX.out
        simp [h1]
end Go.Proofs.Ytbiahndpfbmoeaa
