/- What the reference's Drop does. Condition: there are no more recipients than fit into memory. -/
import Derived.Test.YtbiahndpfbmoeaaSf4
namespace Go.Proofs.Ytbiahndpfbmoeaa
open Go.RowKit SatAid

def FDrop (q N : Nat) (s : Sd) (vl vp : Value) (id rc : Int) (w : World) (e : Ending) (w' : World) : Prop :=
  ((∀ x ∈ s.Ws, ¬ (x.id = id ∧ x.rc = rc)) → e = .returned (.bool false) ∧ MIn w' q s vl vp N ∧ Kp (fun _ => False) w w') ∧
  (∀ x ∈ s.Ws, x.id = id → x.rc = rc → x.go = true → e = .returned (.bool false) ∧ MIn w' q s vl vp N ∧ Kp (fun _ => False) w w') ∧
  (∀ x ∈ s.Ws, x.id = id → x.rc = rc → x.go = false → e = .returned (.bool true) ∧ ∃ s' vl', MIn w' q s' vl' vp N ∧ St w w' s s' ∧ ab s' = aGone (ab s) (wx x) ∧ s'.Ps = s.Ps ∧ s'.D = s.D)
theorem row_src {w w' : World} {g n cap sz : Nat} {e : TypeId} {xs : List Value} (h : Own w e sz (.slice (some ⟨g, 0, none⟩) n cap) n xs) (hk : Kp (fun _ => False) w w') : ∀ j u, xs[j]? = some u → w'.cell? ⟨g, j, none⟩ = some u :=
  fun _ _ hu => (hk.cell _ (h.lt rfl) (fun h => h)).trans (h.cell hu)
set_option maxRecDepth 100000 in
set_option maxHeartbeats 3200000 in
theorem fdropS_any (q N : Nat) (s : Sd) (vl vp : Value) (id rc : Int) (w : World) (h : MIn w q s vl vp N) (hN : N ≤ 1000000) :
    Calls Try.prog 28 #[.pointer (some ⟨q, 0, none⟩), .int .i64 id, .int .i64 rc] w (FDrop q N s vl vp id rc w) := by
  obtain ⟨ao, cap, rfl, hrow, hcp, _⟩ := lrow_own h.lst
  obtain ⟨i0, hi, hi0, hi1, hi2⟩ := info_parts wait_info
  have hl : s.Ws.length ≤ 1000000 := Nat.le_trans h.lw hN
  have c12 : w.cell? ⟨q, 12, none⟩ = some (.slice ao s.Ws.length cap) := (cell_of h.head 12).trans rfl
  have H := Lib.hid h; have HROW := Lib.hid hrow; have HCP := Lib.hid hcp
  clear h hrow hcp
  go_enter Try.func28, Try.ntmps28
  go_wp2_with fail
  refine (fat_any q N s _ vp id rc _ H.out hN).mono ?_; rintro e w1' ⟨r, rfl, hr, rfl⟩
  rcases hr with ⟨i, x, hx, hxi, hxr, rfl, _⟩ | ⟨hno, rfl⟩
  rotate_left
  · have HR := Lib.hid (show FDrop q N s (.slice ao s.Ws.length cap) vp id rc w (.returned (.bool false)) w from ⟨fun _ => ⟨rfl, H.out, Kp.refl _ _⟩, fun x hx e1 e2 => absurd ⟨e1, e2⟩ (hno x hx), fun x hx e1 e2 => absurd ⟨e1, e2⟩ (hno x hx)⟩)
    clear hno
    go_wp2_with fail
    go_ret
    exact HR.out
  subst hxi hxr
  obtain ⟨g, rfl, hg, z0, z1, z2, z3, z4, z5, z6⟩ := HROW.out i x hx
  have hcap := (HCP.out (by have := (List.getElem?_eq_some_iff.1 hx).1; omega)).1
  have hcm := (HCP.out (by have := (List.getElem?_eq_some_iff.1 hx).1; omega)).2
  have hil := (List.getElem?_eq_some_iff.1 hx).1
  have hxm := List.mem_of_getElem? hx
  have HX := Lib.hid hx
  have q0 : (0 : Int) ≤ (i : Int) := by omega
  have q00 : (i : Int) < (s.Ws.length : Int) := by omega
  have HUQ := Lib.hid (fun y (hy : y ∈ s.Ws) (e1 : y.id = x.id) (e2 : y.rc = x.rc) => show y = x from H.out.key_eq hy hxm (by rw [e1, e2]))
  by_cases hgo : x.go = true
  · have HR := Lib.hid (show FDrop q N s (.slice (some ⟨g, 0, none⟩) s.Ws.length cap) vp x.id x.rc w (.returned (.bool false)) w from ⟨fun hn => absurd ⟨rfl, rfl⟩ (hn x hxm), fun _ _ _ _ _ => ⟨rfl, H.out, Kp.refl _ _⟩, fun y hy e1 e2 e3 => by
      obtain rfl := HUQ.out y hy e1 e2
      rw [hgo] at e3; cases e3⟩)
    rw [hgo] at z6
    clear hx hxm hgo
    go_wp2_with fail
    go_ret
    exact HR.out
  have hgo' : x.go = false := by simpa using hgo
  have HGO := Lib.hid hgo'; have HXM := Lib.hid hxm
  have HNG := Lib.hid (show (x.id, x.rc) ∉ s.G from fun hk => by
    obtain ⟨y, hy, e1, e2⟩ := H.out.gin _ hk
    obtain rfl := HUQ.out y hy (congrArg Prod.fst e1) (congrArg Prod.snd e1)
    rw [hgo'] at e2; cases e2)
  rw [hgo'] at z6
  clear hx hxm hgo hgo'
  go_wp2_with fail
  have hb5 := heap_new (w := w) (.cells #[.int .i64 x.id, .int .i64 x.rc, .int .i64 x.nx, .string x.snd, .string x.dom, .bool x.loc, .bool false] 62)
  have hk5 : Kp (fun _ => False) w (w.alloc (.cells #[.int .i64 x.id, .int .i64 x.rc, .int .i64 x.nx, .string x.snd, .string x.dom, .bool x.loc, .bool false] 62)) := (by repeat (first | exact Kp.refl _ _ | apply Kp.drew | apply Kp.drewN | refine Kp.setCell ?_ _ _ (Or.inl rfl) | apply Kp.alloc))
  obtain ⟨w5, hw5⟩ : ∃ w5, w5 = w.alloc (.cells #[.int .i64 x.id, .int .i64 x.rc, .int .i64 x.nx, .string x.snd, .string x.dom, .bool x.loc, .bool false] 62) := ⟨_, rfl⟩
  obtain ⟨b3, hb3⟩ : ∃ b3, b3 = w.heap.size := ⟨_, rfl⟩
  rw [← hw5] at hb5 hk5 ⊢
  rw [← hb3] at hb5 ⊢
  have hqb : ¬ b3 = q := by have := lt_of_block H.out.head; omega
  have H5 := Lib.hid (H.out.calm hk5); have HB5 := Lib.hid hb5; have HK5 := Lib.hid hk5
  have HF := Lib.hid (show ∀ w', Kp (fun _ => False) w5 w' → w'.cell? ⟨q, 12, none⟩ = some (.slice (some ⟨g, 0, none⟩) s.Ws.length cap) from fun w' hk => (cell_of (hk.keep H5.out.head (fun h => h)) 12).trans rfl)
  have HSRC := Lib.hid (show ∀ w', Kp (fun _ => False) w5 w' → ∀ j u, (Wl s.Ws)[j]? = some u → w'.cell? ⟨g, j, none⟩ = some u from fun w' hk => row_src H5.out.lst hk)
  have HQ5 := Lib.hid (show q < w5.heap.size ∧ w5.frozen? ⟨q, 12, none⟩ = false from ⟨lt_of_block H5.out.head, frozen_of H5.out.head 12⟩)
  clear hw5 hb5 hk5 hb3 c12 z0 z1 z2 z3 z4 z5 z6 HROW
  go_cut [] from 32 (fun wx => ∃ (z : World) (a9 : Option Addr) (n9 c9 : Nat), wx = z.setCell ⟨q, 12, none⟩ (.slice a9 n9 c9) ∧ Kp (fun _ => False) w5 z ∧ z.ownsRow w5.heap.size 62 7 (.slice a9 n9 c9) n9 (Wl (s.Ws.take i) ++ Wl (s.Ws.drop (i + 1))) ∧ n9 = s.Ws.length - 1)
  case first =>
    have hwi := (List.getElem?_eq_some_iff.1 HX.out).1
    have q1 : (0 : Int) ≤ (i : Int) := by omega
    have q2 : (i : Int) ≤ (cap : Int) := by omega
    have q3 : (0 : Int) ≤ (i : Int) + 1 := by omega
    have q4 : (i : Int) + 1 ≤ (s.Ws.length : Int) := by omega
    have q5 : ((i : Int) + 1).toNat = i + 1 := by omega
    have q6 : (i : Int) ≤ (i : Int) + 1 := by omega
    have hw1 : IntKind.i64.wrap ((i : Int) + 1) = (i : Int) + 1 := IntWalk.i64_in _ (by omega)
    have HN1 := Lib.hid (show ∀ w', Kp (fun _ => False) w5 w' → ∀ j u, (Wl (s.Ws.take i))[j]? = some u → w'.cell? ((⟨g, 0, none⟩ : Addr).add j) = some u from fun w' hk => by
      rw [show Wl (s.Ws.take i) = (Wl s.Ws).take (i * 7) from flat_take (f := Wf) (n := 7) (fun _ => rfl) _ _]
      exact take_src (HSRC.out w' hk))
    have HL1 := Lib.hid (show (Wl (s.Ws.take i)).length = i * 7 from by rw [Wl_len, List.length_take]; omega)
    by_cases hcc : cap = i + 1
    · have hlen : s.Ws.length = i + 1 := by omega
      have HN2 := Lib.hid (show ∀ w', Kp (fun _ => False) w5 w' → ∀ j u, (Wl (s.Ws.drop (i + 1)))[j]? = some u → w'.cell? ((⟨g, 0, none⟩ : Addr).add j) = some u from fun w' hk j u hu => by
        rw [List.drop_eq_nil_of_le (by omega)] at hu
        simp [Wl] at hu)
      have HL2 := Lib.hid (show (Wl (s.Ws.drop (i + 1))).length = 0 * 7 from by rw [Wl_len, List.length_drop]; omega)
      have HLN := Lib.hid hlen
      subst hcc
      clear hlen
      refine region_E 19 (fun w' => Kp (fun _ => False) w5 w') (by kernel_rfl) (Kp.refl _ _).drew (fun hS => ?_)
      refine takeE (i := 0) (v := ?_) rfl (by kernel_rfl) (by kernel_rfl) (by kernel_rfl) (by kernel_rfl) (fun _ _ _ h => h) hS (Or.inl ⟨by rfl, ?_⟩) ?_
      rotate_left
      · intro w hSw; obtain f12 := HF.out w hSw; go_simp <;> with_reducible rfl
      try simp only [Act.put, List.setIfInBounds_toArray, List.set_cons_zero, List.set_cons_succ]
      refine takeE (i := 2) (v := ?_) rfl (by kernel_rfl) (by kernel_rfl) (by kernel_rfl) (by kernel_rfl) (fun _ _ _ h => h) hS (Or.inl ⟨by rfl, ?_⟩) ?_
      rotate_left
      · intro w hSw; obtain f12 := HF.out w hSw; go_simp <;> with_reducible rfl
      try simp only [Act.put, List.setIfInBounds_toArray, List.set_cons_zero, List.set_cons_succ]
      refine takeE (i := 3) (v := ?_) rfl (by kernel_rfl) (by kernel_rfl) (by kernel_rfl) (by kernel_rfl) (fun _ _ _ h => h) hS (Or.inl ⟨by rfl, ?_⟩) ?_
      rotate_left
      · intro w hSw; obtain f12 := HF.out w hSw; go_simp <;> with_reducible rfl
      try simp only [Act.put, List.setIfInBounds_toArray, List.set_cons_zero, List.set_cons_succ]
      refine takeE (i := 4) (v := ?_) rfl (by kernel_rfl) (by kernel_rfl) (by kernel_rfl) (by kernel_rfl) (fun _ _ _ h => h) hS (Or.inl ⟨by rfl, ?_⟩) ?_
      rotate_left
      · intro w hSw; obtain f12 := HF.out w hSw; go_simp <;> with_reducible rfl
      try simp only [Act.put, List.setIfInBounds_toArray, List.set_cons_zero, List.set_cons_succ]
      refine takeE (i := 5) (v := ?_) rfl (by kernel_rfl) (by kernel_rfl) (by kernel_rfl) (by kernel_rfl) (fun _ _ _ h => h) hS (Or.inl ⟨by rfl, ?_⟩) ?_
      rotate_left
      · intro w hSw; obtain f12 := HF.out w hSw; go_simp <;> with_reducible rfl
      try simp only [Act.put, List.setIfInBounds_toArray, List.set_cons_zero, List.set_cons_succ]
      refine takeE (i := 6) (v := ?_) rfl (by kernel_rfl) (by kernel_rfl) (by kernel_rfl) (by kernel_rfl) (fun _ _ _ h => h) hS (Or.inl ⟨by rfl, ?_⟩) ?_
      rotate_left
      · intro w hSw; obtain f12 := HF.out w hSw; go_simp <;> with_reducible rfl
      try simp only [Act.put, List.setIfInBounds_toArray, List.set_cons_zero, List.set_cons_succ]
      refine takeE (i := 7) (v := ?_) rfl (by kernel_rfl) (by kernel_rfl) (by kernel_rfl) (by kernel_rfl) (fun _ _ _ h => h) hS (Or.inl ⟨by rfl, ?_⟩) ?_
      rotate_left
      · intro w hSw; obtain f12 := HF.out w hSw; go_simp <;> with_reducible rfl
      try simp only [Act.put, List.setIfInBounds_toArray, List.set_cons_zero, List.set_cons_succ]
      refine takeE (i := 9) (v := ?_) rfl (by kernel_rfl) (by kernel_rfl) (by kernel_rfl) (by kernel_rfl) (fun _ _ _ h => h) hS (Or.inl ⟨by rfl, ?_⟩) ?_
      rotate_left
      · intro w hSw; obtain f12 := HF.out w hSw; go_simp <;> with_reducible rfl
      try simp only [Act.put, List.setIfInBounds_toArray, List.set_cons_zero, List.set_cons_succ]
      refine takeE (i := 10) (v := ?_) rfl (by kernel_rfl) (by kernel_rfl) (by kernel_rfl) (by kernel_rfl) (fun _ _ _ h => h) hS (Or.inl ⟨by rfl, ?_⟩) ?_
      rotate_left
      · intro w hSw; obtain f12 := HF.out w hSw; go_simp <;> with_reducible rfl
      try simp only [Act.put, List.setIfInBounds_toArray, List.set_cons_zero, List.set_cons_succ]
      refine takeE (i := 11) (v := ?_) rfl (by kernel_rfl) (by kernel_rfl) (by kernel_rfl) (by kernel_rfl) (fun _ _ _ h => h) hS (Or.inl ⟨by rfl, ?_⟩) ?_
      rotate_left
      · intro w hSw; obtain f12 := HF.out w hSw; go_simp <;> with_reducible rfl
      try simp only [Act.put, List.setIfInBounds_toArray, List.set_cons_zero, List.set_cons_succ]
      refine takeE (i := 12) (v := ?_) rfl (by kernel_rfl) (by kernel_rfl) (by kernel_rfl) (by kernel_rfl) (fun _ _ _ h => h) hS (Or.inl ⟨by rfl, ?_⟩) ?_
      rotate_left
      · intro w hSw; obtain f12 := HF.out w hSw; go_simp <;> with_reducible rfl
      try simp only [Act.put, List.setIfInBounds_toArray, List.set_cons_zero, List.set_cons_succ]
      refine takeE (i := 13) (v := ?_) rfl (by kernel_rfl) (by kernel_rfl) (by kernel_rfl) (by kernel_rfl) (fun _ _ _ h => h) hS (Or.inl ⟨by rfl, ?_⟩) ?_
      rotate_left
      · intro w hSw; obtain f12 := HF.out w hSw; go_simp <;> with_reducible rfl
      try simp only [Act.put, List.setIfInBounds_toArray, List.set_cons_zero, List.set_cons_succ]
      refine takeE (i := 14) (v := ?_) rfl (by kernel_rfl) (by kernel_rfl) (by kernel_rfl) (by kernel_rfl) (fun _ _ _ h => h) hS (Or.inl ⟨by rfl, ?_⟩) ?_
      rotate_left
      · intro w hSw; obtain f12 := HF.out w hSw; go_simp <;> with_reducible rfl
      try simp only [Act.put, List.setIfInBounds_toArray, List.set_cons_zero, List.set_cons_succ]
      refine takeE (i := 15) (v := ?_) rfl (by kernel_rfl) (by kernel_rfl) (by kernel_rfl) (by kernel_rfl) (fun _ _ _ h => h) hS (Or.inl ⟨by rfl, ?_⟩) ?_
      rotate_left
      · intro w hSw; obtain f12 := HF.out w hSw; go_simp <;> with_reducible rfl
      try simp only [Act.put, List.setIfInBounds_toArray, List.set_cons_zero, List.set_cons_succ]
      refine readyE (rs := [1]) (by kernel_rfl) (by simp) ?_
      refine consE (o := _) rfl (fun K hK => ?_) nilE
      -- 1 buildSlice
      go_simp
      have hsz1 := hS.size
      refine allocE hK (hS.alloc _) (fun z1 hz1 hS => ?_)
      have hO1 : z1.ownsRow w5.heap.size 62 7 (.slice (some ⟨w5.drew.heap.size, 0, none⟩) 0 0) 0 [] := by rw [hz1]; exact World.ownsRow_lit _ #[] 0 hsz1 (by unfold maxLen; omega) rfl
      have hin1 : ∀ k, In (.slice (some ⟨w5.drew.heap.size, 0, none⟩) 0 0) k → k = w5.drew.heap.size := fun k e => by have e2 : some w5.drew.heap.size = some k := e; cases e2; rfl
      clear hz1
      clear hK K
      try simp only [Act.put, List.setIfInBounds_toArray, List.set_cons_zero, List.set_cons_succ]
      refine readyE (rs := [8]) (by kernel_rfl) (by simp) ?_
      refine consE (o := _) rfl (fun K hK => ?_) nilE
      -- 8 call
      refine step_append_src rfl _ _ 51 rfl w5.heap.size 62 i0 _ 7 64 Try.underlying51 hi hi0 hi1 hi2 rfl (by decide) _ 0 [] rfl hO1 (some ⟨g, 0, none⟩) i (i + 1) (Wl (s.Ws.take i)) rfl (fun h => by cases h) HL1.out (by intro ad e; cases e; exact HN1.out _ hS) (Wl_one _) (by unfold maxLen; omega) (by omega) hS.size ?_
      intro v6 z2 hO6 hk6
      have hS6 : Kp (fun _ => False) w5 z2 := hS.trans_new hk6 (fun k h1 h2 => by have := hin1 k h2; omega)
      refine keepE hK hS6 (fun hS => ?_)
      clear hK K
      try simp only [Act.put, List.setIfInBounds_toArray, List.set_cons_zero, List.set_cons_succ]
      refine readyE (rs := [16]) (by kernel_rfl) (by simp) ?_
      refine consE (o := _) rfl (fun K hK => ?_) nilE
      -- 16 call
      refine step_append_src rfl _ _ 51 rfl w5.heap.size 62 i0 _ 7 64 Try.underlying51 hi hi0 hi1 hi2 rfl (by decide) _ _ _ rfl hO6 (some ⟨g, 0, none⟩) 0 0 (Wl (s.Ws.drop (i + 1))) rfl (fun h => by cases h) HL2.out (by intro ad e; cases e; exact HN2.out _ hS) (Wl_one _) (by unfold maxLen; omega) (by omega) hS.size ?_
      intro v9 z3 hO9 hk9
      obtain ⟨a9, c9, rfl⟩ := (own_weaken hO9).slice
      have hS9 : Kp (fun _ => False) w5 z3 := hS.trans_new hk9 (fun k h1 h2 => by have := (World.ownsRow.lt hO6 k h2).1; omega)
      refine keepE hK hS9 (fun hS => ?_)
      clear hK K
      try simp only [Act.put, List.setIfInBounds_toArray, List.set_cons_zero, List.set_cons_succ]
      refine readyE (rs := [17]) (by kernel_rfl) (by simp) ?_
      refine consE (o := _) rfl (fun K hK => ?_) nilE
      -- 17 nilCheck
      go_simp
      refine keepE hK hS (fun hS => ?_)
      clear hK K
      try simp only [Act.put, List.setIfInBounds_toArray, List.set_cons_zero, List.set_cons_succ]
      refine takeE (i := 18) (v := ?_) rfl (by kernel_rfl) (by kernel_rfl) (by kernel_rfl) (by kernel_rfl) (fun _ _ _ h => h) hS (Or.inl ⟨by rfl, ?_⟩) ?_
      rotate_left
      · intro w hSw; obtain f12 := HF.out w hSw; go_simp <;> with_reducible rfl
      try simp only [Act.put, List.setIfInBounds_toArray, List.set_cons_zero, List.set_cons_succ]
      refine readyE (rs := [19]) (by kernel_rfl) (by simp) ?_
      refine consE (o := _) rfl (fun K hK => ?_) nilE
      -- 19 store
      have e12 := (hS.frozen 12 HQ5.out.1 (fun h => h)).trans HQ5.out.2
      have f12 := HF.out _ hS
      go_simp
      refine hK.out _ _ (fun h => absurd rfl h) ?_
      clear hK K
      try simp only [Act.put, List.setIfInBounds_toArray, List.set_cons_zero, List.set_cons_succ]
      refine doneE (by kernel_rfl) ?_ _
      go_wp2_with fail
      go_meet
      exact ⟨_, _, _, _, rfl, hS, by have h := hO9; rw [List.nil_append, Nat.zero_add] at h; exact h, by omega⟩
    · have HN2 := Lib.hid (show ∀ w', Kp (fun _ => False) w5 w' → ∀ j u, (Wl (s.Ws.drop (i + 1)))[j]? = some u → w'.cell? ((⟨g, (i + 1) * 7, none⟩ : Addr).add j) = some u from fun w' hk => by
        rw [show Wl (s.Ws.drop (i + 1)) = (Wl s.Ws).drop ((i + 1) * 7) from flat_drop (f := Wf) (n := 7) (fun _ => rfl) _ _]
        exact drop_src (HSRC.out w' hk))
      have HL2 := Lib.hid (show (Wl (s.Ws.drop (i + 1))).length = (s.Ws.length - (i + 1)) * 7 from by rw [Wl_len, List.length_drop])
      refine region_E 19 (fun w' => Kp (fun _ => False) w5 w') (by kernel_rfl) (Kp.refl _ _).drew (fun hS => ?_)
      refine takeE (i := 0) (v := ?_) rfl (by kernel_rfl) (by kernel_rfl) (by kernel_rfl) (by kernel_rfl) (fun _ _ _ h => h) hS (Or.inl ⟨by rfl, ?_⟩) ?_
      rotate_left
      · intro w hSw; obtain f12 := HF.out w hSw; go_simp <;> with_reducible rfl
      try simp only [Act.put, List.setIfInBounds_toArray, List.set_cons_zero, List.set_cons_succ]
      refine takeE (i := 2) (v := ?_) rfl (by kernel_rfl) (by kernel_rfl) (by kernel_rfl) (by kernel_rfl) (fun _ _ _ h => h) hS (Or.inl ⟨by rfl, ?_⟩) ?_
      rotate_left
      · intro w hSw; obtain f12 := HF.out w hSw; go_simp <;> with_reducible rfl
      try simp only [Act.put, List.setIfInBounds_toArray, List.set_cons_zero, List.set_cons_succ]
      refine takeE (i := 3) (v := ?_) rfl (by kernel_rfl) (by kernel_rfl) (by kernel_rfl) (by kernel_rfl) (fun _ _ _ h => h) hS (Or.inl ⟨by rfl, ?_⟩) ?_
      rotate_left
      · intro w hSw; obtain f12 := HF.out w hSw; go_simp <;> with_reducible rfl
      try simp only [Act.put, List.setIfInBounds_toArray, List.set_cons_zero, List.set_cons_succ]
      refine takeE (i := 4) (v := ?_) rfl (by kernel_rfl) (by kernel_rfl) (by kernel_rfl) (by kernel_rfl) (fun _ _ _ h => h) hS (Or.inl ⟨by rfl, ?_⟩) ?_
      rotate_left
      · intro w hSw; obtain f12 := HF.out w hSw; go_simp <;> with_reducible rfl
      try simp only [Act.put, List.setIfInBounds_toArray, List.set_cons_zero, List.set_cons_succ]
      refine takeE (i := 5) (v := ?_) rfl (by kernel_rfl) (by kernel_rfl) (by kernel_rfl) (by kernel_rfl) (fun _ _ _ h => h) hS (Or.inl ⟨by rfl, ?_⟩) ?_
      rotate_left
      · intro w hSw; obtain f12 := HF.out w hSw; go_simp <;> with_reducible rfl
      try simp only [Act.put, List.setIfInBounds_toArray, List.set_cons_zero, List.set_cons_succ]
      refine takeE (i := 6) (v := ?_) rfl (by kernel_rfl) (by kernel_rfl) (by kernel_rfl) (by kernel_rfl) (fun _ _ _ h => h) hS (Or.inl ⟨by rfl, ?_⟩) ?_
      rotate_left
      · intro w hSw; obtain f12 := HF.out w hSw; go_simp <;> with_reducible rfl
      try simp only [Act.put, List.setIfInBounds_toArray, List.set_cons_zero, List.set_cons_succ]
      refine takeE (i := 7) (v := ?_) rfl (by kernel_rfl) (by kernel_rfl) (by kernel_rfl) (by kernel_rfl) (fun _ _ _ h => h) hS (Or.inl ⟨by rfl, ?_⟩) ?_
      rotate_left
      · intro w hSw; obtain f12 := HF.out w hSw; go_simp <;> with_reducible rfl
      try simp only [Act.put, List.setIfInBounds_toArray, List.set_cons_zero, List.set_cons_succ]
      refine takeE (i := 9) (v := ?_) rfl (by kernel_rfl) (by kernel_rfl) (by kernel_rfl) (by kernel_rfl) (fun _ _ _ h => h) hS (Or.inl ⟨by rfl, ?_⟩) ?_
      rotate_left
      · intro w hSw; obtain f12 := HF.out w hSw; go_simp <;> with_reducible rfl
      try simp only [Act.put, List.setIfInBounds_toArray, List.set_cons_zero, List.set_cons_succ]
      refine takeE (i := 10) (v := ?_) rfl (by kernel_rfl) (by kernel_rfl) (by kernel_rfl) (by kernel_rfl) (fun _ _ _ h => h) hS (Or.inl ⟨by rfl, ?_⟩) ?_
      rotate_left
      · intro w hSw; obtain f12 := HF.out w hSw; go_simp <;> with_reducible rfl
      try simp only [Act.put, List.setIfInBounds_toArray, List.set_cons_zero, List.set_cons_succ]
      refine takeE (i := 11) (v := ?_) rfl (by kernel_rfl) (by kernel_rfl) (by kernel_rfl) (by kernel_rfl) (fun _ _ _ h => h) hS (Or.inl ⟨by rfl, ?_⟩) ?_
      rotate_left
      · intro w hSw; obtain f12 := HF.out w hSw; go_simp <;> with_reducible rfl
      try simp only [Act.put, List.setIfInBounds_toArray, List.set_cons_zero, List.set_cons_succ]
      refine takeE (i := 12) (v := ?_) rfl (by kernel_rfl) (by kernel_rfl) (by kernel_rfl) (by kernel_rfl) (fun _ _ _ h => h) hS (Or.inl ⟨by rfl, ?_⟩) ?_
      rotate_left
      · intro w hSw; obtain f12 := HF.out w hSw; go_simp <;> with_reducible rfl
      try simp only [Act.put, List.setIfInBounds_toArray, List.set_cons_zero, List.set_cons_succ]
      refine takeE (i := 13) (v := ?_) rfl (by kernel_rfl) (by kernel_rfl) (by kernel_rfl) (by kernel_rfl) (fun _ _ _ h => h) hS (Or.inl ⟨by rfl, ?_⟩) ?_
      rotate_left
      · intro w hSw; obtain f12 := HF.out w hSw; go_simp <;> with_reducible rfl
      try simp only [Act.put, List.setIfInBounds_toArray, List.set_cons_zero, List.set_cons_succ]
      refine takeE (i := 14) (v := ?_) rfl (by kernel_rfl) (by kernel_rfl) (by kernel_rfl) (by kernel_rfl) (fun _ _ _ h => h) hS (Or.inl ⟨by rfl, ?_⟩) ?_
      rotate_left
      · intro w hSw; obtain f12 := HF.out w hSw; go_simp <;> with_reducible rfl
      try simp only [Act.put, List.setIfInBounds_toArray, List.set_cons_zero, List.set_cons_succ]
      refine takeE (i := 15) (v := ?_) rfl (by kernel_rfl) (by kernel_rfl) (by kernel_rfl) (by kernel_rfl) (fun _ _ _ h => h) hS (Or.inl ⟨by rfl, ?_⟩) ?_
      rotate_left
      · intro w hSw; obtain f12 := HF.out w hSw; go_simp <;> with_reducible rfl
      try simp only [Act.put, List.setIfInBounds_toArray, List.set_cons_zero, List.set_cons_succ]
      refine readyE (rs := [1]) (by kernel_rfl) (by simp) ?_
      refine consE (o := _) rfl (fun K hK => ?_) nilE
      -- 1 buildSlice
      go_simp
      have hsz1 := hS.size
      refine allocE hK (hS.alloc _) (fun z1 hz1 hS => ?_)
      have hO1 : z1.ownsRow w5.heap.size 62 7 (.slice (some ⟨w5.drew.heap.size, 0, none⟩) 0 0) 0 [] := by rw [hz1]; exact World.ownsRow_lit _ #[] 0 hsz1 (by unfold maxLen; omega) rfl
      have hin1 : ∀ k, In (.slice (some ⟨w5.drew.heap.size, 0, none⟩) 0 0) k → k = w5.drew.heap.size := fun k e => by have e2 : some w5.drew.heap.size = some k := e; cases e2; rfl
      clear hz1
      clear hK K
      try simp only [Act.put, List.setIfInBounds_toArray, List.set_cons_zero, List.set_cons_succ]
      refine readyE (rs := [8]) (by kernel_rfl) (by simp) ?_
      refine consE (o := _) rfl (fun K hK => ?_) nilE
      -- 8 call
      refine step_append_src rfl _ _ 51 rfl w5.heap.size 62 i0 _ 7 64 Try.underlying51 hi hi0 hi1 hi2 rfl (by decide) _ 0 [] rfl hO1 (some ⟨g, 0, none⟩) i cap (Wl (s.Ws.take i)) rfl (fun h => by cases h) HL1.out (by intro ad e; cases e; exact HN1.out _ hS) (Wl_one _) (by unfold maxLen; omega) (by omega) hS.size ?_
      intro v6 z2 hO6 hk6
      have hS6 : Kp (fun _ => False) w5 z2 := hS.trans_new hk6 (fun k h1 h2 => by have := hin1 k h2; omega)
      refine keepE hK hS6 (fun hS => ?_)
      clear hK K
      try simp only [Act.put, List.setIfInBounds_toArray, List.set_cons_zero, List.set_cons_succ]
      refine readyE (rs := [16]) (by kernel_rfl) (by simp) ?_
      refine consE (o := _) rfl (fun K hK => ?_) nilE
      -- 16 call
      refine step_append_src rfl _ _ 51 rfl w5.heap.size 62 i0 _ 7 64 Try.underlying51 hi hi0 hi1 hi2 rfl (by decide) _ _ _ rfl hO6 (some ⟨g, (i + 1) * 7, none⟩) (s.Ws.length - (i + 1)) (cap - (i + 1)) (Wl (s.Ws.drop (i + 1))) rfl (fun h => by cases h) HL2.out (by intro ad e; cases e; exact HN2.out _ hS) (Wl_one _) (by unfold maxLen; omega) (by omega) hS.size ?_
      intro v9 z3 hO9 hk9
      obtain ⟨a9, c9, rfl⟩ := (own_weaken hO9).slice
      have hS9 : Kp (fun _ => False) w5 z3 := hS.trans_new hk9 (fun k h1 h2 => by have := (World.ownsRow.lt hO6 k h2).1; omega)
      refine keepE hK hS9 (fun hS => ?_)
      clear hK K
      try simp only [Act.put, List.setIfInBounds_toArray, List.set_cons_zero, List.set_cons_succ]
      refine readyE (rs := [17]) (by kernel_rfl) (by simp) ?_
      refine consE (o := _) rfl (fun K hK => ?_) nilE
      -- 17 nilCheck
      go_simp
      refine keepE hK hS (fun hS => ?_)
      clear hK K
      try simp only [Act.put, List.setIfInBounds_toArray, List.set_cons_zero, List.set_cons_succ]
      refine takeE (i := 18) (v := ?_) rfl (by kernel_rfl) (by kernel_rfl) (by kernel_rfl) (by kernel_rfl) (fun _ _ _ h => h) hS (Or.inl ⟨by rfl, ?_⟩) ?_
      rotate_left
      · intro w hSw; obtain f12 := HF.out w hSw; go_simp <;> with_reducible rfl
      try simp only [Act.put, List.setIfInBounds_toArray, List.set_cons_zero, List.set_cons_succ]
      refine readyE (rs := [19]) (by kernel_rfl) (by simp) ?_
      refine consE (o := _) rfl (fun K hK => ?_) nilE
      -- 19 store
      have e12 := (hS.frozen 12 HQ5.out.1 (fun h => h)).trans HQ5.out.2
      have f12 := HF.out _ hS
      go_simp
      refine hK.out _ _ (fun h => absurd rfl h) ?_
      clear hK K
      try simp only [Act.put, List.setIfInBounds_toArray, List.set_cons_zero, List.set_cons_succ]
      refine doneE (by kernel_rfl) ?_ _
      go_wp2_with fail
      go_meet
      exact ⟨_, _, _, _, rfl, hS, by have h := hO9; rw [List.nil_append, Nat.zero_add] at h; exact h, by omega⟩
  case rest =>
    obtain ⟨z, a9, n9, c9, rfl, hzk, hzo, hn9⟩ := hcut
    obtain ⟨h6, st6, ha6⟩ := H5.out.cutL hzk HX.out HNG.out hn9 hzo rfl
    have hk6 : Kp (fun k => k = q) w5 (z.setCell ⟨q, 12, none⟩ (.slice a9 n9 c9)) := (hzk.mono (fun _ _ h => h.elim)).setCell _ _ (Or.inl rfl)
    have hb6 := hk6.keep HB5.out hqb
    obtain ⟨w6, hw6⟩ : ∃ w6, w6 = z.setCell ⟨q, 12, none⟩ (.slice a9 n9 c9) := ⟨_, rfl⟩
    rw [← hw6] at h6 st6 hk6 hb6 ⊢
    obtain ⟨s6, hs6⟩ : ∃ s6, s6 = fL s (.slice a9 n9 c9) (Cutx i s.Ws) s.D := ⟨_, rfl⟩
    rw [← hs6] at h6 st6 ha6
    have HPS := Lib.hid (show s6.Ps = s.Ps ∧ s6.D = s.D from by rw [hs6]; exact ⟨rfl, rfl⟩)
    have H6 := Lib.hid h6; have HA6 := Lib.hid ha6
    have HST := Lib.hid (show St w w6 s s6 from (St.of HK5.out (fun _ _ h => h.elim) rfl).trans st6)
    have y0 : w6.cell? ⟨b3, 0, none⟩ = some (.int .i64 x.id) := (cell_of hb6 0).trans rfl
    have y1 : w6.cell? ⟨b3, 1, none⟩ = some (.int .i64 x.rc) := (cell_of hb6 1).trans rfl
    have y2 : w6.cell? ⟨b3, 2, none⟩ = some (.int .i64 x.nx) := (cell_of hb6 2).trans rfl
    have y3 : w6.cell? ⟨b3, 3, none⟩ = some (.string x.snd) := (cell_of hb6 3).trans rfl
    have y4 : w6.cell? ⟨b3, 4, none⟩ = some (.string x.dom) := (cell_of hb6 4).trans rfl
    have y5 : w6.cell? ⟨b3, 5, none⟩ = some (.bool x.loc) := (cell_of hb6 5).trans rfl
    have y6 : w6.cell? ⟨b3, 6, none⟩ = some (.bool false) := (cell_of hb6 6).trans rfl
    clear hw6 h6 st6 hk6 hb6 hzk hzo ha6 hs6 hn9 HF HSRC
    go_wp2_with fail
    refine (fgone_any q N s6 _ vp x.id x.rc x.nx x.snd x.dom x.loc false _ H6.out hN).mono ?_; rintro e w7 ⟨rfl, s7, h7, st7, ha7, hp7, _, hd7, _⟩
    have HR := Lib.hid (show FDrop q N s (.slice (some ⟨g, 0, none⟩) s.Ws.length cap) vp x.id x.rc w (.returned (.bool true)) w7 from by
      refine ⟨fun hn => absurd ⟨rfl, rfl⟩ (hn x HXM.out), fun y hy e1 e2 e3 => ?_, fun y hy e1 e2 _ => ?_⟩
      · obtain rfl := HUQ.out y hy e1 e2
        rw [HGO.out] at e3; cases e3
      · obtain rfl := HUQ.out y hy e1 e2
        refine ⟨rfl, s7, _, h7, HST.out.trans st7, ?_, hp7.trans HPS.out.1, hd7.trans HPS.out.2⟩
        rw [ha7, HA6.out, aGone_ring]
        have e5 : wx y = ⟨y.id, y.rc, y.snd, y.dom, y.loc, false, y.nx⟩ := by unfold wx; rw [HGO.out]
        rw [e5])
    clear h7 st7 ha7 hp7 hd7
    go_wp2_with fail
    go_ret
    exact HR.out
end Go.Proofs.Ytbiahndpfbmoeaa
