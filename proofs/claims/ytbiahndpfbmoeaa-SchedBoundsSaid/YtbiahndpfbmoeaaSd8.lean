/- What a scheduler's Drop, start, Window, Len, Senders do. Condition: its numbers are of int's range. -/
import Derived.Test.YtbiahndpfbmoeaaSd7
namespace Go.Proofs.Ytbiahndpfbmoeaa
open Go.RowKit Go.Maps SatAid Go.MapKept Go.ChangeMaps Go.WideShapes

theorem SIn.notin {w : World} {p N : Nat} {s : Sd} {x : Wt} (h : SIn w p s N) (hx : x ∈ s.Ws) (hg : x.go = false) : (x.id, x.rc) ∉ s.G := fun hk => by
  obtain ⟨z, hz, e, e2⟩ := h.gin _ hk
  have := h.key_eq hz hx e
  subst this
  rw [hg] at e2
  cases e2
theorem sdrop_none (id rc : Int) (w : World) : Calls Try.prog 27 #[.pointer none, .int .i64 id, .int .i64 rc] w fun e w' => e = .returned (.bool false) ∧ w = w' := by
  go_enter Try.func27, Try.ntmps27
  go_wp2
  go_ret
  exact ⟨rfl, rfl⟩
theorem sdrop_miss (p N : Nat) (s : Sd) (id rc : Int) (w : World) (h : SIn w p s N) (h1 : (Lit.int .i64 id).wf = true) (h2 : (Lit.int .i64 rc).wf = true) (hn : ∀ z ∈ s.Ws, (z.id, z.rc) ≠ (id, rc)) :
    Calls Try.prog 27 #[.pointer (some ⟨p, 0, none⟩), .int .i64 id, .int .i64 rc] w fun e w' => e = .returned (.bool false) ∧ w = w' := by
  have c13 : w.cell? ⟨p, 12, none⟩ = some (.map (some s.bm)) := (cell_of h.head 12).trans rfl
  have HM := Lib.hid (wm_miss h h1 h2 hn)
  have hkey := key_lit h1 h2
  unfold Kv at hkey
  have H := Lib.hid h; clear h hn
  go_enter Try.func27, Try.ntmps27
  go_wp2_with (at_lookup; refine wpList_miss _ rfl _ _ 88 rfl 95 96 key_keyed Try.underlying88 (wzero _) _ _ _ rfl H.out.bym _ _ rfl hkey HM.out ?_)
  go_ret
  exact ⟨rfl, rfl⟩
theorem sdrop_going (p N : Nat) (s : Sd) (x : Wt) (w : World) (h : SIn w p s N) (hx : x ∈ s.Ws) (hg : x.go = true) :
    Calls Try.prog 27 #[.pointer (some ⟨p, 0, none⟩), .int .i64 x.id, .int .i64 x.rc] w fun e w' => e = .returned (.bool false) ∧ w = w' := by
  have c13 : w.cell? ⟨p, 12, none⟩ = some (.map (some s.bm)) := (cell_of h.head 12).trans rfl
  have x5 : w.cell? ⟨x.blk, 5, none⟩ = some (.bool x.go) := (cell_of (h.wts x hx) 5).trans rfl
  rw [hg] at x5
  have hkey := key_lit (h.wfs x hx).1 (h.wfs x hx).2.1
  unfold Kv at hkey
  have H := Lib.hid h; have HX := Lib.hid hx; clear h hx
  go_enter Try.func27, Try.ntmps27
  go_wp2_with (at_lookup; refine wpList_look _ rfl _ _ 88 rfl 95 96 key_keyed Try.underlying88 (wzero _) _ _ _ rfl H.out.bym _ _ rfl hkey _ (wm_mem HX.out) ?_)
  go_ret
  exact ⟨rfl, rfl⟩
def Sgone2 (p N : Nat) (s : Sd) (x : Wx) (w : World) (e : Ending) (w' : World) : Prop :=
  e = .returned (.bool true) ∧ ∃ s', SIn w' p s' N ∧ St w w' s s' ∧ ab s' = aGone (ab s) x ∧ s'.Ps = s.Ps
theorem sdrop_yes (p N : Nat) (s : Sd) (x : Wt) (w : World) (h : SIn w p s N) (hx : x ∈ s.Ws) (hg : x.go = false) (hN : N ≤ 1000000) :
    Calls Try.prog 27 #[.pointer (some ⟨p, 0, none⟩), .int .i64 x.id, .int .i64 x.rc] w (Sgone2 p N s (wx x) w) := by
  have c13 : w.cell? ⟨p, 12, none⟩ = some (.map (some s.bm)) := (cell_of h.head 12).trans rfl
  have x5 : w.cell? ⟨x.blk, 5, none⟩ = some (.bool x.go) := (cell_of (h.wts x hx) 5).trans rfl
  rw [hg] at x5
  have hkey := key_lit (h.wfs x hx).1 (h.wfs x hx).2.1
  unfold Kv at hkey
  have HG := Lib.hid (h.notin hx hg)
  have H := Lib.hid h; have HX := Lib.hid hx; clear h hx
  go_enter Try.func27, Try.ntmps27
  go_wp2_with (at_lookup; refine wpList_look _ rfl _ _ 88 rfl 95 96 key_keyed Try.underlying88 (wzero _) _ _ _ rfl H.out.bym _ _ rfl hkey _ (wm_mem HX.out) ?_)
  refine (sgone_any p N s x _ H.out HX.out HG.out hN).mono ?_; rintro e w1 ⟨rfl, _, hq⟩
  have HQ := Lib.hid hq; clear hq
  go_wp2_with fail
  go_ret
  exact ⟨rfl, HQ.out⟩
theorem slen_none (w : World) : Calls Try.prog 38 #[.pointer none] w fun e w' => e = .returned (.int .i64 0) ∧ w = w' := by
  go_enter Try.func38, Try.ntmps38
  go_wp2
  go_ret
  exact ⟨rfl, rfl⟩
theorem slen_any (p N : Nat) (s : Sd) (w : World) (h : SIn w p s N) :
    Calls Try.prog 38 #[.pointer (some ⟨p, 0, none⟩)] w fun e w' => e = .returned (.int .i64 (ab s).W.length) ∧ w = w' := by
  have c13 : w.cell? ⟨p, 12, none⟩ = some (.map (some s.bm)) := (cell_of h.head 12).trans rfl
  have H := Lib.hid h; clear h
  have HL := Lib.hid (show (Wm s.Ws).length = (ab s).W.length by simp [Wm, ab])
  go_enter Try.func38, Try.ntmps38
  go_wp2_with (at_len; refine wpList_len_map _ rfl _ 88 rfl 95 96 Try.underlying88 _ _ _ rfl H.out.bym ?_; rw [HL.out])
  go_ret
  exact ⟨rfl, rfl⟩
theorem results_cell1 {fn : Func} {p : Tmp} {ty : TypeId} (h : fn.results = #[.cell p ty]) (tmps : Array Value) (P : Program) (w : World) :
    (results fn tmps).run P w = ((asAddr (tmps.getD p undef)).run P w).andThen fun a w₁ => (loadVar ty a).run P w₁ := by
  simp only [results, h]
  simp [Sem.run_bind, Result.andThen]
theorem sstart_any (x : Wt) (w : World) (h : w.heap[x.blk]? = some (.cells (Wc x) 99 (0, 0))) (ps : Value) :
    Calls Try.prog 56 #[ps, .pointer (some ⟨x.blk, 0, none⟩)] w fun e w' => e = .returned (.agg #[.int .i64 x.id, .int .i64 x.rc, .string x.dom]) ∧ Kp (fun _ => False) w w' := by
  have x0 : w.cell? ⟨x.blk, 0, none⟩ = some (.int .i64 x.id) := (cell_of h 0).trans rfl
  have x1 : w.cell? ⟨x.blk, 1, none⟩ = some (.int .i64 x.rc) := (cell_of h 1).trans rfl
  have x3 : w.cell? ⟨x.blk, 3, none⟩ = some (.string x.dom) := (cell_of h 3).trans rfl
  have lx := lt_of_block h
  clear h
  go_enter Try.func56, Try.ntmps56
  go_wp2_with fail
  go_region_held3 (fun w' => w'.cell? ⟨x.blk, 0, none⟩ = some (.int .i64 x.id) ∧ w'.cell? ⟨x.blk, 1, none⟩ = some (.int .i64 x.rc) ∧ w'.cell? ⟨x.blk, 3, none⟩ = some (.string x.dom)) (first | exact ⟨(Kp.cell (S := fun _ => False) (w := w) (by repeat (first | exact Kp.refl _ _ | apply Kp.drew | apply Kp.drewN | refine Kp.setCell ?_ _ _ (Or.inr (by simp)) | apply Kp.alloc)) 0 lx (fun h => h)).trans x0, (Kp.cell (S := fun _ => False) (w := w) (by repeat (first | exact Kp.refl _ _ | apply Kp.drew | apply Kp.drewN | refine Kp.setCell ?_ _ _ (Or.inr (by simp)) | apply Kp.alloc)) 1 lx (fun h => h)).trans x1, (Kp.cell (S := fun _ => False) (w := w) (by repeat (first | exact Kp.refl _ _ | apply Kp.drew | apply Kp.drewN | refine Kp.setCell ?_ _ _ (Or.inr (by simp)) | apply Kp.alloc)) 3 lx (fun h => h)).trans x3⟩) (fail)
  go_wp2_with fail
  refine bodyPost_ret (v := .agg #[.int .i64 x.id, .int .i64 x.rc, .string x.dom]) ?_ rfl ⟨rfl, (by repeat (first | exact Kp.refl _ _ | apply Kp.drew | apply Kp.drewN | refine Kp.setCell ?_ _ _ (Or.inl rfl) | apply Kp.alloc))⟩
  rw [results_cell1 rfl]
  go_simp
theorem ssenders_none (b : Bool) (w : World) : Calls Try.prog 39 #[.pointer none, .bool b] w fun e w' => e = .returned (.slice none 0 0) ∧ w = w' := by
  go_enter Try.func39, Try.ntmps39
  go_wp2
  go_ret
  exact ⟨rfl, rfl⟩
theorem ssenders_any (p N : Nat) (s : Sd) (b : Bool) (w : World) (h : SIn w p s N) (hN : N ≤ 1000000) :
    Calls Try.prog 39 #[.pointer (some ⟨p, 0, none⟩), .bool b] w (Cloned 9 1 (if b then s.A1 else s.A0).length (Sc (if b then s.A1 else s.A0)) w) := by
  have c15 : w.cell? ⟨p, 14, none⟩ = some (.map (some s.br)) := (cell_of h.head 14).trans rfl
  have hl0 := h.l0; have hl1 := h.l1
  have H := Lib.hid h; clear h
  cases b with
  | false =>
    go_enter Try.func39, Try.ntmps39
    go_wp2_with (at_lookup; refine wpList_look1 _ rfl _ _ 90 rfl 4 23 bool_law Try.underlying90 (rzero _) _ _ _ rfl H.out.rgm _ _ rfl (keyOf_bool_mk Try.underlying4 false) (.pointer (some ⟨s.r0, 0, none⟩)) (by simp [Rm]) ?_)
    refine (rnames_any s.r0 s.v0 s.A0 _ H.out.rg0 (by omega)).mono ?_; rintro e w1 ⟨v, rfl, ho, hk⟩
    have HO := Lib.hid ho; have HK := Lib.hid hk; clear ho hk
    go_wp2_with fail
    go_ret
    exact ⟨_, rfl, HO.out, HK.out⟩
  | true =>
    go_enter Try.func39, Try.ntmps39
    go_wp2_with (at_lookup; refine wpList_look1 _ rfl _ _ 90 rfl 4 23 bool_law Try.underlying90 (rzero _) _ _ _ rfl H.out.rgm _ _ rfl (keyOf_bool_mk Try.underlying4 true) (.pointer (some ⟨s.r1, 0, none⟩)) (by simp [Rm]) ?_)
    refine (rnames_any s.r1 s.v1 s.A1 _ H.out.rg1 (by omega)).mono ?_; rintro e w1 ⟨v, rfl, ho, hk⟩
    have HO := Lib.hid ho; have HK := Lib.hid hk; clear ho hk
    go_wp2_with fail
    go_ret
    exact ⟨_, rfl, HO.out, HK.out⟩

/-- what a domain looks like -/
def fp (Ps : List Pe) (d : ByteArray) : Option Pe := Ps.find? fun y => decide (y.dom = d)
def vN (s : Sd) (d : ByteArray) : Int := match fp s.Ps d with | some y => y.now | none => 1
def vB (s : Sd) (d : ByteArray) : Int := match fp s.Ps d with | some y => y.busy | none => 0
def vT (s : Sd) (n : Int) (d : ByteArray) : Int := match fp s.Ps d with | some y => Lf (V s.c.rate) (V s.c.burst) y.l y.t n | none => V s.c.burst
def Tik (s : Sd) (n : Int) : Prop := ∀ y ∈ s.Ps, y.t ≤ n
theorem fp_some {Ps : List Pe} {d : ByteArray} {y : Pe} (h : fp Ps d = some y) : y ∈ Ps ∧ y.dom = d := ⟨List.mem_of_find?_eq_some h, by simpa using List.find?_some h⟩
theorem fp_none {Ps : List Pe} {d : ByteArray} (h : fp Ps d = none) : ∀ y ∈ Ps, y.dom ≠ d := by
  unfold fp at h
  rw [List.find?_eq_none] at h
  intro y hy e
  exact h y hy (decide_eq_true e)
theorem fp_eq {Ps : List Pe} (hp : Ps.Pairwise (fun a b => a.dom ≠ b.dom)) {y : Pe} (hy : y ∈ Ps) : fp Ps y.dom = some y := by
  cases h : fp Ps y.dom with
  | none => exact absurd rfl (fp_none h y hy)
  | some z =>
    obtain ⟨h1, h2⟩ := fp_some h
    rw [pw_eq hp h1 hy h2]
theorem fp_no {Ps : List Pe} {d : ByteArray} (h : ∀ y ∈ Ps, y.dom ≠ d) : fp Ps d = none := by
  unfold fp
  rw [List.find?_eq_none]
  intro y hy e
  exact h y hy (of_decide_eq_true e)
theorem Lf_then {r u l t a b : Int} (hr : 1 ≤ r) (hr2 : r ≤ 100) (hu : 1 ≤ u) (hu2 : u ≤ 100) (hl : 0 ≤ l) (hl2 : l ≤ u) (ht : 0 ≤ t) (hta : t ≤ a) (hab : a ≤ b) (hb : b ≤ 1099511627776) : Lf r u (Lf r u l t a) a b = Lf r u l t b := by
  have e1 := Lf_eq (n := a) hr hr2 hu hu2 hl hl2 ht (by omega)
  have e2 := Lf_eq (n := b) hr hr2 hu hu2 hl hl2 ht (by omega)
  have h1 : 0 ≤ Lf r u l t a := Lf_lo (by omega)
  have h2 : Lf r u l t a ≤ u := Lf_hi
  have e3 := Lf_eq (n := b) hr hr2 hu hu2 h1 h2 (t := a) (by omega) (by omega)
  rw [C_of (n := a) (by omega) (by omega)] at e1
  rw [C_of (n := b) (by omega) (by omega)] at e2 e3
  rw [e3, e2, e1]
  rw [show max (a - t) 0 = a - t by omega, show max (b - t) 0 = b - t by omega, show max (b - a) 0 = b - a by omega]
  have h3 : r * (b - t) = r * (a - t) + r * (b - a) := by rw [← Int.mul_add]; congr 1; omega
  have h4 : 0 ≤ r * (b - a) := Int.mul_nonneg (by omega) (by omega)
  omega
theorem Lf_full' {r u t n : Int} (hr : 1 ≤ r) (hr2 : r ≤ 100) (hu : 1 ≤ u) (hu2 : u ≤ 100) (ht : 0 ≤ t) (htn : t ≤ 1099511627776) : Lf r u u t n = u := by
  rw [Lf_eq hr hr2 hu hu2 (by omega) (Int.le_refl _) ht htn]
  have : 0 ≤ r * max (C n - t) 0 := Int.mul_nonneg (by omega) (by omega)
  omega
/-- its domains look as they did, from now on -/
structure Vq (now : Int) (s s' : Sd) : Prop where
  n : ∀ d, vN s' d = vN s d
  b : ∀ d, vB s' d = vB s d
  t : ∀ m d, now ≤ m → m ≤ 1099511627776 → vT s' m d = vT s m d
  le : Tik s' now
theorem Vq.refl {now : Int} {s : Sd} (h : Tik s now) : Vq now s s := ⟨fun _ => rfl, fun _ => rfl, fun _ _ _ _ => rfl, h⟩
theorem Vq.trans {now : Int} {s s1 s2 : Sd} (h : Vq now s s1) (g : Vq now s1 s2) : Vq now s s2 :=
  ⟨fun d => (g.n d).trans (h.n d), fun d => (g.b d).trans (h.b d), fun m d h1 h2 => (g.t m d h1 h2).trans (h.t m d h1 h2), g.le⟩
theorem Vq.of {now : Int} {s s' : Sd} (hp : s'.Ps = s.Ps) (hc : s'.c = s.c) (h : Tik s now) : Vq now s s' := ⟨fun d => by unfold vN; rw [hp], fun d => by unfold vB; rw [hp], fun m d _ _ => by unfold vT; rw [hp, hc], by unfold Tik; rw [hp]; exact h⟩
/-- a domain more -/
theorem Vq.ext {s s' : Sd} {now : Int} {y : Pe} (ht : Tik s now) (hn : 0 ≤ now) (hn2 : now ≤ 1099511627776) (hx : Pext s now y s'.Ps) (hc : s'.c = s.c) : Vq now s s' := by
  obtain ⟨hy, h | ⟨h, hne, h1, h2, h3, h4⟩⟩ := hx
  · exact Vq.of h hc ht
  · rw [C_of hn hn2] at h4
    have hf : ∀ d, fp s'.Ps d = match fp s.Ps d with | some z => some z | none => if y.dom = d then some y else none := fun d => by
      rw [h]
      unfold fp
      rw [List.find?_append]
      cases hh : s.Ps.find? (fun y => decide (y.dom = d)) with
      | some z => rfl
      | none =>
        simp only [Option.none_or, List.find?_cons, List.find?_nil]
        by_cases e : y.dom = d
        · simp [e]
        · simp [e]
    refine ⟨fun d => ?_, fun d => ?_, fun m d h5 h6 => ?_, fun z hz => ?_⟩
    · unfold vN; rw [hf]
      cases fp s.Ps d with
      | some z => rfl
      | none => simp only; split <;> rename_i h7 <;> split at h7 <;> first | (cases h7; exact h1) | rfl | cases h7
    · unfold vB; rw [hf]
      cases fp s.Ps d with
      | some z => rfl
      | none => simp only; split <;> rename_i h7 <;> split at h7 <;> first | (cases h7; exact h2) | rfl | cases h7
    · unfold vT; rw [hf, hc]
      cases fp s.Ps d with
      | some z => rfl
      | none =>
        simp only
        split <;> rename_i h7 <;> split at h7
        · cases h7
          rw [h3, h4]
          exact Lf_full' (V_lo _) (V_hi _) (V_lo _) (V_hi _) hn hn2
        · cases h7
        · cases h7
        · rfl
    · rw [h] at hz
      rcases List.mem_append.1 hz with hz | hz
      · exact ht z hz
      · obtain rfl := List.mem_singleton.1 hz
        omega
end Go.Proofs.Ytbiahndpfbmoeaa
