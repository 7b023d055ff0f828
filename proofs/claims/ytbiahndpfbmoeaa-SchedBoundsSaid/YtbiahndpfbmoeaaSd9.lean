/- What a scheduler's Window, Left do; a domain's state. Conditions: a domain's name is no longer than a length may be; times do not go back. -/
import Derived.Test.YtbiahndpfbmoeaaSd8
namespace Go.Proofs.Ytbiahndpfbmoeaa
open Go.RowKit Go.Maps SatAid Go.MapKept Go.ChangeMaps Go.WideShapes

theorem speer_any (p N : Nat) (s : Sd) (d : ByteArray) (n : Int) (w : World) (h : SIn w p s N) (hd : d ∈ s.D) (hN : N ≤ 1000000) :
    Calls Try.prog 53 #[.pointer (some ⟨p, 0, none⟩), .string d, .int .i64 n] w (Speer p N s d n w) := by
  by_cases hy : ∃ y ∈ s.Ps, y.dom = d
  · obtain ⟨y, hy, rfl⟩ := hy
    exact speer_old p N s y n w h hy
  · exact speer_new p N s d n w h hd (fun z hz e => hy ⟨z, hz, e⟩) (by have := h.pslen; have := h.ld; omega)
theorem St.none {w w' : World} {s s' : Sd} (h : St w w' s s') {k : Nat} (hk : k < w.heap.size) (hc : s.col k = none) : s'.col k = none := by
  cases hs : s'.col k with
  | none => rfl
  | some c =>
    rcases h.new k (by rw [hs]; rfl) with e | e
    · rw [hc] at e; cases e
    · omega
theorem St.peer {w w' : World} {p N : Nat} {s : Sd} {Ps' : List Pe} {col' : Nat → Option (Nat × (Int × Int) × ByteArray)} (h : SIn w p s N) (hc : Cext s w col') (hk : Kp (· = s.bp) w w') : St w w' s { s with Ps := Ps', col := col' } :=
  ⟨hc.old, hc.new, hk.mono (fun k _ e => by subst e; rw [h.cols.prm]; rfl)⟩
theorem pn_of {s : Sd} {y : Pe} (hp : s.Ps.Pairwise (fun a b => a.dom ≠ b.dom)) (hy : y ∈ s.Ps) : vN s y.dom = y.now ∧ vB s y.dom = y.busy ∧ ∀ n, vT s n y.dom = Lf (V s.c.rate) (V s.c.burst) y.l y.t n := by
  unfold vN vB vT
  rw [fp_eq hp hy]
  exact ⟨rfl, rfl, fun _ => rfl⟩
theorem fp_sub {Ps : List Pe} {y' : Pe} {d : ByteArray} (hp : Ps.Pairwise (fun a b => a.dom ≠ b.dom)) (hy : ∃ u ∈ Ps, u.dom = y'.dom) : fp (Psub Ps y') d = if d = y'.dom then some y' else fp Ps d := by
  obtain ⟨u, hu, he⟩ := hy
  have hp' : (Psub Ps y').Pairwise (fun a b => a.dom ≠ b.dom) := by
    unfold Psub
    rw [List.pairwise_map]
    refine hp.imp (fun {a b} h => ?_)
    split <;> rename_i h1 <;> split <;> rename_i h2
    · exact absurd (h1.trans h2.symm) h
    · rw [← h1]; exact h
    · rw [← h2]; exact h
    · exact h
  by_cases e : d = y'.dom
  · subst e
    rw [if_pos rfl]
    exact fp_eq hp' (Psub_in hu he)
  · rw [if_neg e]
    cases hf : fp Ps d with
    | none => exact fp_no (fun z hz => by
        rcases Psub_mem hz with ⟨rfl, _⟩ | ⟨hz, _⟩
        · exact fun e2 => e e2.symm
        · exact fp_none hf z hz)
    | some z =>
      obtain ⟨h1, h2⟩ := fp_some hf
      have : z ∈ Psub Ps y' := List.mem_map.2 ⟨z, h1, by rw [if_neg (fun e2 => e (h2 ▸ e2))]⟩
      rw [← h2]
      exact fp_eq hp' this
/-- counted up to now -/
def Pnow (s : Sd) (y : Pe) (now : Int) : Pe := { y with l := Lf (V s.c.rate) (V s.c.burst) y.l y.t now, t := now }
theorem Vq.counted {s : Sd} {y : Pe} {now : Int} (hp : s.Ps.Pairwise (fun a b => a.dom ≠ b.dom)) (hy : y ∈ s.Ps) (hok : 0 ≤ y.l ∧ y.l ≤ V s.c.burst ∧ 0 ≤ y.t) (ht : Tik s now) (_hn2 : now ≤ 1099511627776) : Vq now s { s with Ps := Psub s.Ps (Pnow s y now) } := by
  have hf := fun d => fp_sub (d := d) hp (y' := Pnow s y now) ⟨y, hy, rfl⟩
  have hty := ht y hy
  refine ⟨fun d => ?_, fun d => ?_, fun m d h1 h2 => ?_, fun z hz => ?_⟩
  · unfold vN; simp only [hf]
    by_cases e : d = y.dom
    · subst e; rw [fp_eq hp hy, if_pos (show y.dom = (Pnow s y now).dom from rfl)]; rfl
    · rw [if_neg (show ¬ d = (Pnow s y now).dom from e)]
  · unfold vB; simp only [hf]
    by_cases e : d = y.dom
    · subst e; rw [fp_eq hp hy, if_pos (show y.dom = (Pnow s y now).dom from rfl)]; rfl
    · rw [if_neg (show ¬ d = (Pnow s y now).dom from e)]
  · unfold vT; simp only [hf]
    by_cases e : d = y.dom
    · subst e; rw [fp_eq hp hy, if_pos (show y.dom = (Pnow s y now).dom from rfl)]
      exact Lf_then (V_lo _) (V_hi _) (V_lo _) (V_hi _) hok.1 hok.2.1 hok.2.2 hty h1 h2
    · rw [if_neg (show ¬ d = (Pnow s y now).dom from e)]
  · rcases Psub_mem hz with ⟨rfl, _⟩ | ⟨hz, _⟩
    · exact Int.le_refl _
    · exact ht z hz
/-- Left, of a domain that is there -/
def Sleft (p N : Nat) (s : Sd) (y : Pe) (now : Int) (w : World) (e : Ending) (w' : World) : Prop :=
  e = .returned (.int .i64 (vT s now y.dom)) ∧ SIn w' p { s with Ps := Psub s.Ps (Pnow s y now) } N ∧ Kp (· = y.tb) w w' ∧ Vq now s { s with Ps := Psub s.Ps (Pnow s y now) } ∧ St w w' s { s with Ps := Psub s.Ps (Pnow s y now) }
theorem pleft_any (p N : Nat) (s : Sd) (y : Pe) (now : Int) (w : World) (h : SIn w p s N) (hy : y ∈ s.Ps) (ht : Tik s now) (hn2 : now ≤ 1099511627776) :
    Calls Try.prog 67 #[.pointer (some ⟨y.tb, 0, none⟩), .int .i64 now] w (Sleft p N s y now w) := by
  obtain ⟨k1, k2, k3, k4, k5, _⟩ := h.pok y hy
  obtain ⟨b1, b2, b3⟩ := h.prs y hy
  have hty := ht y hy
  have hC : C now = now := C_of (by omega) hn2
  have hm : max y.t (C now) = now := by rw [hC]; omega
  refine (bleft_any y.tb _ _ _ _ now w b3).mono ?_
  rintro e w' ⟨rfl, hb, hk⟩
  rw [hm] at hb
  have hne : y.wb ≠ y.tb := fun e => by
    obtain ⟨_, c2, c3⟩ := h.cols.prs y hy
    rw [e, c3] at c2
    exact Nat.ne_of_beq_eq_false rfl (congrArg Prod.fst (Option.some.inj c2))
  obtain ⟨g1, g2⟩ := h.setPeer hy (y' := Pnow s y now) rfl rfl rfl rfl (hk.mono (fun _ _ h => Or.inr h)) (hk.keep b2 hne) hb ⟨k1, Lf_lo (by have := V_lo s.c.burst; omega), Lf_hi, by show 0 ≤ now; omega, hn2⟩
  exact ⟨by rw [(pn_of h.doms hy).2.2 now], g1, hk, Vq.counted h.doms hy ⟨k2, k3, k4⟩ ht hn2, g2⟩

theorem swindow_none (d : ByteArray) (w : World) : Calls Try.prog 35 #[.pointer none, .string d] w fun e w' => e = .returned (.tuple #[.int .i64 0, .int .i64 0]) ∧ w = w' := by
  go_enter Try.func35, Try.ntmps35
  go_wp2
  go_ret2
  exact ⟨rfl, rfl⟩
theorem swindow_any (p N : Nat) (s : Sd) (d : ByteArray) (w : World) (h : SIn w p s N) (hd : d.size ≤ maxLen) :
    Calls Try.prog 35 #[.pointer (some ⟨p, 0, none⟩), .string d] w fun e w' => e = .returned (.tuple #[.int .i64 (vN s d), .int .i64 (vB s d)]) ∧ Kp (fun _ => False) w w' := by
  have c14 : w.cell? ⟨p, 13, none⟩ = some (.map (some s.bp)) := (cell_of h.head 13).trans rfl
  have hkey := str_key hd
  by_cases hy : ∃ y ∈ s.Ps, y.dom = d
  · obtain ⟨y, hy, rfl⟩ := hy
    obtain ⟨e1, e2, _⟩ := pn_of h.doms hy
    rw [e1, e2]
    have hin : ((Lit.string y.dom.data.toList), Value.pointer (some ⟨y.blk, 0, none⟩)) ∈ Pm s.Ps := List.mem_map.2 ⟨y, hy, rfl⟩
    obtain ⟨b1, b2, _⟩ := h.prs y hy
    have y0 : w.cell? ⟨y.blk, 0, none⟩ = some (.pointer (some ⟨y.wb, 0, none⟩)) := (cell_of b1 0).trans rfl
    have H := Lib.hid h; have HIN := Lib.hid hin; have HB := Lib.hid b2
    clear h hin b1 b2 hy e1 e2
    go_enter Try.func35, Try.ntmps35
    go_wp2_with (at_lookup; refine wpList_look _ rfl _ _ 89 rfl 9 106 str_law Try.underlying89 (pzero _) _ _ _ rfl H.out.prm _ _ rfl hkey _ HIN.out ?_)
    go_quiet (first | (go_at_call 65; exact Calls.quiet_of_same ((wnow_any y.wb _ _ _ _ (by exact HB.out)).flip)) | (go_at_call 66; exact Calls.quiet_of_same ((wbusy_any y.wb _ _ _ _ (by exact HB.out)).flip)))
    go_wp2_with fail
    go_ret2
    exact ⟨rfl, (by repeat (first | exact Kp.refl _ _ | apply Kp.drew | apply Kp.drewN | refine Kp.setCell ?_ _ _ (Or.inl rfl) | apply Kp.alloc))⟩
  · have hno : ∀ y ∈ s.Ps, y.dom ≠ d := fun y h1 h2 => hy ⟨y, h1, h2⟩
    have e1 : vN s d = 1 := by unfold vN; rw [fp_no hno]
    have e2 : vB s d = 0 := by unfold vB; rw [fp_no hno]
    rw [e1, e2]
    have hmiss : ∀ q ∈ Pm s.Ps, q.1 ≠ .string d.data.toList := fun q hq => by
      obtain ⟨z, hz, rfl⟩ := List.mem_map.1 hq
      exact dom_ne (hno z hz)
    have H := Lib.hid h; have HM := Lib.hid hmiss
    clear h hmiss hy hno e1 e2
    go_enter Try.func35, Try.ntmps35
    go_wp2_with (at_lookup; refine wpList_miss _ rfl _ _ 89 rfl 9 106 str_law Try.underlying89 (pzero _) _ _ _ rfl H.out.prm _ _ rfl hkey HM.out ?_)
    go_ret2
    exact ⟨rfl, (by repeat (first | exact Kp.refl _ _ | apply Kp.drew | apply Kp.drewN | refine Kp.setCell ?_ _ _ (Or.inl rfl) | apply Kp.alloc))⟩
theorem sleft_none (d : ByteArray) (n : Int) (w : World) : Calls Try.prog 37 #[.pointer none, .string d, .int .i64 n] w fun e w' => e = .returned (.int .i64 0) ∧ w = w' := by
  go_enter Try.func37, Try.ntmps37
  go_wp2
  go_ret
  exact ⟨rfl, rfl⟩
/-- it looks as it did, and more is not asked -/
def Slook (p N : Nat) (s : Sd) (now : Int) (r : Value) (w : World) (e : Ending) (w' : World) : Prop :=
  e = .returned r ∧ ∃ Ps' col', SIn w' p { s with Ps := Ps', col := col' } N ∧ St w w' s { s with Ps := Ps', col := col' } ∧ Vq now s { s with Ps := Ps', col := col' }
theorem sleft_any (p N : Nat) (s : Sd) (d : ByteArray) (now : Int) (w : World) (h : SIn w p s N) (hd : d.size ≤ maxLen) (ht : Tik s now) (hn2 : now ≤ 1099511627776) :
    Calls Try.prog 37 #[.pointer (some ⟨p, 0, none⟩), .string d, .int .i64 now] w (Slook p N s now (.int .i64 (vT s now d)) w) := by
  have c14 : w.cell? ⟨p, 13, none⟩ = some (.map (some s.bp)) := (cell_of h.head 13).trans rfl
  have c4 : w.cell? ⟨p, 4, none⟩ = some (.int .i64 s.c.rate) := (cell_of h.head 4).trans rfl
  have c5 : w.cell? ⟨p, 5, none⟩ = some (.int .i64 s.c.burst) := (cell_of h.head 5).trans rfl
  have lp := lt_of_block h.head
  have hkey := str_key hd
  by_cases hy : ∃ y ∈ s.Ps, y.dom = d
  · obtain ⟨y, hy, rfl⟩ := hy
    have hin : ((Lit.string y.dom.data.toList), Value.pointer (some ⟨y.blk, 0, none⟩)) ∈ Pm s.Ps := List.mem_map.2 ⟨y, hy, rfl⟩
    obtain ⟨b1, _⟩ := h.prs y hy
    have y1 : w.cell? ⟨y.blk, 1, none⟩ = some (.pointer (some ⟨y.tb, 0, none⟩)) := (cell_of b1 1).trans rfl
    have H := Lib.hid h; have HIN := Lib.hid hin; have HY := Lib.hid hy; have HT := Lib.hid ht
    clear h hin b1 hy ht c4 c5
    go_enter Try.func37, Try.ntmps37
    go_wp2_with (at_lookup; refine wpList_look _ rfl _ _ 89 rfl 9 106 str_law Try.underlying89 (pzero _) _ _ _ rfl H.out.prm _ _ rfl hkey _ HIN.out ?_)
    refine (pleft_any p N s y now _ H.out HY.out HT.out hn2).mono ?_; rintro e w1 ⟨rfl, g1, _, g2, g3⟩
    have HZ := Lib.hid (show Slook p N s now (.int .i64 (vT s now y.dom)) w (.returned (.int .i64 (vT s now y.dom))) w1 from ⟨rfl, _, _, g1, g3, g2⟩)
    clear g1 g2 g3
    go_wp2_with fail
    go_ret
    exact HZ.out
  · have hno : ∀ y ∈ s.Ps, y.dom ≠ d := fun y h1 h2 => hy ⟨y, h1, h2⟩
    have e1 : vT s now d = V s.c.burst := by unfold vT; rw [fp_no hno]
    rw [e1]
    have hmiss : ∀ q ∈ Pm s.Ps, q.1 ≠ .string d.data.toList := fun q hq => by
      obtain ⟨z, hz, rfl⟩ := List.mem_map.1 hq
      exact dom_ne (hno z hz)
    have hfull := Lf_full' (r := V s.c.rate) (u := V s.c.burst) (t := C now) (n := now) (V_lo _) (V_hi _) (V_lo _) (V_hi _) (C_lo _) (C_hi _)
    have H := Lib.hid h; have HM := Lib.hid hmiss; have HT := Lib.hid ht; have HF := Lib.hid hfull
    clear h hmiss hy hno e1 ht hfull
    go_enter Try.func37, Try.ntmps37
    go_wp2_with (at_lookup; refine wpList_miss _ rfl _ _ 89 rfl 9 106 str_law Try.underlying89 (pzero _) _ _ _ rfl H.out.prm _ _ rfl hkey HM.out ?_)
    go_region_held3 (fun w' => w'.cell? ⟨p, 4, none⟩ = some (.int .i64 s.c.rate) ∧ w'.cell? ⟨p, 5, none⟩ = some (.int .i64 s.c.burst)) (first | exact ⟨c4, c5⟩ | exact ⟨(hkb.cell 4 lp (fun h => h)).trans c4, (hkb.cell 5 lp (fun h => h)).trans c5⟩ | exact ⟨(hkc.cell 4 lp (fun h => h)).trans c4, (hkc.cell 5 lp (fun h => h)).trans c5⟩)
      (first | (go_at_call 68; refine (bnew_any _ _ _ _).mono ?_; rintro e wb ⟨tb, rfl, htb, htc, hkb0⟩; have hkb := (show Kp (fun _ => False) w _ from (Kp.refl _ _).drew).trans hkb0) | (go_at_call 67; refine (bleft_any tb _ _ _ _ now _ htc).mono ?_; rintro e wc ⟨rfl, htd, hkc0⟩; have hkc := hkb.trans_new hkc0 (fun k h1 h2 => by have h3 : w.heap.size ≤ tb := htb; have h4 : k = tb := h2; omega); rw [HF.out]))
    have HZ := Lib.hid (show Slook p N s now (.int .i64 (V s.c.burst)) w (.returned (.int .i64 (V s.c.burst))) wc from ⟨rfl, s.Ps, s.col, H.out.keep hkc (fun _ _ h => h), St.of hkc (fun _ _ h => h.elim) rfl, Vq.of rfl rfl HT.out⟩)
    clear htc htd hkb0 hkb hkc0 hkc
    go_wp2_with fail
    go_ret
    exact HZ.out
end Go.Proofs.Ytbiahndpfbmoeaa
