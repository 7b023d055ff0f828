/- What a scheduler's peer does. Condition: the domain is known, and no string is longer than a length may be. -/
import Derived.Test.YtbiahndpfbmoeaaSd2
namespace Go.Proofs.Ytbiahndpfbmoeaa
open Go.RowKit Go.Maps SatAid Go.MapKept Go.ChangeMaps Go.WideShapes

theorem str_key {d : ByteArray} (h : d.size ≤ maxLen) : keyOf Try.prog 9 (.string d) = some (.string d.data.toList) := WideMaps.keyOf_string_mk Try.underlying9 h
theorem dom_ne {a b : ByteArray} (h : a ≠ b) : (Lit.string a.data.toList) ≠ .string b.data.toList := by
  intro e
  simp only [Lit.string.injEq] at e
  apply h
  cases a; cases b
  simp only [ByteArray.mk.injEq]
  exact Array.toList_inj.1 e
theorem pzero (w : World) : (zeroValue 106).run Try.prog w = .ok (.pointer none) w := by kernel_rfl
/-- its colours with three more -/
def colP (s : Sd) (y : Pe) : Nat → Option (Nat × (Int × Int) × ByteArray) := fun k => if k = y.blk then some (cPeer y.dom) else if k = y.wb then some (cWin y.dom) else if k = y.tb then some (cBuck y.dom) else s.col k
/-- a domain more -/
theorem SIn.addPeer {w w' : World} {p N : Nat} {s : Sd} {y : Pe} (h : SIn w p s N) (hk : Kp (· = s.bp) w w') (hd : y.dom ∈ s.D) (hn : ∀ z ∈ s.Ps, z.dom ≠ y.dom) (h1 : w.heap.size ≤ y.blk) (h2 : w.heap.size ≤ y.wb) (h3 : w.heap.size ≤ y.tb) (h12 : y.blk ≠ y.wb) (h13 : y.blk ≠ y.tb) (h23 : y.wb ≠ y.tb)
    (hm : MapAt w' Try.prog 9 s.bp (s.Ps.length + 1) (Pm s.Ps ++ [(.string y.dom.data.toList, .pointer (some ⟨y.blk, 0, none⟩))]))
    (b1 : w'.heap[y.blk]? = some (.cells #[.pointer (some ⟨y.wb, 0, none⟩), .pointer (some ⟨y.tb, 0, none⟩)] 111 (0, 0))) (b2 : w'.heap[y.wb]? = some (.cells (Wd (V8 s.c.win) y.now y.busy) 139 (0, 0))) (b3 : w'.heap[y.tb]? = some (.cells (Bk (V s.c.rate) (V s.c.burst) y.l y.t) 141 (0, 0)))
    (hok : WOk (V8 s.c.win) y.now y.busy ∧ 0 ≤ y.l ∧ y.l ≤ V s.c.burst ∧ 0 ≤ y.t ∧ y.t ≤ 1099511627776) :
    SIn w' p { s with Ps := s.Ps ++ [y], col := colP s y } N := by
  have hc : ∀ k, (s.col k).isSome → colP s y k = s.col k := fun k e => by
    have := h.lt k e
    simp [colP, show k ≠ y.blk by omega, show k ≠ y.wb by omega, show k ≠ y.tb by omega]
  have hne : ∀ k c, s.col k = some c → c ≠ cPeers → ¬ k = s.bp := fun k c e hc e2 => by
    subst e2; rw [h.cols.prm] at e; exact hc (Option.some.inj e).symm
  have hC := h.cols.keep hc
  refine ⟨⟨hC.head, hC.bym, hC.prm, hC.rgm, hC.rg0, hC.rg1, hC.nm0, hC.nm1, hC.gng, hC.loc, hC.wts, fun z hz => ?_⟩, fun k e => ?_, hk.keep h.head (hne _ _ h.cols.head (by simp [cHead, cPeers])), h.loc.keep hk (fun k e => hne _ _ (h.cols.loc k e) (by simp [cLoc, cPeers])), h.bym.keep hk (hne _ _ h.cols.bym (by simp [cBy, cPeers])), ?_, h.rgm.keep hk (hne _ _ h.cols.rgm (by simp [cRings, cPeers])),
    h.rg0.keep hk (hne _ _ h.cols.rg0 (by simp [cRing, cPeers])) (fun k e => hne _ _ (h.cols.nm0 k e) (by simp [cNames, cPeers])), h.rg1.keep hk (hne _ _ h.cols.rg1 (by simp [cRing, cPeers])) (fun k e => hne _ _ (h.cols.nm1 k e) (by simp [cNames, cPeers])), h.gng.keep hk (fun k e => hne _ _ (h.cols.gng k e) (by simp [cGoing, cPeers])),
    fun x hx => hk.keep (h.wts x hx) (hne _ _ (h.cols.wts x hx) (by simp [cWait, cPeers])), fun z hz => ?_, h.wfs, fun z hz => ?_, h.dok, h.gin, h.gnd, h.ll, h.lw, h.ld, h.l0, h.l1⟩
  · rcases List.mem_append.1 hz with hz | hz
    · exact hC.prs z hz
    · obtain rfl := List.mem_singleton.1 hz
      exact ⟨by simp [colP], by simp [colP, Ne.symm h12], by simp [colP, Ne.symm h13, Ne.symm h23]⟩
  · have l1 := lt_of_block b1; have l2 := lt_of_block b2; have l3 := lt_of_block b3
    by_cases e1 : k = y.blk
    · omega
    by_cases e2 : k = y.wb
    · omega
    by_cases e3 : k = y.tb
    · omega
    have e' : (colP s y k).isSome := e
    simp only [colP, if_neg e1, if_neg e2, if_neg e3] at e'
    exact Nat.lt_of_lt_of_le (h.lt k e') hk.size
  · have e : Pm (s.Ps ++ [y]) = Pm s.Ps ++ [(.string y.dom.data.toList, .pointer (some ⟨y.blk, 0, none⟩))] := by simp [Pm]
    show MapAt w' Try.prog 9 s.bp (s.Ps ++ [y]).length (Pm (s.Ps ++ [y]))
    rw [e, List.length_append]
    exact hm
  · rcases List.mem_append.1 hz with hz | hz
    · obtain ⟨c1, c2, c3⟩ := h.cols.prs z hz
      obtain ⟨g1, g2, g3⟩ := h.prs z hz
      exact ⟨hk.keep g1 (hne _ _ c1 (by simp [cPeer, cPeers])), hk.keep g2 (hne _ _ c2 (by simp [cWin, cPeers])), hk.keep g3 (hne _ _ c3 (by simp [cBuck, cPeers]))⟩
    · obtain rfl := List.mem_singleton.1 hz
      exact ⟨b1, b2, b3⟩
  · rcases List.mem_append.1 hz with hz | hz
    · exact h.pok z hz
    · obtain rfl := List.mem_singleton.1 hz
      exact ⟨hok.1, hok.2.1, hok.2.2.1, hok.2.2.2.1, hok.2.2.2.2, hd⟩

/-- what it turns to by asking for a domain -/
def Pext (s : Sd) (n : Int) (y : Pe) (Ps' : List Pe) : Prop := y ∈ Ps' ∧ (Ps' = s.Ps ∨ (Ps' = s.Ps ++ [y] ∧ (∀ z ∈ s.Ps, z.dom ≠ y.dom) ∧ y.now = 1 ∧ y.busy = 0 ∧ y.l = V s.c.burst ∧ y.t = C n))
/-- its colours are as they were, but for new blocks -/
structure Cext (s : Sd) (w : World) (col' : Nat → Option (Nat × (Int × Int) × ByteArray)) : Prop where
  old : ∀ k, (s.col k).isSome → col' k = s.col k
  new : ∀ k, (col' k).isSome → (s.col k).isSome ∨ w.heap.size ≤ k
theorem Cext.refl (s : Sd) (w : World) : Cext s w s.col := ⟨fun _ _ => rfl, fun _ e => Or.inl e⟩
def Speer (p N : Nat) (s : Sd) (d : ByteArray) (n : Int) (w : World) (e : Ending) (w' : World) : Prop :=
  ∃ y Ps' col', e = .returned (.pointer (some ⟨y.blk, 0, none⟩)) ∧ y.dom = d ∧ Pext s n y Ps' ∧ Cext s w col' ∧ SIn w' p { s with Ps := Ps', col := col' } N ∧ Kp (· = s.bp) w w'
theorem speer_old (p N : Nat) (s : Sd) (y : Pe) (n : Int) (w : World) (h : SIn w p s N) (hy : y ∈ s.Ps) :
    Calls Try.prog 53 #[.pointer (some ⟨p, 0, none⟩), .string y.dom, .int .i64 n] w (Speer p N s y.dom n w) := by
  have H := Lib.hid h
  have c14 : w.cell? ⟨p, 13, none⟩ = some (.map (some s.bp)) := (cell_of h.head 13).trans rfl
  have hsz := h.dok _ (h.pok y hy).2.2.2.2.2
  have hin : ((Lit.string y.dom.data.toList), Value.pointer (some ⟨y.blk, 0, none⟩)) ∈ Pm s.Ps := List.mem_map.2 ⟨y, hy, rfl⟩
  have HIN := Lib.hid hin; have HY := Lib.hid hy
  clear h hin hy
  go_enter Try.func53, Try.ntmps53
  go_wp2_with (at_lookup; refine wpList_look _ rfl _ _ 89 rfl 9 106 str_law Try.underlying89 (pzero _) _ _ _ rfl H.out.prm _ _ rfl (str_key hsz) _ HIN.out ?_)
  go_ret
  exact ⟨y, s.Ps, s.col, rfl, rfl, ⟨HY.out, Or.inl rfl⟩, Cext.refl _ _, H.out, Kp.refl _ _⟩
theorem speer_new (p N : Nat) (s : Sd) (d : ByteArray) (n : Int) (w : World) (h : SIn w p s N) (hd : d ∈ s.D) (hn : ∀ z ∈ s.Ps, z.dom ≠ d) (hps : s.Ps.length ≤ 1000000) :
    Calls Try.prog 53 #[.pointer (some ⟨p, 0, none⟩), .string d, .int .i64 n] w (Speer p N s d n w) := by
  have H := Lib.hid h
  have c3 : w.cell? ⟨p, 3, none⟩ = some (.int .i64 s.c.win) := (cell_of h.head 3).trans rfl
  have c4 : w.cell? ⟨p, 4, none⟩ = some (.int .i64 s.c.rate) := (cell_of h.head 4).trans rfl
  have c5 : w.cell? ⟨p, 5, none⟩ = some (.int .i64 s.c.burst) := (cell_of h.head 5).trans rfl
  have c14 : w.cell? ⟨p, 13, none⟩ = some (.map (some s.bp)) := (cell_of h.head 13).trans rfl
  have hsz := h.dok _ hd
  have lp := lt_of_block h.head
  have hmiss : ∀ q ∈ Pm s.Ps, q.1 ≠ .string d.data.toList := fun q hq => by
    obtain ⟨z, hz, rfl⟩ := List.mem_map.1 hq
    exact dom_ne (hn z hz)
  have HMISS := Lib.hid hmiss; have HD := Lib.hid hd; have HN := Lib.hid hn
  clear h hmiss hd hn
  go_enter Try.func53, Try.ntmps53
  go_wp2_with (at_lookup; refine wpList_miss _ rfl _ _ 89 rfl 9 106 str_law Try.underlying89 (pzero _) _ _ _ rfl H.out.prm _ _ rfl (str_key hsz) HMISS.out ?_)
  go_region_held3 (fun w' => w'.cell? ⟨p, 3, none⟩ = some (.int .i64 s.c.win) ∧ w'.cell? ⟨p, 4, none⟩ = some (.int .i64 s.c.rate) ∧ w'.cell? ⟨p, 5, none⟩ = some (.int .i64 s.c.burst)) (first | exact ⟨c3, c4, c5⟩ | exact ⟨(hkb.cell 3 lp (fun h => h)).trans c3, (hkb.cell 4 lp (fun h => h)).trans c4, (hkb.cell 5 lp (fun h => h)).trans c5⟩ | exact ⟨(hka.cell 3 lp (fun h => h)).trans c3, (hka.cell 4 lp (fun h => h)).trans c4, (hka.cell 5 lp (fun h => h)).trans c5⟩ | exact ⟨((hka.alloc _).cell 3 lp (fun h => h)).trans c3, ((hka.alloc _).cell 4 lp (fun h => h)).trans c4, ((hka.alloc _).cell 5 lp (fun h => h)).trans c5⟩ | exact ⟨((hkb.alloc _).cell 3 lp (fun h => h)).trans c3, ((hkb.alloc _).cell 4 lp (fun h => h)).trans c4, ((hkb.alloc _).cell 5 lp (fun h => h)).trans c5⟩)
    (first | (go_at_call 74; refine (wnew_any _ _).mono ?_; rintro e wa ⟨wb, rfl, hwb, hwc, hka0⟩; have hka := (show Kp (fun _ => False) w _ from by first | exact hkb | exact (Kp.refl _ _).drew).trans hka0) | (go_at_call 68; refine (bnew_any _ _ _ _).mono ?_; rintro e wb' ⟨tb, rfl, htb, htc, hkb0⟩; have hkb := (show Kp (fun _ => False) w _ from by first | exact hka | exact (Kp.refl _ _).drew).trans hkb0))
  have HW := Lib.hid ((hkb0.keep hwc (fun h => h)))
  have HT := Lib.hid (htc)
  have HWT := Lib.hid (show wb ≠ tb from (Nat.ne_of_lt (Nat.lt_of_lt_of_le (lt_of_block hwc) htb)))
  have HLW := Lib.hid (show w.heap.size ≤ wb from hwb)
  have HLT := Lib.hid (show w.heap.size ≤ tb from (Nat.le_trans hka.size htb))
  obtain ⟨wz, hz⟩ : ∃ wz, wz = (wb').alloc (.cells #[.pointer (some ⟨wb, 0, none⟩), .pointer (some ⟨tb, 0, none⟩)] 111) := ⟨_, rfl⟩
  have hkz : Kp (fun _ => False) w wz := by rw [hz]; exact (hkb).alloc _
  have hbz : wz.heap[(wb').heap.size]? = some (.cells #[.pointer (some ⟨wb, 0, none⟩), .pointer (some ⟨tb, 0, none⟩)] 111 (0, 0)) := by rw [hz]; exact heap_new _
  have hwz := (show Kp (fun _ => False) (wb') wz by rw [hz]; exact (by repeat (first | exact Kp.refl _ _ | apply Kp.drew | apply Kp.drewN | refine Kp.setCell ?_ _ _ (Or.inl rfl) | apply Kp.alloc)))
  have HWZ := Lib.hid (hwz.keep HW.out (fun h => h))
  have HTZ := Lib.hid (hwz.keep HT.out (fun h => h))
  have hlz := lt_of_block HW.out
  have hlt := lt_of_block HT.out
  have hsz2 := (hkb).size
  obtain ⟨bz, hbe⟩ : ∃ bz, bz = (wb').heap.size := ⟨_, rfl⟩
  rw [← hz]
  rw [← hbe] at hbz hlz hlt hsz2 ⊢
  have HKZ := Lib.hid hkz; have HBZ := Lib.hid hbz
  have c14z := (hkz.cell 13 lp (fun h => h)).trans c14
  clear hkz hbz hz hwz hbe c3 c4 c5 c14
  clear hka hkb hka0 hkb0 hwb htb hwc htc
  go_wp2_with (at_mapUpdate; refine wpList_put_new _ rfl _ _ _ 89 rfl 9 106 str_law Try.underlying89 _ _ _ rfl (H.out.prm.keep HKZ.out (fun h => h)) (by unfold maxLen; omega) _ _ _ rfl rfl (str_key hsz) HMISS.out ?_; intro w9 hm9 hk9)
  have HM9 := Lib.hid hm9; have HK9 := Lib.hid hk9; clear hm9 hk9
  go_wp2_with fail
  go_ret
  have hbp := H.out.lt s.bp (by rw [H.out.cols.prm]; rfl)
  have hk : Kp (· = s.bp) w w9 := (HKZ.out.mono (fun _ _ h => h.elim)).trans_new HK9.out (fun _ _ h => h)
  refine ⟨⟨bz, wb, tb, d, 1, 0, V s.c.burst, C n⟩, s.Ps ++ [⟨bz, wb, tb, d, 1, 0, V s.c.burst, C n⟩], colP s ⟨bz, wb, tb, d, 1, 0, V s.c.burst, C n⟩, rfl, rfl, ⟨by simp, Or.inr ⟨rfl, HN.out, rfl, rfl, rfl, rfl⟩⟩, ⟨fun k e => ?_, fun k e => ?_⟩, ?_, hk⟩
  · have := H.out.lt k e
    have h1 := HLW.out; have h2 := HLT.out
    simp [colP, show k ≠ bz by omega, show k ≠ wb by omega, show k ≠ tb by omega]
  · have h1 := HLW.out; have h2 := HLT.out
    simp only [colP] at e
    split at e
    · exact Or.inr (by omega)
    split at e
    · exact Or.inr (by omega)
    split at e
    · exact Or.inr (by omega)
    exact Or.inl e
  · refine H.out.addPeer (y := ⟨bz, wb, tb, d, 1, 0, V s.c.burst, C n⟩) hk HD.out HN.out hsz2 HLW.out HLT.out (by simp only; omega) (by simp only; omega) HWT.out HM9.out (HK9.out.keep HBZ.out (show ¬ bz = s.bp by omega)) (HK9.out.keep HWZ.out (show ¬ wb = s.bp by have := HLW.out; omega)) (HK9.out.keep HTZ.out (show ¬ tb = s.bp by have := HLT.out; omega)) ⟨⟨V8_hi _, Int.le_refl 1, V8_lo _, Int.le_refl 0, (by decide : (0 : Int) ≤ 1)⟩, ?_, Int.le_refl _, C_lo _, C_hi _⟩
    have := V_lo s.c.burst; simp only; omega
end Go.Proofs.Ytbiahndpfbmoeaa
