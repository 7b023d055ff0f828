/- What package due's Set does with an alarm that is not there. Condition: there are no more alarms than fit into memory. -/
import Derived.Test.YtjipppejcpokkaaDue6
namespace Go.Proofs.Ytjipppejcpokkaa
open Go.RowKit Go.Maps

/-- the alarm was not there -/
theorem set_close_new {w w9 w2 : World} {p b N : Nat} {v : Value} {L : List Al} {S : List (Int × Int)} {F : Nat → Prop} {id t : Int} (h : DuIn w p v (.map (some b)) L N) (hp : (Kl L).Perm S) (hs : S.Pairwise LtP) (hF : ∀ k, F k ↔ Ft p v (.map (some b)) L k) (hid : ∀ x ∈ L, x.id ≠ id) (hwf : (Lit.int .i64 id).wf = true) (ht : t ≤ 1099511627776)
    (hm9 : MapAt w9 Try.prog 3 b (L.length + 1) (Me L ++ [(.int .i64 id, .pointer (some ⟨w.heap.size, 0, none⟩))])) (hk9 : Kp (fun k => k = b) w w9) (hr : Laid p v (.map (some b)) L ⟨w.heap.size, id, t⟩ w9 (.returned (.tuple #[])) w2) : Dset p (Ins (id, t) (Del id S)) (N + 1) F w (.returned (.tuple #[])) w2 := by
  obtain ⟨_, ⟨v', L', hp', ha', hh', hsn⟩, hk'⟩ := hr
  have hl : (L ++ [(⟨w.heap.size, id, t⟩ : Al)]).length = L.length + 1 := by simp
  have hl' := hp'.length_eq
  rw [hl] at hl'
  rcases h.map with ⟨e, _⟩ | ⟨b', e, hm, hbp, hbb⟩
  · cases e
  cases e
  have hb := hm.lt
  have hmem : ∀ a ∈ L', a = ⟨w.heap.size, id, t⟩ ∨ a ∈ L := fun a ha => by
    rcases List.mem_append.1 (hp'.mem_iff.1 ha) with e | e
    · exact Or.inr e
    · rw [List.mem_singleton] at e; exact Or.inl e
  have hS : ∀ y ∈ S, y.1 ≠ id := fun y hy => by
    obtain ⟨a, ha, rfl⟩ := kl_mem (hp.mem_iff.2 hy)
    exact hid a ha
  have hD : Del id S = S := Del_none hS
  have hw := hk9.size
  have hnew : New w F (Ft p v' (.map (some b)) L') := by
    intro k hk
    rw [hF]
    rcases hk with hk | (hk | ⟨a, ha, e⟩) | hk
    · exact Or.inl (Or.inl hk)
    · rcases hsn with e | e
      · exact Or.inl (Or.inr (Or.inl (Or.inl (e.symm.trans hk))))
      · exact Or.inr (Nat.le_trans hw (e k hk))
    · rcases hmem a ha with rfl | ha
      · exact Or.inr (by rw [← e]; exact Nat.le_refl _)
      · exact Or.inl (Or.inr (Or.inl (Or.inr ⟨a, ha, e⟩)))
    · exact Or.inl (Or.inr (Or.inr hk))
  have hbnew : ¬ Bs v' L' b := fun hk => by
    rcases hk with hk | ⟨a, ha, e⟩
    · rcases hsn with e | e
      · exact hbb (Or.inl (e.symm.trans hk))
      · have := e b hk; omega
    · rcases hmem a ha with rfl | ha
      · simp only at e; omega
      · exact hbb (Or.inr ⟨a, ha, e⟩)
  have hbk : ¬ (b = p ∨ Bs v L b ∨ b = w.heap.size) := by
    rintro (e | e | e)
    · exact hbp e
    · exact hbb e
    · omega
  refine ⟨rfl, ⟨Ft p v' (.map (some b)) L', ⟨v', .map (some b), L', ⟨ha', ?_, ?_, fun a ha => ?_, fun a ha => ?_, ?_⟩, ?_, ?_, fun k => Iff.rfl⟩, hnew⟩, ?_⟩
  · rw [hl']; exact hh'
  · have := h.len; omega
  · rcases hmem a ha with rfl | e
    · exact hwf
    · exact h.wf a e
  · rcases hmem a ha with rfl | e
    · exact ht
    · exact h.lim a e
  · refine Or.inr ⟨b, rfl, ?_, hbp, hbnew⟩
    have h1 := (hm9.keep hk' hbk).perm (M' := Me L') (by
      have : (Me (L ++ [(⟨w.heap.size, id, t⟩ : Al)])).Perm (Me L') := (hp'.symm.map _)
      simp only [Me, List.map_append] at this ⊢; exact this)
    rw [hl']
    exact h1
  · have e1 : (Kl L').Perm (Kl (L ++ [(⟨w.heap.size, id, t⟩ : Al)])) := hp'.map _
    have e2 : (Kl (L ++ [(⟨w.heap.size, id, t⟩ : Al)])).Perm ((id, t) :: Kl L) := by
      have := List.perm_append_singleton (id, t) (Kl L)
      simp only [Kl, List.map_append] at this ⊢; exact this
    rw [hD]
    exact e1.trans (e2.trans ((List.Perm.cons _ hp).trans (Ins_perm _ _).symm))
  · rw [hD]; exact Ins_sorted hs hS
  · refine (hk9.mono (fun k _ e => ?_)).trans_new hk' (fun k hk e => ?_)
    · rw [hF]; exact Or.inr (Or.inr (by rw [e]))
    · rw [hF]
      rcases e with e | e | e
      · exact Or.inl e
      · exact Or.inr (Or.inl e)
      · simp only at e; omega
theorem dset_new (p N b : Nat) (v : Value) (L : List Al) (id a : Int) (w : World) (S : List (Int × Int)) (F : Nat → Prop) (hp : (Kl L).Perm S) (hs : S.Pairwise LtP) (hF : ∀ k, F k ↔ Ft p v (.map (some b)) L k) (hid : ∀ x ∈ L, x.id ≠ id) (hwf : (Lit.int .i64 id).wf = true) (hN : N ≤ 1000000) (h : DuIn w p v (.map (some b)) L N) :
    Calls Try.prog 7 #[.pointer (some ⟨p, 0, none⟩), .int .i64 id, .int .i64 a] w (Dset p (Ins (id, SatAid.C a) (Del id S)) (N + 1) F w) := by
  have hL := h.len
  rcases h.map with ⟨e, _⟩ | ⟨b', e, hm, hbp, hbb⟩
  · cases e
  cases e
  have c1 := cell_of h.al.head 1
  simp only [List.getElem?_toArray, List.getElem?_cons_zero, List.getElem?_cons_succ] at c1
  have hq := fun (w : World) (r : Option Nat) => run_eql_map_nil (P := Try.prog) w 26 3 51 r Try.underlying26
  have HM := Lib.hid hm; have HID := Lib.hid (me_not hid); have HI := Lib.hid hid; have HP := Lib.hid hp; have HSS := Lib.hid hs; have HF := Lib.hid hF
  clear hm hid hp hs hF
  obtain ⟨t, ht⟩ : ∃ t, t = SatAid.C a := ⟨_, rfl⟩
  have HT := Lib.hid ht; clear ht
  have HH := Lib.hid h; clear h
  go_enter Try.func7, Try.ntmps7
  go_wp2_with (at_lookup; refine wpList_miss _ rfl _ _ 26 rfl 3 51 due_keyed Try.underlying26 (due_zero _) b L.length (Me L) rfl HM.out _ _ rfl (keyOf_int_mk Try.underlying3 hwf) HID.out ?_)
  have c1a := fun (o : Obj) => (World.cell?_alloc_past (w := w) o p 1 (lt_of_block HH.out.al.head)).trans c1
  go_region_with (first | (go_at_call 16; refine (clamp_any _ _).mono ?_; rintro e w1 ⟨rfl, rfl⟩) | (obtain ⟨w9, hr9, hm9, hk9⟩ := MapAt.put_run (w := World.drew (World.alloc w (.cells #[.int .i64 id, .int .i64 (SatAid.C a), .int .i64 0] 54))) (val := .pointer (some ⟨w.heap.size, 0, none⟩)) (HM.out.keep (S := fun _ => False) (by repeat (first | exact Kp.refl _ _ | apply Kp.drew | apply Kp.drewN | refine Kp.setCell ?_ _ _ (Or.inl rfl) | apply Kp.alloc)) (fun h => h)) due_keyed Try.underlying26 (by unfold maxLen; omega) (keyOf_int_mk Try.underlying3 hwf) HID.out; rw [hr9]; go_simp))
  all_goals
    have hk0 : Kp (fun k => k = b) w w9 := (((Kp.refl _ w).alloc _).drew).trans hk9
    have hbn : w.heap.size ≠ b := by have := HM.out.lt; omega
    have hbk := HH.out.map
    have e9 : w9.heap[w.heap.size]? = some (.cells #[.int .i64 id, .int .i64 (SatAid.C a), .int .i64 0] 54 (0, 0)) := hk9.keep (heap_new (w := w) _) hbn
    have hbbv : ∀ k, Bs v L k → ¬ k = b := fun k hk e => hbb (e ▸ hk)
    have a9 := HH.out.al.keep hk0 (fun e => hbp e.symm) hbbv
    have c9 := cell_of a9.head 1
    simp only [List.getElem?_toArray, List.getElem?_cons_zero, List.getElem?_cons_succ] at c9
    have lk9 := (MapAt.look (w := w9.drew) hm9 due_keyed Try.underlying26 (due_zero _) (keyOf_int_mk Try.underlying3 hwf) (List.mem_append_right _ (List.mem_singleton_self _))).2
    have hbs : ∀ x ∈ L, x.blk ≠ w.heap.size := fun x hx e => by
      have := HH.out.lt (k := x.blk) (Or.inr (Or.inl (Or.inr ⟨x, hx, rfl⟩))); omega
    have hv9 : v.ownBlock ≠ some w.heap.size := fun e => by
      have := HH.out.al.row.lt e; omega
    have hp9 : w.heap.size ≠ p := by have := lt_of_block HH.out.al.head; omega
    have HM9 := Lib.hid hm9; have HK0 := Lib.hid hk0; have HE9 := Lib.hid e9; have HA9 := Lib.hid (a9.drewN 1); have HBS := Lib.hid hbs; have HV9 := Lib.hid hv9; have HP9 := Lib.hid hp9
    clear hm9 hk9 hk0 e9 hbbv a9 hbs hv9 hp9 hbk c1a c1 hr9
    go_wp2_with fail
    refine still_tail 11 (by kernel_rfl) (by kernel_rfl) ?_
    simp only [List.take_succ_cons, List.take_zero, List.drop_succ_cons, List.drop_zero]
    repeat still_step
    refine wpStill_nil ?_
    go_wp2_with fail
    refine (hpush_any p v _ L ⟨w.heap.size, id, SatAid.C a⟩ 0 _ HA9.out HE9.out HP9.out HV9.out HBS.out (by omega) HH.out.hp).mono ?_; intro e w3 hr
    have HR := Lib.hid (show Dset p (Ins (id, SatAid.C a) (Del id S)) (N + 1) F w (.returned (.tuple #[])) w3 from
      set_close_new HH.out HP.out HSS.out HF.out HI.out hwf (SatAid.C_hi a) HM9.out HK0.out (by
        obtain ⟨_, h2, h3⟩ := hr
        exact ⟨rfl, h2, ((Kp.refl _ w9).drewN 1).trans h3⟩))
    obtain ⟨rfl, _⟩ := hr
    go_wp2_with fail
    (first | go_end0 | refine bodyPost_ret (results_none rfl _ _ _) rfl ?_)
    exact (fun h => h) HR.out

theorem dset_nil {w0 w w' : World} {p N : Nat} {v : Value} {S : List (Int × Int)} {F : Nat → Prop} {e : Ending} (hF : ∀ k, F k ↔ Ft p v (.map none) [] k) (hk : Kp F w0 w) (h : Dset p S N (Ft p v (.map (some w0.heap.size)) []) w e w') : Dset p S N F w0 e w' := by
  obtain ⟨h1, ⟨F', h2, h3⟩, h4⟩ := h
  have hsz := hk.size
  have hi : ∀ k, Ft p v (.map (some w0.heap.size)) [] k → F k ∨ k = w0.heap.size := fun k e => by
    rw [hF]
    rcases e with e | e | e
    · exact Or.inl (Or.inl e)
    · exact Or.inl (Or.inr (Or.inl e))
    · cases e; exact Or.inr rfl
  refine ⟨h1, ⟨F', h2, fun k e => ?_⟩, hk.trans_new h4 (fun k hk' e => ?_)⟩
  · rcases h3 k e with e | e
    · rcases hi k e with e | e
      · exact Or.inl e
      · exact Or.inr (by omega)
    · exact Or.inr (by omega)
  · rcases hi k e with e | e
    · exact e
    · omega
theorem nil_duin {w0 w : World} {p N : Nat} {v : Value} (h : DuIn w0 p v (.map none) [] N) (hw : ((w0.setCell ⟨p, 1, none⟩ (.map (some w0.heap.size))).alloc (.map #[] 0)) = w) :
    DuIn w p v (.map (some w0.heap.size)) [] N ∧ Kp (· = p) w0 w := by
  subst hw
  have hp := lt_of_block h.al.head
  have hk1 : Kp (· = p) w0 (w0.setCell ⟨p, 1, none⟩ (.map (some w0.heap.size))) := (by repeat (first | exact Kp.refl _ _ | apply Kp.drew | apply Kp.drewN | refine Kp.setCell ?_ _ _ (Or.inl rfl) | apply Kp.alloc))
  have hk0 := (Kp.refl (fun _ => False) (w0.setCell ⟨p, 1, none⟩ (.map (some w0.heap.size)))).alloc (.map #[] 0)
  have hne : w0.heap.size ≠ p := by omega
  have hv : ∀ k, v.ownBlock = some k → ¬ k = p := fun k e e' => h.al.apart (by rw [e, e'])
  have hm := MapAt.made (w0.setCell ⟨p, 1, none⟩ (.map (some w0.heap.size))) Try.prog 3
  have hsz : (w0.setCell ⟨p, 1, none⟩ (.map (some w0.heap.size))).heap.size = w0.heap.size := by simp [World.setCell]
  rw [hsz] at hm
  refine ⟨⟨⟨hk0.keep (heap_set h.al.head _) (fun h => h), (h.al.row.keep hk1 hv).keep hk0 (fun _ _ h => h), h.al.apart, fun i hi => (by cases hi), fun a ha => (by cases ha), fun i j hi => (by cases hi)⟩, h.hp, h.len, h.wf, h.lim, Or.inr ⟨_, rfl, hm, hne, fun e => ?_⟩⟩, hk1.trans (hk0.mono (fun _ _ h => h.elim))⟩
  rcases e with e | ⟨a, ha, _⟩
  · have := h.al.row.lt e; omega
  · cases ha
theorem duin_map {w : World} {p N b : Nat} {v : Value} {L : List Al} (h : DuIn w p v (.map (some b)) L N) : MapAt w Try.prog 3 b L.length (Me L) ∧ b ≠ p ∧ ¬ Bs v L b := by
  rcases h.map with ⟨e, _⟩ | ⟨b', e, h1, h2, h3⟩
  · cases e
  · cases e; exact ⟨h1, h2, h3⟩
set_option maxHeartbeats 1600000 in
theorem dset_first (p N : Nat) (v : Value) (id a : Int) (w0 : World) (F0 : Nat → Prop) (h : DuIn w0 p v (.map none) [] N) (hF0 : ∀ k, F0 k ↔ Ft p v (.map none) [] k) (hwf : (Lit.int .i64 id).wf = true) (hN : N ≤ 1000000) :
    Calls Try.prog 7 #[.pointer (some ⟨p, 0, none⟩), .int .i64 id, .int .i64 a] w0 (Dset p (Ins (id, SatAid.C a) (Del id [])) (N + 1) F0 w0) := by
  have hL := h.len
  have c1 := cell_of h.al.head 1
  simp only [List.getElem?_toArray, List.getElem?_cons_zero, List.getElem?_cons_succ] at c1
  have f1 := frozen_of h.al.head 1
  have hlt := lt_of_block h.al.head
  have hq := fun (w : World) (r : Option Nat) => run_eql_map_nil (P := Try.prog) w 26 3 51 r Try.underlying26
  have hmm := @run_makeMap Try.prog
  have H0 := Lib.hid h; have HF0 := Lib.hid hF0; clear h hF0
  go_enter Try.func7, Try.ntmps7
  go_wp2_with (at_lookup; (generalize hw : World.alloc (World.setCell _ _ _) _ = w; have hd := nil_duin H0.out hw; have FIN0 := Lib.hid (fun (e : Ending) (w' : World) (h : Dset p (Ins (id, SatAid.C a) (Del id [])) (N + 1) (Ft p v (.map (some w0.heap.size)) []) w e w') => dset_nil HF0.out (hd.2.mono (fun k _ e => (HF0.out k).2 (Or.inl e))) h); have hd1 := hd.1; clear hd hw c1 f1; generalize hb : w0.heap.size = b at hd1 FIN0 ⊢; clear hb; obtain ⟨F, hF⟩ : ∃ F, F = Ft p v (.map (some b)) [] := ⟨_, rfl⟩; rw [← hF] at FIN0; have HF := Lib.hid (show ∀ k, F k ↔ Ft p v (.map (some b)) [] k from fun k => by rw [hF]); clear hF; have hm := duin_map hd1; have HH := Lib.hid hd1; clear hd1; have HM := Lib.hid hm.1; obtain ⟨_, hbp, hbb⟩ := hm; refine wpList_miss _ rfl _ _ 26 rfl 3 51 due_keyed Try.underlying26 (due_zero _) b 0 [] rfl HM.out _ _ rfl (keyOf_int_mk Try.underlying3 hwf) (fun x hx => by cases hx) ?_))
  obtain ⟨L, hLe⟩ : ∃ L : List Al, L = [] := ⟨_, rfl⟩
  obtain ⟨S, hSe⟩ : ∃ S : List (Int × Int), S = [] := ⟨_, rfl⟩
  have HI := Lib.hid (show ∀ x ∈ L, x.id ≠ id from fun x hx => by rw [hLe] at hx; cases hx)
  have HP := Lib.hid (show (Kl L).Perm S by rw [hLe, hSe]; exact List.Perm.refl _)
  have HSS := Lib.hid (show S.Pairwise LtP by rw [hSe]; exact List.Pairwise.nil)
  have HID := Lib.hid (me_not HI.out)
  have FIN1 := Lib.hid (show ∀ e w', Dset p (Ins (id, SatAid.C a) (Del id S)) (N + 1) F w e w' → Dset p (Ins (id, SatAid.C a) (Del id [])) (N + 1) F0 w0 e w' from fun e w' h => FIN0.out e w' (by rw [hSe] at h; exact h))
  rw [← hLe] at HH HF hbb hL
  have HM2 := Lib.hid (show MapAt w Try.prog 3 b L.length (Me L) by rw [hLe]; exact HM.out)
  clear HM
  have HM := HM2
  clear HM2 hLe hSe H0 HF0
  have c1 := cell_of HH.out.al.head 1
  simp only [List.getElem?_toArray, List.getElem?_cons_zero, List.getElem?_cons_succ] at c1
  have c1a := fun (o : Obj) => (World.cell?_alloc_past (w := w) o p 1 (lt_of_block HH.out.al.head)).trans c1
  go_region_with (first | (go_at_call 16; refine (clamp_any _ _).mono ?_; rintro e w1 ⟨rfl, rfl⟩) | (obtain ⟨w9, hr9, hm9, hk9⟩ := MapAt.put_run (w := World.drew (World.alloc w (.cells #[.int .i64 id, .int .i64 (SatAid.C a), .int .i64 0] 54))) (val := .pointer (some ⟨w.heap.size, 0, none⟩)) (HM.out.keep (S := fun _ => False) (by repeat (first | exact Kp.refl _ _ | apply Kp.drew | apply Kp.drewN | refine Kp.setCell ?_ _ _ (Or.inl rfl) | apply Kp.alloc)) (fun h => h)) due_keyed Try.underlying26 (by unfold maxLen; omega) (keyOf_int_mk Try.underlying3 hwf) HID.out; rw [hr9]; go_simp))
  all_goals
    have hk0 : Kp (fun k => k = b) w w9 := (((Kp.refl _ w).alloc _).drew).trans hk9
    have hbn : w.heap.size ≠ b := by have := HM.out.lt; omega
    have hbk := HH.out.map
    have e9 : w9.heap[w.heap.size]? = some (.cells #[.int .i64 id, .int .i64 (SatAid.C a), .int .i64 0] 54 (0, 0)) := hk9.keep (heap_new (w := w) _) hbn
    have hbbv : ∀ k, Bs v L k → ¬ k = b := fun k hk e => hbb (e ▸ hk)
    have a9 := HH.out.al.keep hk0 (fun e => hbp e.symm) hbbv
    have c9 := cell_of a9.head 1
    simp only [List.getElem?_toArray, List.getElem?_cons_zero, List.getElem?_cons_succ] at c9
    have lk9 := (MapAt.look (w := w9.drew) hm9 due_keyed Try.underlying26 (due_zero _) (keyOf_int_mk Try.underlying3 hwf) (List.mem_append_right _ (List.mem_singleton_self _))).2
    have hbs : ∀ x ∈ L, x.blk ≠ w.heap.size := fun x hx e => by
      have := HH.out.lt (k := x.blk) (Or.inr (Or.inl (Or.inr ⟨x, hx, rfl⟩))); omega
    have hv9 : v.ownBlock ≠ some w.heap.size := fun e => by
      have := HH.out.al.row.lt e; omega
    have hp9 : w.heap.size ≠ p := by have := lt_of_block HH.out.al.head; omega
    have HM9 := Lib.hid hm9; have HK0 := Lib.hid hk0; have HE9 := Lib.hid e9; have HA9 := Lib.hid (a9.drewN 1); have HBS := Lib.hid hbs; have HV9 := Lib.hid hv9; have HP9 := Lib.hid hp9
    clear hm9 hk9 hk0 e9 hbbv a9 hbs hv9 hp9 hbk c1a c1 hr9
    go_wp2_with fail
    refine still_tail 11 (by kernel_rfl) (by kernel_rfl) ?_
    simp only [List.take_succ_cons, List.take_zero, List.drop_succ_cons, List.drop_zero]
    repeat still_step
    refine wpStill_nil ?_
    go_wp2_with fail
    refine (hpush_any p v _ L ⟨w.heap.size, id, SatAid.C a⟩ 0 _ HA9.out HE9.out HP9.out HV9.out HBS.out (by omega) HH.out.hp).mono ?_; intro e w3 hr
    have HR := Lib.hid (show Dset p (Ins (id, SatAid.C a) (Del id S)) (N + 1) F w (.returned (.tuple #[])) w3 from
      set_close_new HH.out HP.out HSS.out HF.out HI.out hwf (SatAid.C_hi a) HM9.out HK0.out (by
        obtain ⟨_, h2, h3⟩ := hr
        exact ⟨rfl, h2, ((Kp.refl _ w9).drewN 1).trans h3⟩))
    obtain ⟨rfl, _⟩ := hr
    go_wp2_with fail
    (first | go_end0 | refine bodyPost_ret (results_none rfl _ _ _) rfl ?_)
    exact (FIN1.out _ _) HR.out

theorem dset_any (p N : Nat) (S : List (Int × Int)) (F : Nat → Prop) (id a : Int) (w : World) (h : DuAt w p S N F) (hwf : (Lit.int .i64 id).wf = true) (hN : N ≤ 1000000) :
    Calls Try.prog 7 #[.pointer (some ⟨p, 0, none⟩), .int .i64 id, .int .i64 a] w (Dset p (Ins (id, SatAid.C a) (Del id S)) (N + 1) F w) := by
  obtain ⟨v, m, L, h1, h2, h3, h4⟩ := h
  rcases h1.map with ⟨rfl, rfl⟩ | ⟨b, rfl, hm, _⟩
  · have : S = [] := List.eq_nil_of_length_eq_zero (by rw [← h2.length_eq]; rfl)
    subst this
    exact dset_first p N v id a w F h1 h4 hwf hN
  · by_cases hx : ∃ x ∈ L, x.id = id
    · obtain ⟨x, hx, hid⟩ := hx
      obtain ⟨i, hi, rfl⟩ := mem_G hx
      exact dset_old p i N v _ L S F id a w h1 h2 h3 h4 hi hid hN
    · exact dset_new p N b v L id a w S F h2 h3 h4 (fun x hx' e => hx ⟨x, hx', e⟩) hwf hN h1
theorem dset_none (id a : Int) (w : World) : Calls Try.prog 7 #[.pointer none, .int .i64 id, .int .i64 a] w fun e w' => e = .returned (.tuple #[]) ∧ w = w' := by
  go_enter Try.func7, Try.ntmps7
  go_wp2
  (first | go_end0 | refine bodyPost_ret (results_none rfl _ _ _) rfl ?_)
  exact ⟨rfl, rfl⟩
end Go.Proofs.Ytjipppejcpokkaa
