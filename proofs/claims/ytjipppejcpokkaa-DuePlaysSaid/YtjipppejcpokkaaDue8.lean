/- What package due's Drop and First do. Condition: there are no more alarms than fit into memory. -/
import Derived.Test.YtjipppejcpokkaaDue7
namespace Go.Proofs.Ytjipppejcpokkaa
open Go.RowKit Go.Maps

theorem ddrop_none (id : Int) (w : World) : Calls Try.prog 9 #[.pointer none, .int .i64 id] w fun e w' => e = .returned (.bool false) ∧ w = w' := by
  go_enter Try.func9, Try.ntmps9
  go_wp2
  go_ret
  exact ⟨rfl, rfl⟩
def Ddrop (p : Nat) (S : List (Int × Int)) (N : Nat) (F : Nat → Prop) (w : World) (e : Ending) (w' : World) : Prop :=
  e = .returned (.bool true) ∧ (∃ F', DuAt w' p S N F' ∧ New w F F') ∧ Kp F w w'
theorem drop_close {w w1 w2 : World} {p i b N : Nat} {v : Value} {L : List Al} {S : List (Int × Int)} {F : Nat → Prop} {e : Ending} (h : DuIn w p v (.map (some b)) L N) (hp : (Kl L).Perm S) (hs : S.Pairwise LtP) (hF : ∀ k, F k ↔ Ft p v (.map (some b)) L k) (hi : i < L.length)
    (hr : Taken p v (.map (some b)) L i w e w1) (hm2 : MapAt w2 Try.prog 3 b L.length ((Me L).filter fun x => !x.1.sameKey (.int .i64 (G L i).id))) (hk2 : Kp (fun k => k = b) w1 w2) : Ddrop p (Del (G L i).id S) N F w (.returned (.bool true)) w2 := by
  obtain ⟨_, ⟨v', L', hp', ha', hh', hv'⟩, hk'⟩ := hr
  have hd := duin_map h
  have hrp := rest_perm hi
  have hq : L'.Perm (Rest L i) := by
    have h1 : (G L i :: L').Perm L := (List.perm_append_singleton _ _).symm.trans hp'
    exact (h1.trans hrp).cons_inv
  have hmem : ∀ a ∈ L', a ∈ L := fun a ha => hp'.mem_iff.1 (List.mem_append_left _ ha)
  have hl : L'.length + 1 = L.length := by have := hp'.length_eq; simpa using this
  have hbs : ∀ k, Bs v' L' k → Bs v L k := fun k e => by
    rcases e with e | ⟨a, ha, e⟩
    · exact Or.inl (hv'.symm.trans e)
    · exact Or.inr ⟨a, hmem a ha, e⟩
  have hft : ∀ k, Ft p v' (.map (some b)) L' k → F k := fun k e => by
    rw [hF]
    rcases e with e | e | e
    · exact Or.inl e
    · exact Or.inr (Or.inl (hbs k e))
    · exact Or.inr (Or.inr e)
  have a2 := ha'.keep hk2 (fun e => hd.2.1 e.symm) (fun k e e' => hd.2.2 (e' ▸ hbs k e))
  have hids := h.ids hi
  have hmp : ((Me L).filter fun x => !x.1.sameKey (.int .i64 (G L i).id)).Perm (Me L') := by
    have h1 : (Me L).Perm (Me (G L i :: Rest L i)) := hrp.map _
    have h2 := h1.filter (fun x => !x.1.sameKey (.int .i64 (G L i).id))
    have h3 : ((Me (G L i :: Rest L i)).filter fun x => !x.1.sameKey (.int .i64 (G L i).id)) = Me (Rest L i) := by
      show (((Lit.int .i64 (G L i).id, Value.pointer (some ⟨(G L i).blk, 0, none⟩)) :: Me (Rest L i)).filter fun x => !x.1.sameKey (.int .i64 (G L i).id)) = Me (Rest L i)
      rw [List.filter_cons_of_neg (by simp [Lit.sameKey])]
      refine List.filter_eq_self.2 (fun x hx => ?_)
      obtain ⟨a, ha, rfl⟩ := List.mem_map.1 hx
      simp [Lit.sameKey, hids a ha]
    rw [h3] at h2
    exact h2.trans (hq.symm.map _)
  refine ⟨rfl, ⟨Ft p v' (.map (some b)) L', ⟨v', .map (some b), L', ⟨a2, hh', ?_, fun a ha => h.wf a (hmem a ha), fun a ha => h.lim a (hmem a ha), Or.inr ⟨b, rfl, ?_, hd.2.1, fun e => hd.2.2 (hbs b e)⟩⟩, ?_, Del_sorted hs, fun k => Iff.rfl⟩, fun k e => Or.inl (hft k e)⟩, ?_⟩
  · have := h.len; omega
  · have := (hm2.perm hmp).tight
    simpa [Me] using this
  · have e1 : (Kl L').Perm (Kl (Rest L i)) := hq.map _
    exact e1.trans (del_rest hi hp hids)
  · refine (hk'.mono (fun k _ e => ?_)).trans (hk2.mono (fun k _ e => ?_))
    · rw [hF]; rcases e with e | e
      · exact Or.inl e
      · exact Or.inr (Or.inl e)
    · rw [hF]; exact Or.inr (Or.inr (by rw [e]))
theorem ddrop_in (p i b N : Nat) (v : Value) (L : List Al) (S : List (Int × Int)) (F : Nat → Prop) (id : Int) (w : World) (hp : (Kl L).Perm S) (hs : S.Pairwise LtP) (hF : ∀ k, F k ↔ Ft p v (.map (some b)) L k) (hi : i < L.length) (hid : (G L i).id = id) (hN : N ≤ 1000000) (h : DuIn w p v (.map (some b)) L N) :
    Calls Try.prog 9 #[.pointer (some ⟨p, 0, none⟩), .int .i64 id] w (Ddrop p (Del id S) N F w) := by
  have hwf : (Lit.int .i64 id).wf = true := hid ▸ h.wf _ (G_mem hi)
  have hL := h.len
  obtain ⟨hm, hbp, hbb⟩ := duin_map h
  have c1 := cell_of h.al.head 1
  simp only [List.getElem?_toArray, List.getElem?_cons_zero, List.getElem?_cons_succ] at c1
  have hlk := (hm.look due_keyed Try.underlying26 (due_zero w) (keyOf_int_mk Try.underlying3 hwf) (hid ▸ mem_me (G_mem hi))).1
  have e2 := cell_of (h.al.each i hi) 2
  simp only [List.getElem?_toArray, List.getElem?_cons_zero, List.getElem?_cons_succ] at e2
  obtain ⟨bl, hbl⟩ : ∃ bl, bl = (G L i).blk := ⟨_, rfl⟩
  rw [← hbl] at hlk e2
  have HH := Lib.hid h; have HP := Lib.hid hp; have HSS := Lib.hid hs; have HF := Lib.hid hF; have HID := Lib.hid hid; have HM := Lib.hid hm
  clear h hp hs hF hid hbl hm
  go_enter Try.func9, Try.ntmps9
  go_wp2_with fail
  refine still_tail 8 (by kernel_rfl) (by kernel_rfl) ?_
  simp only [List.take_succ_cons, List.take_zero, List.drop_succ_cons, List.drop_zero]
  repeat still_step
  refine wpStill_nil ?_
  go_wp2_with fail
  refine (hremove_any p v _ L i _ (HH.out.al.drewN 1) hi (by omega) HH.out.hp).mono ?_; intro e w3 hr
  have hr' : Taken p v (.map (some b)) L i w e w3 := by
    obtain ⟨h1, h2, h3⟩ := hr
    exact ⟨h1, h2, ((Kp.refl _ w).drewN 1).trans h3⟩
  have HR := Lib.hid hr'
  obtain ⟨⟨x, rfl⟩, ⟨v', L', _, ha', _⟩, hk'⟩ := hr'
  have c3 := cell_of ha'.head 1
  simp only [List.getElem?_toArray, List.getElem?_cons_zero, List.getElem?_cons_succ] at c3
  have HM3 := Lib.hid (HM.out.keep hk' (fun e => by rcases e with e | e; exact hbp e; exact hbb e))
  clear hr ha' hk' hlk c1 e2
  go_wp2_with (at_delete; refine wpList_del_key _ rfl _ _ 26 3 rfl 51 due_keyed Try.underlying26 b L.length (Me L) rfl HM3.out _ _ rfl (keyOf_int_mk Try.underlying3 hwf) ?_; intro w4 hm4 hk4; have HM4 := Lib.hid hm4; have HK4 := Lib.hid hk4; clear hm4 hk4)
  go_ret
  have h4 := HM4.out
  rw [← HID.out] at h4 ⊢
  exact drop_close HH.out HP.out HSS.out HF.out hi HR.out h4 HK4.out
theorem ddrop_miss (p b N : Nat) (v : Value) (L : List Al) (id : Int) (w : World) (hid : ∀ x ∈ L, x.id ≠ id) (hwf : (Lit.int .i64 id).wf = true) (h : DuIn w p v (.map (some b)) L N) :
    Calls Try.prog 9 #[.pointer (some ⟨p, 0, none⟩), .int .i64 id] w fun e w' => e = .returned (.bool false) ∧ w = w' := by
  obtain ⟨hm, hbp, hbb⟩ := duin_map h
  have c1 := cell_of h.al.head 1
  simp only [List.getElem?_toArray, List.getElem?_cons_zero, List.getElem?_cons_succ] at c1
  have hlk := hm.miss due_keyed Try.underlying26 (due_zero w) (keyOf_int_mk Try.underlying3 hwf) (me_not hid)
  clear h hm hid hbb
  go_enter Try.func9, Try.ntmps9
  go_wp2_with fail
  go_ret
  exact ⟨rfl, rfl⟩
theorem ddrop_nil (p N : Nat) (v : Value) (id : Int) (w : World) (hwf : (Lit.int .i64 id).wf = true) (h : DuIn w p v (.map none) [] N) :
    Calls Try.prog 9 #[.pointer (some ⟨p, 0, none⟩), .int .i64 id] w fun e w' => e = .returned (.bool false) ∧ w = w' := by
  have c1 := cell_of h.al.head 1
  simp only [List.getElem?_toArray, List.getElem?_cons_zero, List.getElem?_cons_succ] at c1
  have hlk := Maps.look_nil (w := w) (P := Try.prog) true due_keyed Try.underlying26 (due_zero w) (keyOf_int_mk Try.underlying3 hwf)
  rw [if_pos rfl] at hlk
  clear h
  go_enter Try.func9, Try.ntmps9
  go_wp2_with fail
  go_ret
  exact ⟨rfl, rfl⟩
theorem ddrop_yes (p N : Nat) (S : List (Int × Int)) (F : Nat → Prop) (id : Int) (w : World) (h : DuAt w p S N F) (hx : HasI id S = true) (hN : N ≤ 1000000) :
    Calls Try.prog 9 #[.pointer (some ⟨p, 0, none⟩), .int .i64 id] w (Ddrop p (Del id S) N F w) := by
  obtain ⟨v, m, L, h1, h2, h3, h4⟩ := h
  obtain ⟨y, hy, rfl⟩ := HasI_iff.1 hx
  obtain ⟨a, ha, rfl⟩ := kl_mem (h2.mem_iff.2 hy)
  obtain ⟨i, hi, rfl⟩ := mem_G ha
  rcases h1.map with ⟨rfl, rfl⟩ | ⟨b, rfl, hm, _⟩
  · cases hi
  · exact ddrop_in p i b N v L S F _ w h2 h3 h4 hi rfl hN h1
theorem ddrop_no (p N : Nat) (S : List (Int × Int)) (F : Nat → Prop) (id : Int) (w : World) (h : DuAt w p S N F) (hx : HasI id S = false) (hwf : (Lit.int .i64 id).wf = true) :
    Calls Try.prog 9 #[.pointer (some ⟨p, 0, none⟩), .int .i64 id] w fun e w' => e = .returned (.bool false) ∧ w = w' := by
  obtain ⟨v, m, L, h1, h2, h3, h4⟩ := h
  have hid : ∀ x ∈ L, x.id ≠ id := fun x hx' => HasI_false.1 hx _ (h2.mem_iff.1 (List.mem_map.2 ⟨x, hx', rfl⟩))
  rcases h1.map with ⟨rfl, rfl⟩ | ⟨b, rfl, hm, _⟩
  · exact ddrop_nil p N v id w hwf h1
  · exact ddrop_miss p b N v L id w hid hwf h1

theorem dfirst_none (n : Int) (w : World) : Calls Try.prog 11 #[.pointer none, .int .i64 n] w fun e w' => e = .returned (.tuple #[.int .i64 0, .bool false]) ∧ w = w' := by
  go_enter Try.func11, Try.ntmps11
  go_wp2_with (go_at_call 13; refine (dnext_none _).mono ?_; rintro e w' ⟨rfl, rfl⟩)
  go_ret2
  exact ⟨rfl, rfl⟩
theorem dfirst_nil (p N : Nat) (F : Nat → Prop) (n : Int) (w : World) (h : DuAt w p [] N F) : Calls Try.prog 11 #[.pointer (some ⟨p, 0, none⟩), .int .i64 n] w fun e w' => e = .returned (.tuple #[.int .i64 0, .bool false]) ∧ w = w' := by
  have H := Lib.hid h; clear h
  go_enter Try.func11, Try.ntmps11
  go_wp2_with (go_at_call 13; refine (dnext_nil _ _ _ _ H.out).mono ?_; rintro e w' ⟨rfl, rfl⟩)
  go_ret2
  exact ⟨rfl, rfl⟩
theorem dfirst_late (p N : Nat) (s : Int × Int) (r : List (Int × Int)) (F : Nat → Prop) (n : Int) (w : World) (h : DuAt w p (s :: r) N F) (hs : SatAid.C n < s.2) : Calls Try.prog 11 #[.pointer (some ⟨p, 0, none⟩), .int .i64 n] w fun e w' => e = .returned (.tuple #[.int .i64 0, .bool false]) ∧ ∃ q, w' = w.drewN q := by
  have H := Lib.hid h; clear h
  go_enter Try.func11, Try.ntmps11
  go_wp2_with fail
  refine (dnext_cons _ _ _ _ _ _ H.out).mono ?_; rintro e w1 ⟨rfl, hw1⟩
  have HW := Lib.hid hw1; clear hw1
  go_wp2_with (go_at_call 16; refine (clamp_any _ _).mono ?_; rintro e w' ⟨rfl, rfl⟩)
  go_ret2
  exact ⟨rfl, HW.out⟩
def Dfirst (p : Nat) (id : Int) (S : List (Int × Int)) (N : Nat) (F : Nat → Prop) (w : World) (e : Ending) (w' : World) : Prop :=
  e = .returned (.tuple #[.int .i64 id, .bool true]) ∧ (∃ F', DuAt w' p S N F' ∧ New w F F') ∧ Kp F w w'
theorem dfirst_due (p N : Nat) (s : Int × Int) (r : List (Int × Int)) (F : Nat → Prop) (n : Int) (w : World) (h : DuAt w p (s :: r) N F) (hs : s.2 ≤ SatAid.C n) (hN : N ≤ 1000000) : Calls Try.prog 11 #[.pointer (some ⟨p, 0, none⟩), .int .i64 n] w (Dfirst p s.1 (Del s.1 (s :: r)) N F w) := by
  have H := Lib.hid h; clear h
  go_enter Try.func11, Try.ntmps11
  go_wp2_with fail
  refine (dnext_cons _ _ _ _ _ _ H.out).mono ?_; rintro e w1 ⟨rfl, hw1⟩
  have hk1 : Kp (fun _ => False) w w1 := (Kp.refl _ w).drewn hw1
  have H1 := Lib.hid (H.out.keep hk1 (fun _ _ h => h)); have HK1 := Lib.hid hk1; clear hw1 hk1
  go_wp2_with (go_at_call 16; refine (clamp_any _ _).mono ?_; rintro e w' ⟨rfl, rfl⟩)
  refine (ddrop_yes p N (s :: r) F s.1 _ H1.out (HasI_iff.2 ⟨s, List.mem_cons_self .., rfl⟩) hN).mono ?_; rintro e w2 ⟨rfl, ⟨F', h2, h3⟩, h4⟩
  have HR := Lib.hid (show Dfirst p s.1 (Del s.1 (s :: r)) N F w (.returned (.tuple #[.int .i64 s.1, .bool true])) w2 from ⟨rfl, ⟨F', h2, fun k e => (h3 k e).imp id (fun e => Nat.le_trans HK1.out.size e)⟩, (HK1.out.mono (fun _ _ h => h.elim)).trans h4⟩)
  clear h2 h3 h4
  go_wp2_with fail
  go_ret2
  exact HR.out
end Go.Proofs.Ytjipppejcpokkaa
