/- What package due's Set does. Condition: there are no more alarms than fit into memory. -/
import Derived.Test.YtjipppejcpokkaaDue5
import Derived.StillTailTactics
namespace Go.Proofs.Ytjipppejcpokkaa
open Go.RowKit Go.Maps

/-- the blocks of F' are those of F, or new -/
def New (w : World) (F F' : Nat → Prop) : Prop := ∀ k, F' k → F k ∨ w.heap.size ≤ k
theorem mem_me {L : List Al} {a : Al} (h : a ∈ L) : (Lit.int .i64 a.id, Value.pointer (some ⟨a.blk, 0, none⟩)) ∈ Me L := List.mem_map.2 ⟨a, h, rfl⟩
theorem me_not {L : List Al} {id : Int} (h : ∀ a ∈ L, a.id ≠ id) : ∀ p ∈ Me L, p.1 ≠ .int .i64 id := by
  intro p hp e
  obtain ⟨a, ha, rfl⟩ := List.mem_map.1 hp
  simp only [Lit.int.injEq, true_and] at e
  exact h a ha e
/-- an alarm with another time -/
def Re (a : Al) (t : Int) : Al := ⟨a.blk, a.id, t⟩
theorem set_alat {w : World} {p i : Nat} {v m : Value} {L : List Al} {t : Int} (h : AlAt w p v m L) (hi : i < L.length) :
    AlAt (w.setCell ⟨(G L i).blk, 1, none⟩ (.int .i64 t)) p v m (L.set i (Re (G L i) t)) ∧ Kp (Bs v L) w (w.setCell ⟨(G L i).blk, 1, none⟩ (.int .i64 t)) := by
  have hk : Kp (· = (G L i).blk) w (w.setCell ⟨(G L i).blk, 1, none⟩ (.int .i64 t)) := (by repeat (first | exact Kp.refl _ _ | apply Kp.drew | apply Kp.drewN | refine Kp.setCell ?_ _ _ (Or.inl rfl) | apply Kp.alloc))
  have ho := h.own _ (G_mem hi)
  have hl : (L.set i (Re (G L i) t)).length = L.length := List.length_set
  have hb : ∀ k, (G (L.set i (Re (G L i) t)) k).blk = (G L k).blk := fun k => by
    rw [set_G hi]; split
    · rename_i e; subst e; rfl
    · rfl
  refine ⟨⟨hk.keep h.head (fun e => ho.1 e.symm), ?_, h.apart, fun k hk' => ?_, fun a ha => ?_, fun x y hx hy e => ?_⟩, hk.mono (fun k _ e => Or.inr ⟨_, G_mem hi, e.symm⟩)⟩
  · rw [hl]
    have e : Pc (L.set i (Re (G L i) t)) = Pc L := by
      apply List.ext_getElem?
      intro k
      unfold Pc
      rw [List.getElem?_map, List.getElem?_map, List.getElem?_set]
      by_cases e : i = k
      · subst e; rw [if_pos rfl, if_pos hi, G_get hi]; rfl
      · rw [if_neg e]
    rw [e]
    exact h.row.keep hk (fun k hk' e => ho.2 (by rw [hk']; exact congrArg some e))
  · rw [hl] at hk'
    rw [hb, set_G hi]
    by_cases e : k = i
    · subst e; rw [if_pos rfl]; exact heap_set (h.each k hi) _
    · rw [if_neg e]; exact hk.keep (h.each k hk') (fun e' => e (h.nodup k i hk' hi e'))
  · obtain ⟨k, hk', rfl⟩ := mem_G ha
    rw [hl] at hk'
    rw [hb]
    exact h.own _ (G_mem hk')
  · rw [hl] at hx hy
    rw [hb, hb] at e
    exact h.nodup x y hx hy e
theorem bs_set {v : Value} {L : List Al} {i : Nat} {t : Int} (hi : i < L.length) {k : Nat} (h : Bs v (L.set i (Re (G L i) t)) k) : Bs v L k := by
  rcases h with h | ⟨a, ha, e⟩
  · exact Or.inl h
  · rcases List.mem_cons.1 ((set_perm hi _).mem_iff.1 ha) with rfl | ha
    · exact Or.inr ⟨_, G_mem hi, e⟩
    · exact Or.inr ⟨a, (rest_perm hi).mem_iff.2 (List.mem_cons_of_mem _ ha), e⟩
theorem me_set {L : List Al} {i : Nat} {t : Int} (hi : i < L.length) : (Me (L.set i (Re (G L i) t))).Perm (Me L) := by
  have h1 : (Me (L.set i (Re (G L i) t))).Perm (Me (Re (G L i) t :: Rest L i)) := (set_perm hi _).map _
  have h2 : (Me L).Perm (Me (G L i :: Rest L i)) := (rest_perm hi).map _
  exact h1.trans h2.symm

def Dset (p : Nat) (S : List (Int × Int)) (N : Nat) (F : Nat → Prop) (w : World) (e : Ending) (w' : World) : Prop :=
  e = .returned (.tuple #[]) ∧ (∃ F', DuAt w' p S N F' ∧ New w F F') ∧ Kp F w w'
/-- the alarm was there -/
theorem set_close_old {w w1 w2 : World} {p i N : Nat} {v m : Value} {L : List Al} {S : List (Int × Int)} {F : Nat → Prop} {id t : Int} (h : DuIn w p v m L N) (hp : (Kl L).Perm S) (hs : S.Pairwise LtP) (hF : ∀ k, F k ↔ Ft p v m L k) (hi : i < L.length) (hid : (G L i).id = id) (ht : t ≤ 1099511627776)
    (hw1 : w1 = w.setCell ⟨(G L i).blk, 1, none⟩ (.int .i64 t)) (hr : Sifted p v m (L.set i (Re (G L i) t)) (L.set i (Re (G L i) t)).length w1 w2) : Dset p (Ins (id, t) (Del id S)) (N + 1) F w (.returned (.tuple #[])) w2 := by
  subst hw1 hid
  obtain ⟨L', hp', hg', ha', hh', hk'⟩ := hr
  have hl : (L.set i (Re (G L i) t)).length = L.length := List.length_set
  have hl' := hp'.length_eq
  have hsp := set_perm hi (Re (G L i) t)
  have hrp := rest_perm hi
  have hrest := del_rest hi hp (h.ids hi)
  have hmem : ∀ a ∈ L', a = Re (G L i) t ∨ a ∈ L := fun a ha => by
    rcases List.mem_cons.1 ((hp'.trans hsp).mem_iff.1 ha) with e | e
    · exact Or.inl e
    · exact Or.inr (hrp.mem_iff.2 (List.mem_cons_of_mem _ e))
  have hk1 := (set_alat (t := t) h.al hi).2
  have hkk : Kp (Bs v L) w w2 := hk1.trans (hk'.mono (fun k _ e => bs_set hi e))
  have hbs : ∀ k, Bs v L' k ↔ Bs v L k := fun k => ⟨fun e => bs_set hi (Bs.perm hp' e), fun e => by
    rcases e with e | ⟨a, ha, e⟩
    · exact Or.inl e
    · rcases List.mem_cons.1 (hrp.mem_iff.1 ha) with rfl | ha
      · exact Or.inr ⟨Re (G L i) t, (hp'.trans hsp).mem_iff.2 (List.mem_cons_self ..), e⟩
      · exact Or.inr ⟨a, (hp'.trans hsp).mem_iff.2 (List.mem_cons_of_mem _ ha), e⟩⟩
  refine ⟨rfl, ⟨F, ⟨v, m, L', ⟨ha', ?_, ?_, fun a ha => ?_, fun a ha => ?_, ?_⟩, ?_, ?_, fun k => ?_⟩, fun k hk => Or.inl hk⟩, hkk.mono (fun k _ e => (hF k).2 (Or.inr (Or.inl e)))⟩
  · rw [hl']; exact hh'
  · have := h.len; omega
  · rcases hmem a ha with rfl | e
    · exact h.wf (G L i) (G_mem hi)
    · exact h.wf a e
  · rcases hmem a ha with rfl | e
    · exact ht
    · exact h.lim a e
  · rcases h.map with ⟨_, e⟩ | ⟨b, e, hm, h1, h2⟩
    · subst e; cases hi
    · refine Or.inr ⟨b, e, ?_, h1, fun e => h2 ((hbs b).1 e)⟩
      have := (hm.keep hkk h2).perm ((me_set (t := t) hi).symm.trans (hp'.symm.map _))
      rw [hl', hl]
      exact this
  · have e1 : (Kl L').Perm (((G L i).id, t) :: Kl (Rest L i)) := (hp'.trans hsp).map _
    exact e1.trans ((List.Perm.cons _ hrest).trans (Ins_perm _ _).symm)
  · exact Ins_sorted (Del_sorted hs) (fun y hy => (Del_mem hy).2)
  · rw [hF k]; unfold Ft; rw [hbs k]
theorem Sifted.eq {p : Nat} {v m : Value} {L : List Al} {n n' : Nat} {w w' : World} (h : Sifted p v m L n w w') (e : n = n') : Sifted p v m L n' w w' := e ▸ h
theorem dset_old (p i N : Nat) (v m : Value) (L : List Al) (S : List (Int × Int)) (F : Nat → Prop) (id a : Int) (w : World) (h : DuIn w p v m L N) (hp : (Kl L).Perm S) (hs : S.Pairwise LtP) (hF : ∀ k, F k ↔ Ft p v m L k) (hi : i < L.length) (hid : (G L i).id = id) (hN : N ≤ 1000000) :
    Calls Try.prog 7 #[.pointer (some ⟨p, 0, none⟩), .int .i64 id, .int .i64 a] w (Dset p (Ins (id, SatAid.C a) (Del id S)) (N + 1) F w) := by
  have hwf : (Lit.int .i64 id).wf = true := hid ▸ h.wf _ (G_mem hi)
  have hL := h.len
  rcases h.map with ⟨_, e⟩ | ⟨b, rfl, hm, hbp, hbb⟩
  · subst e; cases hi
  have c1 := cell_of h.al.head 1
  simp only [List.getElem?_toArray, List.getElem?_cons_zero, List.getElem?_cons_succ] at c1
  have hq := fun (w : World) (r : Option Nat) => run_eql_map_nil (P := Try.prog) w 26 3 51 r Try.underlying26
  have hlk := (hm.look due_keyed Try.underlying26 (due_zero w) (keyOf_int_mk Try.underlying3 hwf) (hid ▸ mem_me (G_mem hi))).1
  obtain ⟨t, ht⟩ : ∃ t, t = SatAid.C a := ⟨_, rfl⟩
  have htl : t ≤ 1099511627776 := by rw [ht]; exact SatAid.C_hi a
  have hs1 := set_alat (t := t) h.al hi
  have hMID := Heap.mid h.hp (L.set i (Re (G L i) t)) i hi (fun k _ hk => by rw [set_G hi, if_neg hk])
  have hl : (L.set i (Re (G L i) t)).length = L.length := List.length_set
  rw [← hl] at hMID
  have ei := h.al.each i hi
  have ei2 : (w.setCell ⟨(G L i).blk, 1, none⟩ (.int .i64 t)).heap[(G L i).blk]? = some (.cells #[.int .i64 (G L i).id, .int .i64 t, .int .i64 i] 54 (0, 0)) := heap_set ei _
  have e1 := cell_of ei 1; have f1 := frozen_of ei 1
  have e2 := cell_of ei2 2
  simp only [List.getElem?_toArray, List.getElem?_cons_zero, List.getElem?_cons_succ] at e1 e2
  obtain ⟨bl, hbl⟩ : ∃ bl, bl = (G L i).blk := ⟨_, rfl⟩
  rw [← hbl] at hlk e1 f1 e2 hs1
  obtain ⟨oldt, hot⟩ : ∃ x, x = (G L i).at' := ⟨_, rfl⟩
  rw [← hot] at e1
  have HH := Lib.hid h; have HP := Lib.hid hp; have HSS := Lib.hid hs; have HF := Lib.hid hF; have HID := Lib.hid hid; have HT := Lib.hid ht; have HA1 := Lib.hid hs1.1; have HM := Lib.hid hMID; have HBL := Lib.hid hbl; have HL := Lib.hid hl
  clear h hp hs hF hid ht hs1 hMID ei ei2 hbl hot hwf hm hbb hl
  go_enter Try.func7, Try.ntmps7
  go_wp2_with fail
  refine (clamp_any _ _).mono ?_; rintro e w1 ⟨rfl, rfl⟩
  rw [← HT.out]
  go_wp2_with fail
  refine still_tail 8 (by kernel_rfl) (by kernel_rfl) ?_
  simp only [List.take_succ_cons, List.take_zero, List.drop_succ_cons, List.drop_zero]
  repeat still_step
  refine wpStill_nil ?_
  go_wp2_with fail
  refine (hfix_any p v _ (L.set i (Re (G L i) t)) i _ (HA1.out.drewn ⟨1, rfl⟩) (by rw [HL.out]; exact hi) (by rw [HL.out]; omega) HM.out).mono ?_; rintro e w3 ⟨rfl, hr⟩
  have HR := Lib.hid (show Dset p (Ins (id, SatAid.C a) (Del id S)) (N + 1) F w (.returned (.tuple #[])) w3 from by
    rw [← HT.out]
    obtain ⟨L', hp', hg', ha', hh', hk'⟩ := hr
    exact set_close_old HH.out HP.out HSS.out HF.out hi HID.out htl (by rw [← HBL.out]) ⟨L', hp', hg', ha', hh', ((Kp.refl _ _).drew).trans hk'⟩)
  clear hr
  go_wp2_with fail
  (first | go_end0 | refine bodyPost_ret (results_none rfl _ _ _) rfl ?_)
  exact HR.out
end Go.Proofs.Ytjipppejcpokkaa
