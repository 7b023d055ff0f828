/- What a scheduler's End does. Conditions: there are no more recipients than fit into memory. -/
import Derived.Test.YtbiahndpfbmoeaaSd17
namespace Go.Proofs.Ytbiahndpfbmoeaa
open Go.RowKit Go.Maps SatAid Go.MapKept Go.ChangeMaps Go.WideShapes

/-- a domain more, that was counted before -/
theorem Vq.ext0 {s s' : Sd} {now n0 : Int} {y : Pe} (ht : Tik s now) (h0 : 0 ≤ n0) (h0n : n0 ≤ now) (hn2 : now ≤ 1099511627776) (hx : Pext s n0 y s'.Ps) (hc : s'.c = s.c) : Vq now s s' := by
  obtain ⟨hy, h | ⟨h, hne, h1, h2, h3, h4⟩⟩ := hx
  · exact Vq.of h hc ht
  · rw [C_of h0 (by omega)] at h4
    have hf : ∀ d, fp s'.Ps d = match fp s.Ps d with | some z => some z | none => if y.dom = d then some y else none := fun d => by
      rw [h]
      unfold fp
      rw [List.find?_append]
      cases hh : s.Ps.find? (fun y => decide (y.dom = d)) with
      | some z => rfl
      | none =>
        simp only [Option.none_or, List.find?_cons, List.find?_nil]
        by_cases e : y.dom = d
        · simp [e]
        · simp [e]
    refine ⟨fun d => ?_, fun d => ?_, fun m d h5 h6 => ?_, fun z hz => ?_⟩
    · unfold vN; rw [hf]
      cases fp s.Ps d with
      | some z => rfl
      | none => simp only; split <;> rename_i h7 <;> split at h7 <;> first | (cases h7; exact h1) | rfl | cases h7
    · unfold vB; rw [hf]
      cases fp s.Ps d with
      | some z => rfl
      | none => simp only; split <;> rename_i h7 <;> split at h7 <;> first | (cases h7; exact h2) | rfl | cases h7
    · unfold vT; rw [hf, hc]
      cases fp s.Ps d with
      | some z => rfl
      | none =>
        simp only
        split <;> rename_i h7 <;> split at h7
        · cases h7
          rw [h3, h4]
          exact Lf_full' (V_lo _) (V_hi _) (V_lo _) (V_hi _) h0 (by omega)
        · cases h7
        · cases h7
        · rfl
    · rw [h] at hz
      rcases List.mem_append.1 hz with hz | hz
      · exact ht z hz
      · obtain rfl := List.mem_singleton.1 hz
        omega
/-- one domain has ended one -/
structure Ve (now : Int) (d0 : ByteArray) (g : Bool) (s s' : Sd) : Prop where
  n : ∀ d, vN s' d = if d = d0 then En g (V8 s.c.win) (vN s d) (vB s d) else vN s d
  b : ∀ d, vB s' d = if d = d0 then Eb (vB s d) else vB s d
  t : ∀ m d, now ≤ m → m ≤ 1099511627776 → vT s' m d = vT s m d
  le : Tik s' now
theorem Ve.ended {s : Sd} {y y' : Pe} {now : Int} {g : Bool} (hp : s.Ps.Pairwise (fun a b => a.dom ≠ b.dom)) (hy : y ∈ s.Ps) (e4 : y'.dom = y.dom) (e1 : y'.now = En g (V8 s.c.win) y.now y.busy) (e2 : y'.busy = Eb y.busy) (e3 : y'.l = y.l) (e5 : y'.t = y.t) (ht : Tik s now) : Ve now y.dom g s { s with Ps := Psub s.Ps y' } := by
  have hf := fun d => fp_sub (d := d) hp (y' := y') ⟨y, hy, e4.symm⟩
  rw [e4] at hf
  obtain ⟨p1, p2, _⟩ := pn_of hp hy
  refine ⟨fun d => ?_, fun d => ?_, fun m d h1 h2 => ?_, fun z hz => ?_⟩
  · by_cases e : d = y.dom
    · subst e
      rw [if_pos rfl, p1, p2]
      unfold vN; simp only [hf, if_true]; exact e1
    · rw [if_neg e]; unfold vN; simp only [hf]; rw [if_neg e]
  · by_cases e : d = y.dom
    · subst e
      rw [if_pos rfl, p2]
      unfold vB; simp only [hf, if_true]; exact e2
    · rw [if_neg e]; unfold vB; simp only [hf]; rw [if_neg e]
  · unfold vT; simp only [hf]
    by_cases e : d = y.dom
    · subst e; rw [fp_eq hp hy, if_pos rfl]; simp only [e3, e5]
    · rw [if_neg e]
  · rcases Psub_mem hz with ⟨rfl, _⟩ | ⟨hz, _⟩
    · rw [e5]; exact ht y hy
    · exact ht z hz
theorem Ve.of_vq {now : Int} {d0 : ByteArray} {g : Bool} {s s1 s2 : Sd} (h : Vq now s s1) (k : Ve now d0 g s1 s2) (hc : s1.c = s.c) : Ve now d0 g s s2 :=
  ⟨fun d => by rw [k.n, h.n, h.b, hc], fun d => by rw [k.b, h.b], fun m d h1 h2 => by rw [k.t m d h1 h2, h.t m d h1 h2], k.le⟩
theorem Ve.then {now : Int} {d0 : ByteArray} {g : Bool} {s s1 s2 : Sd} (h : Ve now d0 g s s1) (hp : s2.Ps = s1.Ps) (hc : s2.c = s1.c) : Ve now d0 g s s2 :=
  ⟨fun d => by rw [← h.n]; unfold vN; rw [hp], fun d => by rw [← h.b]; unfold vB; rw [hp], fun m d h1 h2 => by rw [← h.t m d h1 h2]; unfold vT; rw [hp, hc], by unfold Tik; rw [hp]; exact h.le⟩
/-- one ends -/
def aEnd (A : Ab) (i : Nat) (x : Wx) (stays : Bool) (n : Int) : Ab :=
  let B := aGo { A with G := CutG i A.G } (x.id, x.rc) false (fun _ => n)
  if stays then B else aGone B { x with go := false, nx := n }
def Send (p N : Nat) (s : Sd) (i : Int) (good stays : Bool) (n now : Int) (w : World) (e : Ending) (w' : World) : Prop :=
  ((i < 0 ∨ (s.G.length : Int) ≤ i) → e = .returned (.tuple #[z3, .bool false]) ∧ Kp (fun _ => False) w w') ∧
  ((0 ≤ i ∧ i < (s.G.length : Int)) → ∃ x s', x ∈ s.Ws ∧ s.G[i.toNat]? = some (x.id, x.rc) ∧ e = .returned (.tuple #[.agg #[.int .i64 x.id, .int .i64 x.rc, .string x.dom], .bool true]) ∧ SIn w' p s' N ∧ St w w' s s' ∧
    ab s' = aEnd (ab s) i.toNat (wx x) stays (C n) ∧ Ve now x.dom good s s')
theorem send_none (i n : Int) (a b : Bool) (w : World) : Calls Try.prog 32 #[.pointer none, .int .i64 i, .bool a, .bool b, .int .i64 n] w fun e w' => e = .returned (.tuple #[z3, .bool false]) ∧ Kp (fun _ => False) w w' := by
  go_enter Try.func32, Try.ntmps32
  go_wp2_with fail
  refine bodyPost_ret (v := .tuple #[z3, .bool false]) ?_ rfl ⟨rfl, (by repeat (first | exact Kp.refl _ _ | apply Kp.drew | apply Kp.drewN | refine Kp.setCell ?_ _ _ (Or.inl rfl) | apply Kp.alloc))⟩
  rw [results_cell_tmp rfl]
  go_simp
  rfl
theorem CutG_sub {i : Nat} {G : List (Int × Int)} {k : Int × Int} (h : k ∈ CutG i G) : k ∈ G := by
  unfold CutG at h
  rcases List.mem_append.1 h with h | h
  · exact List.mem_of_mem_take h
  · exact List.mem_of_mem_drop h
theorem CutG_nodup {i : Nat} {G : List (Int × Int)} (h : G.Nodup) : (CutG i G).Nodup := by
  unfold CutG
  have h1 : (G.take i ++ G.drop (i + 1)).Sublist G := by
    conv => rhs; rw [← List.take_append_drop i G]
    exact List.Sublist.append (List.Sublist.refl _) (List.drop_sublist_drop_left G (Nat.le_succ i))
  exact h.sublist h1
theorem CutG_notin {i : Nat} {G : List (Int × Int)} {k : Int × Int} (h : G.Nodup) (hk : G[i]? = some k) : k ∉ CutG i G := by
  intro hm
  have hi := (List.getElem?_eq_some_iff.1 hk).1
  have e : G = G.take i ++ k :: G.drop (i + 1) := by
    have := (List.getElem?_eq_some_iff.1 hk).2
    rw [← this, ← List.drop_eq_getElem_cons hi, List.take_append_drop]
  rw [e, List.nodup_append] at h
  obtain ⟨_, h2, h3⟩ := h
  unfold CutG at hm
  rcases List.mem_append.1 hm with h4 | h4
  · exact h3 k h4 k (List.mem_cons_self ..) rfl
  · exact (List.nodup_cons.1 h2).1 h4
end Go.Proofs.Ytbiahndpfbmoeaa
