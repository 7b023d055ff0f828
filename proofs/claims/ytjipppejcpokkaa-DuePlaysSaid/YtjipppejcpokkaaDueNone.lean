/- What every law of package due asks first; DueNone. No condition. -/
import Derived.Test.YtjipppejcpokkaaDue8
import Derived.ProofKit
namespace Go.Proofs.Ytjipppejcpokkaa
open Go.RowKit Go.Maps Go.ChangeShapes Go.WideShapes

/-- what is known of alarms of one's own -/
structure DI (W w : World) (p : Nat) (S : List (Int × Int)) (N : Nat) (F : Nat → Prop) : Prop where
  du : DuAt w p S N F
  new : ∀ k, F k → W.heap.size ≤ k
  kp : Kp (fun _ => False) W w
theorem DI.calm {W w w1 : World} {p : Nat} {S : List (Int × Int)} {N : Nat} {F : Nat → Prop} (h : DI W w p S N F) (hk : Kp (fun _ => False) w w1) : DI W w1 p S N F :=
  ⟨h.du.keep hk (fun _ _ h => h), h.new, h.kp.trans hk⟩
theorem DI.next {W w w1 : World} {p p' : Nat} {S S' : List (Int × Int)} {N N' : Nat} {F F' : Nat → Prop} (h : DI W w p S N F) (hd : DuAt w1 p' S' N' F') (hn : New w F F') (hk : Kp F w w1) : DI W w1 p' S' N' F' :=
  ⟨hd, fun k e => by
    rcases hn k e with e | e
    · exact h.new k e
    · exact Nat.le_trans h.kp.size e, h.kp.trans_new hk (fun k h1 e => absurd (h.new k e) (by omega))⟩
theorem DI.made (W w : World) (hk : Kp (fun _ => False) W w) : DI W (w.alloc (.cells #[.slice none 0 0, .map none] 28)) w.heap.size [] 0 (Ft w.heap.size (.slice none 0 0) (.map none) []) := by
  refine ⟨⟨_, _, [], ⟨⟨heap_new _, Own.nil _ _ _, by simp [Value.ownBlock], fun i hi => (by cases hi), fun a ha => (by cases ha), fun i j hi => (by cases hi)⟩, fun k _ hk => (by cases hk), Nat.le_refl _, fun a ha => (by cases ha), fun a ha => (by cases ha), Or.inl ⟨rfl, rfl⟩⟩, List.Perm.refl _, List.Pairwise.nil, fun k => Iff.rfl⟩, fun k e => ?_, hk.alloc _⟩
  rcases e with e | (e | ⟨a, ha, _⟩) | e
  · rw [e]; exact hk.size
  · simp [In, Value.ownBlock] at e
  · cases ha
  · cases e
theorem wf_small {n : Int} (h0 : -1000 ≤ n) (h1 : n ≤ 1000) : (Lit.int .i64 n).wf = true := WalkArith.wf_i64 (by omega)

theorem d20ans_any (w : World) : Calls Try.prog 15 #[] w fun e w' => e = .returned (.bool true) ∧ Kp (fun _ => False) w w' := by
  have H0 := Lib.hid (DI.made w w (Kp.refl _ _))
  go_enter Try.func15, Try.ntmps15
  go_wp2_with fail
  refine (dset_any w.heap.size 0 [] _ 5 9 _ H0.out.du (wf_small (by omega) (by omega)) (by omega)).mono ?_; rintro e w1 ⟨rfl, ⟨F1, hd, hn⟩, hk⟩
  have H1 := Lib.hid (show DI w w1 w.heap.size [(5, 9)] 1 F1 from H0.out.next hd hn hk); clear hd hn hk
  go_wp2_with fail
  refine (dset_any w.heap.size 1 [(5, 9)] F1 4 9 _ H1.out.du (wf_small (by omega) (by omega)) (by omega)).mono ?_; rintro e w2 ⟨rfl, ⟨F2, hd, hn⟩, hk⟩
  have H2 := Lib.hid (show DI w w2 w.heap.size [(4, 9), (5, 9)] 2 F2 from H1.out.next hd hn hk); clear hd hn hk
  go_wp2_with fail
  refine (dfirst_due w.heap.size 2 (4, 9) [(5, 9)] F2 9 _ H2.out.du (by decide) (by omega)).mono ?_; rintro e w3 ⟨rfl, ⟨F3, hd, hn⟩, hk⟩
  have H3 := Lib.hid (show DI w w3 w.heap.size [(5, 9)] 2 F3 from H2.out.next hd hn hk); clear hd hn hk
  go_wp2_with fail
  refine (dlen_any w.heap.size [(5, 9)] 2 F3 _ H3.out.du).mono ?_; rintro e w4 ⟨rfl, rfl⟩
  go_wp2_with fail
  refine (ddrop_yes w.heap.size 2 [(5, 9)] F3 5 _ H3.out.du (by decide) (by omega)).mono ?_; rintro e w5 ⟨rfl, ⟨F5, hd, hn⟩, hk⟩
  have H5 := Lib.hid (show DI w w5 w.heap.size [] 2 F5 from H3.out.next hd hn hk); clear hd hn hk
  go_wp2_with fail
  refine (ddrop_no w.heap.size 2 [] F5 5 _ H5.out.du (by decide) (wf_small (by omega) (by omega))).mono ?_; rintro e w6 ⟨rfl, rfl⟩
  go_wp2_with fail
  go_ret
  exact ⟨rfl, H5.out.kp⟩

theorem dueNone_law {H : Type} {enc : TypeId × Value → H} (W : World) {base : Nat} (v0 v1 : Value) (d0 d1 : DataW H) (p0 p1 : List MemPlace)
    (k0 : Value.okWide Try.prog W .any base 3 v0) (k1 : Value.okWide Try.prog W .any base 3 v1)
    (h0 : DataW.Trod enc Try.prog W 0 (fun _ => true) true 3 v0 d0 p0) (h1 : DataW.Trod enc Try.prog W 0 (fun _ => true) true 3 v1 d1 p1) :
    Calls Try.prog 5 #[v0, v1] W fun e W' => e = .returned (.bool true) ∧ Below W.heap.size W W' := by
  obtain ⟨id, rfl, _⟩ := okWide_int Try.underlying3 k0
  obtain ⟨n, rfl, _⟩ := okWide_int Try.underlying3 k1
  clear h0 h1 k0 k1
  go_enter Try.func5, Try.ntmps5
  go_wp2_with fail
  refine (dset_none _ _ _).mono ?_; rintro e w1 ⟨rfl, rfl⟩
  go_wp2_with fail
  refine (dfirst_none _ _).mono ?_; rintro e w1 ⟨rfl, rfl⟩
  go_wp2_with fail
  refine (dnext_none _).mono ?_; rintro e w1 ⟨rfl, rfl⟩
  go_wp2_with fail
  refine (d20ans_any _).mono ?_; rintro e w1 ⟨rfl, hk⟩
  have HK := Lib.hid hk; clear hk
  go_wp2_with fail
  refine (ddrop_none _ _).mono ?_; rintro e w2 ⟨rfl, rfl⟩
  go_wp2_with fail
  refine (dlen_none _).mono ?_; rintro e w2 ⟨rfl, rfl⟩
  go_wp2_with fail
  go_ret
  exact ⟨rfl, HK.out.below (fun _ _ h => h)⟩
end Go.Proofs.Ytjipppejcpokkaa
