/- The laws of package pipe: each returns true for every input. No condition. -/
import Derived.Test.YtihndplkkpglcaaPipe
import Derived.Test.YtihndplkkpglcaaOpen
import Derived.Test.YtihndplkkpglcaaAid
import Derived.Deep.RegionHeld3
import Derived.Deep.QuietTactic
import Derived.BigQuiet
namespace Go.Proofs.Ytihndplkkpglcaa
open Go.RowKit Go.ChangeShapes Go.WideShapes Go.Deep

theorem pipe_new {w : World} : PipeAt (w.alloc (.cells #[.slice none 0 0] 37)) w.heap.size (.slice none 0 0) [] := ⟨heap_new _, Own.nil _ _ _, by simp [Value.ownBlock]⟩
theorem PipeAt.keep {S : Nat → Prop} {w w' : World} {p : Nat} {v : Value} {L : List (Int × ByteArray × Int)} (h : PipeAt w p v L) (hk : Kp S w w') (hp : ¬ S p) (hs : ∀ k, v.ownBlock = some k → ¬ S k) : PipeAt w' p v L :=
  ⟨hk.keep h.head hp, h.row.keep hk hs, h.apart⟩

theorem pans_any (w : World) : Calls Try.prog 23 #[] w fun e w' => e = .returned (.bool true) ∧ Kp (fun _ => False) w w' := by
  have hn := Lib.hid (pipe_new (w := w))
  have ek0 : Kd 0 = 2 := by decide
  have ek1 : Kd 1 = 3 := by decide
  have ek2 : Kd 75 = 4 := by decide
  have ec : Cnt 3 ⟨#[97, 64, 98]⟩ [(3, ⟨#[97, 64, 98]⟩, 75)] = 1 := by decide
  have EK0 := Lib.hid ek0; have EK1 := Lib.hid ek1; have EK2 := Lib.hid ek2; have EC := Lib.hid ec; clear ek0 ek1 ek2 ec
  go_enter Try.func23, Try.ntmps23
  go_wp2_with fail
  refine (prun_any w.heap.size _ [] 3 75 ⟨#[97, 64, 98]⟩ _ hn.out (by simp)).mono ?_; rintro e w1 ⟨rfl, ⟨v, hp, hsn⟩, hk⟩
  rw [EK2.out]
  have HP := Lib.hid hp; have HK := Lib.hid hk; have HS := Lib.hid hsn; clear hp hk hsn
  go_wp2_with fail
  refine (pcount_any w.heap.size v _ 3 ⟨#[97, 64, 98]⟩ _ HP.out (by simp)).mono ?_; rintro e w2 ⟨rfl, hk2⟩
  have HP2 := Lib.hid (HP.out.keep hk2 (fun h => h) (fun _ _ h => h)); have HK2 := Lib.hid hk2; clear hk2
  have ec' : ((Cnt 3 ⟨#[97, 64, 98]⟩ ([] ++ [((3 : Int), (⟨#[97, 64, 98]⟩ : ByteArray), (75 : Int))]) : Nat) : Int) = 1 := by simp only [List.nil_append, EC.out]; rfl
  rw [ec']
  clear ec'
  go_wp2_with fail
  refine (pruns_any w.heap.size v _ _ HP2.out (by simp)).mono ?_; rintro e w3 ⟨v', rfl, ho, hk3⟩
  obtain ⟨ao, cap, rfl⟩ := (own_weaken ho).slice
  have HK3 := Lib.hid hk3; clear ho hk3
  go_wp2_with (go_at_call 28; refine (kind_any _ _).mono ?_; rintro e w' ⟨rfl, rfl⟩; first | rw [EK0.out] | rw [EK1.out])
  go_ret
  refine ⟨rfl, ?_⟩
  exact ((((Kp.refl (fun _ => False) w).alloc _).trans_new HK.out (fun k h1 h2 => by
    rcases h2 with h2 | h2
    · omega
    · simp [In, Value.ownBlock] at h2)).trans HK2.out).trans HK3.out

set_option maxHeartbeats 1600000 in
theorem pipeKinds_law {H : Type} {enc : TypeId × Value → H} (W : World) {base : Nat} (v0 v1 v2 : Value) (d0 d1 d2 : DataW H) (p0 p1 p2 : List MemPlace)
    (k0 : Value.okWide Try.prog W .any base 3 v0) (k1 : Value.okWide Try.prog W .any base 3 v1) (k2 : Value.okWide Try.prog W .any base 9 v2)
    (h0 : DataW.Trod enc Try.prog W 0 (fun _ => true) true 3 v0 d0 p0) (h1 : DataW.Trod enc Try.prog W 0 (fun _ => true) true 3 v1 d1 p1) (h2 : DataW.Trod enc Try.prog W 0 (fun _ => true) true 9 v2 d2 p2) :
    Calls Try.prog 8 #[v0, v1, v2] W fun e W' => e = .returned (.bool true) ∧ Below W.heap.size W W' := by
  obtain ⟨c, rfl, rfl, rfl, wc⟩ := open_int Try.underlying3 k0 h0
  obtain ⟨id, rfl, rfl, rfl, _⟩ := open_int Try.underlying3 k1 h1
  obtain ⟨s, rfl, rfl, rfl, hs⟩ := Go.ChangeMaps.open_string Try.underlying9 k2 h2
  clear h0 h1 h2 k0 k1 k2 hs
  have hn := Lib.hid (pipe_new (w := W))
  have ers : Rs [(id, s, c)] = [.int .i64 id, .string s, .int .i64 c] := rfl
  have ER := Lib.hid ers; clear ers
  go_enter Try.func8, Try.ntmps8
  go_wp2_with fail
  refine (prun_any W.heap.size _ [] id c s _ hn.out (by simp)).mono ?_; rintro e w1 ⟨rfl, ⟨v, hp, hsn⟩, hk⟩
  rw [List.nil_append] at hp
  have HP := Lib.hid hp; have HK := Lib.hid (((Kp.refl (fun _ => False) W).alloc (.cells #[.slice none 0 0] 37)).trans_new hk (fun k h1 h2 => by
    rcases h2 with h2 | h2
    · omega
    · simp [In, Value.ownBlock] at h2)); clear hp hk
  have HV := Lib.hid (show ∀ k, v.ownBlock = some k → W.heap.size ≤ k by
    intro k hk
    rcases hsn with h | h
    · rw [h] at hk; simp [Value.ownBlock] at hk
    · have := h k hk; simp at this; omega)
  clear hsn
  go_wp2_with fail
  refine (pruns_any W.heap.size v _ _ HP.out (by simp)).mono ?_; rintro e w2 ⟨l, rfl, hl, hk2⟩
  have hlp := hl.lt
  have HOL := Lib.hid (own_weaken hl); clear hl
  rcases HOL.out.shape with ⟨_, h0, _⟩ | ⟨g, cap, rfl, hcap, _, hg⟩
  · simp at h0
  have hg1 : w1.heap.size ≤ g := (hlp g (by simp [Value.ownBlock])).1
  have hvg : v.ownBlock ≠ some g := by
    intro h
    have := HP.out.row.lt h
    omega
  have hpg : W.heap.size ≠ g := by have := lt_of_block HP.out.head; omega
  have HP2 := Lib.hid (HP.out.keep hk2 (fun h => h) (fun _ _ h => h)); have HK2 := Lib.hid (HK.out.trans hk2); clear hk2 hlp
  have c2 := HOL.out.cell (j := 2) (u := .int .i64 c) (by rw [ER.out]; rfl)
  have f2 := HOL.out.frozen 2
  go_wp2_with fail
  have HK3 := Lib.hid ((Kp.refl (· = g) w2).setCell ⟨g, 2, none⟩ (.int .i64 (wrap64 (c + 1))) (Or.inl rfl))
  have HP3 := Lib.hid (HP2.out.keep HK3.out hpg (fun k hk h => hvg (by rw [hk, h])))
  clear c2 f2
  refine (pruns_any W.heap.size v _ _ HP3.out (by simp)).mono ?_; rintro e w4 ⟨l, rfl, hl, hk4⟩
  have HOM := Lib.hid (own_weaken hl); have HK4 := Lib.hid hk4; clear hl hk4
  rcases HOM.out.shape with ⟨_, h0, _⟩ | ⟨g', cap', rfl, hcap', _, hg'⟩
  · simp at h0
  go_wp2_with fail
  refine (pans_any _).mono ?_; rintro e w5 ⟨rfl, hk5⟩
  have m0 := (hk5.cell 0 hg' (fun h => h)).trans (HOM.out.cell (j := 0) (u := .int .i64 id) (by rw [ER.out]; rfl))
  have m1 := (hk5.cell 1 hg' (fun h => h)).trans (HOM.out.cell (j := 1) (u := .string s) (by rw [ER.out]; rfl))
  have m2 := (hk5.cell 2 hg' (fun h => h)).trans (HOM.out.cell (j := 2) (u := .int .i64 c) (by rw [ER.out]; rfl))
  have HK5 := Lib.hid hk5; clear hk5
  go_wp2_with (first | (go_at_call 28; refine (kind_any _ _).mono ?_; rintro e w' ⟨rfl, rfl⟩) | (go_at_call 25; refine (rkind_any _ _).mono ?_; rintro e w' ⟨rfl, rfl⟩) | (go_at_call 24; refine (pkind_none _ _ _ _).mono ?_; rintro e w' ⟨rfl, rfl⟩) | (go_at_call 26; refine (pruns_none _).mono ?_; rintro e w' ⟨rfl, rfl⟩) | (go_at_call 27; refine (pcount_none _ _ _).mono ?_; rintro e w' ⟨rfl, rfl⟩))
  go_ret
  refine ⟨rfl, Kp.below (S := fun _ => False) ?_ (fun _ _ h => h)⟩
  exact ((HK2.out.trans_new HK3.out (fun k h1 h2 => by
    have h3 : k = g := h2
    have := HK.out.size
    omega)).trans HK4.out).trans HK5.out
end Go.Proofs.Ytihndplkkpglcaa
