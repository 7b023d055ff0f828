/- RingNone: the law returns true for every input. No condition. -/
import Derived.Test.YtlagehhnenbbdaaRing3
import Derived.SizedLaws
import Derived.ChangeMaps5
namespace Go.Proofs.Ytlagehhnenbbdaa
open Go.RowKit Go.ChangeShapes Go.WideShapes Go.Deep

theorem SRd.lit1 {w : World} (x : ByteArray) : SRd (w.alloc (.cells #[.string x] 9)) (some ⟨w.heap.size, 0, none⟩) [x] := by
  intro i hi
  refine ⟨w.heap.size, 0, rfl, by simp, ?_⟩
  rw [cell_of (heap_new _)]
  match i, hi with
  | 0, _ => rfl
set_option maxRecDepth 100000 in
/-- a string that is handed in is no longer than memory reaches -/
theorem str_sized {H : Type} {s : ByteArray} {d : DataW H} (hd : d = .lit (.string s.data.toList)) (hs : ∀ n ∈ d.weights Try.prog 9, n ≤ reachBytes) : s.size ≤ 140737488355328 := by
  subst hd
  have := hs s.data.toList.length (by simp [DataW.weights])
  have hr := reachBytes_lt
  have e : s.data.toList.length = s.size := Array.length_toList
  omega

set_option maxRecDepth 100000 in
set_option maxHeartbeats 800000 in
theorem ringNone_law {H : Type} {enc' : TypeId × Value → H} (W : World) {base : Nat} (v0 v1 : Value) (d0 d1 : DataW H) (p0 p1 : List MemPlace)
    (k0 : Value.okWide Try.prog W .any base 9 v0) (k1 : Value.okWide Try.prog W .any base 22 v1)
    (h0 : DataW.Trod enc' Try.prog W 0 (fun _ => true) true 9 v0 d0 p0) (h1 : DataW.Trod enc' Try.prog W 0 (fun _ => true) true 22 v1 d1 p1)
    (hsz : ∀ (j : Nat) t d, [9, 22][j]? = some t → [d0, d1][j]? = some d → ∀ n ∈ d.weights Try.prog t, n ≤ reachBytes) :
    Calls Try.prog 8 #[v0, v1] W fun e W' => e = .returned (.bool true) ∧ Below W.heap.size W W' := by
  obtain ⟨x, rfl, hd, rfl, _⟩ := Go.ChangeMaps.open_string Try.underlying9 k0 h0
  have hx := str_sized hd (hsz 0 _ _ rfl rfl)
  obtain ⟨ar, n, c, rfl⟩ := okWide_slice Try.underlying22 k1
  clear hsz h0 k0 h1 k1 hd
  have hcat : (Op.stringOp .add x ⟨#[122]⟩).run Try.prog = (Op.stringOp .add x ⟨#[122]⟩).run Try.prog := rfl
  have hxs : x.size + (⟨#[122]⟩ : ByteArray).size ≤ 9223372036854775807 := by
    have : (⟨#[122]⟩ : ByteArray).size = 1 := rfl
    omega
  clear hcat
  go_enter Try.func8, Try.ntmps8
  go_wp2_with fail
  refine (rnext_none ar n c _).mono ?_; rintro e w1 ⟨rfl, hk1⟩
  have HK1 := Lib.hid hk1; clear hk1
  have H0 := Lib.hid (RI.new W w1 HK1.out)
  go_wp2_with fail
  refine (radd_any w1.heap.size _ [] x _ H0.out.rg (by rfl) (by decide)).mono ?_; rintro e w2 ⟨rfl, ⟨v2, hr, hs⟩, hk⟩
  have H2 := Lib.hid (show RI W w2 w1.heap.size v2 [x] from H0.out.next hr hs hk); clear hr hs hk
  go_wp2_with fail
  refine (rnames_any w1.heap.size _ [x] _ H2.out.rg (by simp)).mono ?_; rintro e w3 ⟨v3, rfl, ho, hk3⟩
  obtain ⟨g3, c3, rfl, hg3, _⟩ := own_shape ho (by simp)
  have hc0 : w3.cell? ⟨g3, 0, none⟩ = some (.string x) := (own_weaken ho).cell rfl
  have hf0 : w3.frozen? ⟨g3, 0, none⟩ = false := (own_weaken ho).frozen 0
  have H4 := Lib.hid (H2.out.calm (hk3.trans_new (S := fun _ => False) ((Kp.refl (· = g3) w3).setCell ⟨g3, 0, none⟩ (.string (x ++ ⟨#[122]⟩)) (Or.inl rfl)) (fun k h1 h2 => by have h3 : k = g3 := h2; omega)))
  clear ho hk3 hg3
  go_wp2_with fail
  refine (r21ans_any _).mono ?_; rintro e w5 ⟨rfl, hk5⟩
  have H5 := Lib.hid (H4.out.calm hk5); clear hk5
  go_wp2_with fail
  refine (radd_none x _).mono ?_; rintro e w6 ⟨rfl, rfl⟩
  go_wp2_with fail
  refine (rdrop_none x _).mono ?_; rintro e w7 ⟨rfl, rfl⟩
  go_wp2_with fail
  refine (rnames_none _).mono ?_; rintro e w8 ⟨rfl, rfl⟩
  go_wp2_with fail
  refine (rnames_any w1.heap.size _ [x] _ H5.out.rg (by simp)).mono ?_; rintro e w9 ⟨v9, rfl, ho, hk9⟩
  obtain ⟨a9, c9, rfl⟩ := (own_weaken ho).slice
  have H9 := Lib.hid (H5.out.calm hk9)
  have HS9 := Lib.hid ((SRd.own (own_weaken ho) rfl).keep ((Kp.refl (fun _ => False) w9).alloc (.cells #[.string x] 9)) (fun _ _ _ _ h => h))
  clear ho hk9
  go_wp2_with fail
  refine (texts_same a9 _ c9 1 [x] _ HS9.out (SRd.lit1 x) (by simp)).mono ?_; rintro e w10 ⟨rfl, hk10⟩
  go_wp2_with fail
  go_ret
  exact ⟨rfl, ((H9.out.kp.alloc _).trans hk10).below (fun _ _ h => h)⟩
end Go.Proofs.Ytlagehhnenbbdaa
