/- SchedNone: the law returns true for every input. No condition. -/
import Derived.Test.YtbiahndpfbmoeaaSdOp
import Derived.ProofKit
namespace Go.Proofs.Ytbiahndpfbmoeaa
open Go.RowKit Go.ChangeShapes Go.WideShapes

def OpB (w : World) (b : Nat) (id rc nx : Int) (sn dm : ByteArray) (g st : Bool) : Prop :=
  w.cell? ⟨b, 1, none⟩ = some (.int .i64 id) ∧ w.cell? ⟨b, 2, none⟩ = some (.int .i64 rc) ∧ w.cell? ⟨b, 3, none⟩ = some (.int .i64 nx) ∧ w.cell? ⟨b, 4, none⟩ = some (.string sn) ∧ w.cell? ⟨b, 5, none⟩ = some (.string dm) ∧ w.cell? ⟨b, 6, none⟩ = some (.bool g) ∧ w.cell? ⟨b, 7, none⟩ = some (.bool st) ∧ b < w.heap.size
theorem OpB.keep {w w' : World} {b : Nat} {id rc nx : Int} {sn dm : ByteArray} {g st : Bool} (h : OpB w b id rc nx sn dm g st) (hk : Kp (fun _ => False) w w') : OpB w' b id rc nx sn dm g st := by
  obtain ⟨h1, h2, h3, h4, h5, h6, h7, h8⟩ := h
  have e := fun i => hk.cell i h8 (fun h => h)
  exact ⟨(e 1).trans h1, (e 2).trans h2, (e 3).trans h3, (e 4).trans h4, (e 5).trans h5, (e 6).trans h6, (e 7).trans h7, Nat.lt_of_lt_of_le h8 hk.size⟩
theorem OpB.made (w : World) (k id rc nx : Int) (sn dm : ByteArray) (g st : Bool) : OpB (w.alloc (.cells #[.int .i64 k, .int .i64 id, .int .i64 rc, .int .i64 nx, .string sn, .string dm, .bool g, .bool st] 58)) w.heap.size id rc nx sn dm g st := by
  have h := heap_new (w := w) (.cells #[.int .i64 k, .int .i64 id, .int .i64 rc, .int .i64 nx, .string sn, .string dm, .bool g, .bool st] 58)
  have c := fun i => cell_of h i
  exact ⟨(c 1).trans rfl, (c 2).trans rfl, (c 3).trans rfl, (c 4).trans rfl, (c 5).trans rfl, (c 6).trans rfl, (c 7).trans rfl, lt_of_block h⟩
set_option maxRecDepth 100000 in
theorem schedNone_law {H : Type} {enc : TypeId × Value → H} (W : World) {base : Nat} (v0 : Value) (d0 : DataW H) (p0 : List MemPlace)
    (k0 : Value.okWide Try.prog W .any base 58 v0) (h0 : DataW.Trod enc Try.prog W 0 (fun _ => true) true 58 v0 d0 p0) :
    Calls Try.prog 9 #[v0] W fun e W' => e = .returned (.bool true) ∧ Below W.heap.size W W' := by
  obtain ⟨⟨k, id, rc, nx, sn, dm, g, st⟩, rfl, _⟩ := open_sop k0 h0
  clear h0 k0
  go_enter Try.func9, Try.ntmps9
  unfold So
  go_wp2_with fail
  have HOP := Lib.hid (OpB.made W k id rc nx sn dm g st)
  have HK := Lib.hid (show Kp (fun _ => False) W (W.alloc (.cells #[.int .i64 k, .int .i64 id, .int .i64 rc, .int .i64 nx, .string sn, .string dm, .bool g, .bool st] 58)) from (by repeat (first | exact Kp.refl _ _ | apply Kp.drew | apply Kp.drewN | refine Kp.setCell ?_ _ _ (Or.inl rfl) | apply Kp.alloc)))
  obtain ⟨b, hb⟩ : ∃ b, b = W.heap.size := ⟨_, rfl⟩
  rw [← hb] at HOP ⊢
  clear hb
  refine (spick_none nx _).mono ?_; rintro e w1 ⟨rfl, hk1⟩
  have hk1 := hk1.alloc (.cells #[.int .i64 0, .int .i64 0, .string ByteArray.empty] 66)
  have HOP1 := Lib.hid (HOP.out.keep hk1); have HK1 := Lib.hid (HK.out.trans hk1)
  obtain ⟨c1, _, c3, _, _, c6, c7, _⟩ := HOP1.out
  clear hk1
  unfold z3
  go_wp2_with fail
  refine (send_none id nx g st _).mono ?_; rintro e w2 ⟨rfl, hk2⟩
  have hk2 := hk2.alloc (.cells #[.int .i64 0, .int .i64 0, .string ByteArray.empty] 66)
  have HOP2 := Lib.hid (HOP1.out.keep hk2); have HK2 := Lib.hid (HK1.out.trans hk2)
  clear hk2 c1 c3 c6 c7
  obtain ⟨_, _, _, _, c5, _, _, _⟩ := HOP2.out
  unfold z3
  go_wp2_with fail
  refine (swindow_none dm _).mono ?_; rintro e w3 ⟨rfl, rfl⟩
  go_wp2_with fail
  refine (r22ans_any _).mono ?_; rintro e w4 ⟨rfl, hk4⟩
  have HOP4 := Lib.hid (HOP2.out.keep hk4); have HK4 := Lib.hid (HK2.out.trans hk4)
  clear hk4 c5
  obtain ⟨c1, c2, c3, c4, c5, _, _, _⟩ := HOP4.out
  go_wp2_with fail
  refine (sput_none id rc nx sn dm _).mono ?_; rintro e w5 ⟨rfl, rfl⟩
  go_wp2_with fail
  refine (sdrop_none id rc _).mono ?_; rintro e w6 ⟨rfl, rfl⟩
  go_wp2_with fail
  refine (sgoing_none _).mono ?_; rintro e w7 ⟨rfl, rfl⟩
  go_wp2_with fail
  refine (sleft_none dm nx _).mono ?_; rintro e w8 ⟨rfl, rfl⟩
  go_wp2_with fail
  refine (slen_none _).mono ?_; rintro e w9 ⟨rfl, rfl⟩
  go_wp2_with fail
  refine (ssenders_none true _).mono ?_; rintro e w10 ⟨rfl, rfl⟩
  go_wp2_with fail
  go_ret
  exact ⟨rfl, HK4.out.below (fun _ _ h => h)⟩
end Go.Proofs.Ytbiahndpfbmoeaa
