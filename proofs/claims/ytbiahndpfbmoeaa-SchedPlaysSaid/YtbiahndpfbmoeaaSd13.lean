/- What cmp.Compare, cmp.Or (of two), least, slices.MinFunc, slices.DeleteFunc do for package sched. Conditions: there are no more recipients than fit into memory. -/
import Derived.Test.YtbiahndpfbmoeaaSd10
import Derived.Lib.SliceRun
namespace Go.Proofs.Ytbiahndpfbmoeaa
open Go.RowKit Go.Maps SatAid Go.MapKept Go.ChangeMaps Go.WideShapes

def Cmp (a b : Int) : Int := if a < b then -1 else if b < a then 1 else 0
theorem cnan_any (a : Int) (w : World) : Calls Try.prog 85 #[.int .i64 a] w fun e w' => e = .returned (.bool false) ∧ w = w' := by
  go_enter Try.func85, Try.ntmps85
  go_wp2
  go_ret
  exact ⟨by simp, rfl⟩
theorem ccmp_any (a b : Int) (w : World) : Calls Try.prog 84 #[.int .i64 a, .int .i64 b] w fun e w' => e = .returned (.int .i64 (Cmp a b)) ∧ w = w' := by
  by_cases h1 : a < b
  · rw [show Cmp a b = -1 by unfold Cmp; rw [if_pos h1]]
    go_enter Try.func84, Try.ntmps84
    go_wp2_with (go_at_call 85; refine (cnan_any _ _).mono ?_; rintro e w' ⟨rfl, rfl⟩)
    go_ret
    exact ⟨rfl, rfl⟩
  · by_cases h2 : b < a
    · rw [show Cmp a b = 1 by unfold Cmp; rw [if_neg h1, if_pos h2]]
      go_enter Try.func84, Try.ntmps84
      go_wp2_with (go_at_call 85; refine (cnan_any _ _).mono ?_; rintro e w' ⟨rfl, rfl⟩)
      go_ret
      exact ⟨rfl, rfl⟩
    · rw [show Cmp a b = 0 by unfold Cmp; rw [if_neg h1, if_neg h2]]
      go_enter Try.func84, Try.ntmps84
      go_wp2_with (go_at_call 85; refine (cnan_any _ _).mono ?_; rintro e w' ⟨rfl, rfl⟩)
      go_ret
      exact ⟨rfl, rfl⟩
def Or2 (a b : Int) : Int := if a ≠ 0 then a else b
theorem cor_any (g : Nat) (a b : Int) (w : World) (h0 : w.cell? ⟨g, 0, none⟩ = some (.int .i64 a)) (h1 : w.cell? ⟨g, 1, none⟩ = some (.int .i64 b)) :
    Calls Try.prog 83 #[.slice (some ⟨g, 0, none⟩) 2 2] w fun e w' => e = .returned (.int .i64 (Or2 a b)) ∧ w = w' := by
  unfold Or2
  by_cases ha : a = 0
  · subst ha
    by_cases hb : b = 0
    · subst hb
      go_enter Try.func83, Try.ntmps83
      go_wp2_with fail
      go_loopg [5, 8] 2 (fun k _ i wr => ∃ j : Nat, k = 2 - j ∧ j ≤ 2 ∧ i = .int .i64 j ∧ wr = w)
      case atStart => exact ⟨0, rfl, by omega, rfl, rfl⟩
      case round =>
        obtain ⟨j, rfl, hj, rfl, rfl⟩ := hrel
        match j, hj with
        | 0, _ =>
          go_wp2_with fail
          go_roundg 1
          case measure => omega
          case rel => exact ⟨1, rfl, by omega, rfl, rfl⟩
        | 1, _ =>
          go_wp2_with fail
          go_roundg 0
          case measure => omega
          case rel => exact ⟨2, rfl, by omega, rfl, rfl⟩
        | 2, _ =>
          go_wp2_with fail
          go_ret
          exact ⟨rfl, rfl⟩
    · go_enter Try.func83, Try.ntmps83
      go_wp2_with fail
      go_loopg [5, 8] 2 (fun k _ i wr => ∃ j : Nat, k = 2 - j ∧ j ≤ 1 ∧ i = .int .i64 j ∧ wr = w)
      case atStart => exact ⟨0, rfl, by omega, rfl, rfl⟩
      case round =>
        obtain ⟨j, rfl, hj, rfl, rfl⟩ := hrel
        match j, hj with
        | 0, _ =>
          go_wp2_with fail
          go_roundg 1
          case measure => omega
          case rel => exact ⟨1, rfl, by omega, rfl, rfl⟩
        | 1, _ =>
          go_wp2_with fail
          go_ret
          exact ⟨by simp, rfl⟩
  · rw [if_pos ha]
    go_enter Try.func83, Try.ntmps83
    go_wp2_with fail
    go_loopg [5, 8] 1 (fun k _ i wr => k = 1 ∧ i = .int .i64 0 ∧ wr = w)
    case atStart => exact ⟨rfl, rfl, rfl⟩
    case round =>
      obtain ⟨rfl, rfl, rfl⟩ := hrel
      go_wp2_with fail
      go_ret
      exact ⟨rfl, rfl⟩
def Le2 (x z : Wt) : Int := Or2 (Cmp x.id z.id) (Cmp x.rc z.rc)
theorem Le2_neg (x z : Wt) : Le2 x z < 0 ↔ (x.id < z.id ∨ x.id = z.id ∧ x.rc < z.rc) := by
  unfold Le2 Or2 Cmp
  repeat' split
  all_goals first | omega | (constructor <;> intro h <;> omega)
theorem sleast_any (x z : Wt) (w : World) (hx : w.heap[x.blk]? = some (.cells (Wc x) 99 (0, 0))) (hz : w.heap[z.blk]? = some (.cells (Wc z) 99 (0, 0))) :
    Calls Try.prog 73 #[.pointer (some ⟨x.blk, 0, none⟩), .pointer (some ⟨z.blk, 0, none⟩)] w fun e w' => e = .returned (.int .i64 (Le2 x z)) ∧ Kp (fun _ => False) w w' := by
  have x0 : w.cell? ⟨x.blk, 0, none⟩ = some (.int .i64 x.id) := (cell_of hx 0).trans rfl
  have x1 : w.cell? ⟨x.blk, 1, none⟩ = some (.int .i64 x.rc) := (cell_of hx 1).trans rfl
  have z0 : w.cell? ⟨z.blk, 0, none⟩ = some (.int .i64 z.id) := (cell_of hz 0).trans rfl
  have z1 : w.cell? ⟨z.blk, 1, none⟩ = some (.int .i64 z.rc) := (cell_of hz 1).trans rfl
  have lx := lt_of_block hx
  have lz := lt_of_block hz
  clear hx hz
  go_enter Try.func73, Try.ntmps73
  go_wp2_with fail
  go_region_held3 (fun w' => w'.cell? ⟨x.blk, 0, none⟩ = some (.int .i64 x.id) ∧ w'.cell? ⟨x.blk, 1, none⟩ = some (.int .i64 x.rc) ∧ w'.cell? ⟨z.blk, 0, none⟩ = some (.int .i64 z.id) ∧ w'.cell? ⟨z.blk, 1, none⟩ = some (.int .i64 z.rc)) (first | exact ⟨(Kp.cell (S := fun _ => False) (w := w) (by repeat (first | exact Kp.refl _ _ | apply Kp.drew | apply Kp.drewN | refine Kp.setCell ?_ _ _ (Or.inr (by simp)) | apply Kp.alloc)) 0 lx (fun h => h)).trans x0, (Kp.cell (S := fun _ => False) (w := w) (by repeat (first | exact Kp.refl _ _ | apply Kp.drew | apply Kp.drewN | refine Kp.setCell ?_ _ _ (Or.inr (by simp)) | apply Kp.alloc)) 1 lx (fun h => h)).trans x1, (Kp.cell (S := fun _ => False) (w := w) (by repeat (first | exact Kp.refl _ _ | apply Kp.drew | apply Kp.drewN | refine Kp.setCell ?_ _ _ (Or.inr (by simp)) | apply Kp.alloc)) 0 lz (fun h => h)).trans z0, (Kp.cell (S := fun _ => False) (w := w) (by repeat (first | exact Kp.refl _ _ | apply Kp.drew | apply Kp.drewN | refine Kp.setCell ?_ _ _ (Or.inr (by simp)) | apply Kp.alloc)) 1 lz (fun h => h)).trans z1⟩)
    (first | (go_at_call 84; refine (ccmp_any _ _ _).mono ?_; rintro e w' ⟨rfl, rfl⟩) | (go_at_call 83; refine (cor_any w.heap.size (Cmp x.id z.id) (Cmp x.rc z.rc) _ (by exact (cell_of (heap_new (w := w) _) 0).trans rfl) (by exact (cell_of (heap_new (w := w) _) 1).trans rfl)).mono ?_; rintro e w' ⟨rfl, rfl⟩))
  go_wp2_with fail
  go_ret
  exact ⟨rfl, (by repeat (first | exact Kp.refl _ _ | apply Kp.drew | apply Kp.drewN | refine Kp.setCell ?_ _ _ (Or.inl rfl) | apply Kp.alloc))⟩
end Go.Proofs.Ytbiahndpfbmoeaa

/- What slices.MinFunc, slices.DeleteFunc do for package sched. Conditions: there are no more recipients than fit into memory. -/
namespace Go.Proofs.Ytbiahndpfbmoeaa
open Go.RowKit Go.Maps SatAid Go.MapKept Go.ChangeMaps Go.WideShapes

theorem Le2_nn (x z : Wt) : 0 ≤ Le2 x z ↔ ¬ (x.id < z.id ∨ x.id = z.id ∧ x.rc < z.rc) := by rw [← Le2_neg]; omega
/-- the recipients lie where they lie -/
def Wb (w : World) (R : List Wt) : Prop := ∀ x ∈ R, w.heap[x.blk]? = some (.cells (Wc x) 99 (0, 0))
theorem Wb.keep {w w' : World} {R : List Wt} {S : Nat → Prop} (h : Wb w R) (hk : Kp S w w') (hs : ∀ x ∈ R, ¬ S x.blk) : Wb w' R := fun x hx => hk.keep (h x hx) (hs x hx)
theorem rp_get {R : List Wt} {j : Nat} {x : Wt} (h : R[j]? = some x) : (Rp R)[j]? = some (.pointer (some ⟨x.blk, 0, none⟩)) := by unfold Rp; rw [List.getElem?_map, h]; rfl
set_option maxRecDepth 100000 in
theorem smin_any (g cap : Nat) (R : List Wt) (w : World) (hc : ∀ j u, (Rp R)[j]? = some u → w.cell? ⟨g, j, none⟩ = some u) (hw : Wb w R) (hR : R ≠ []) (hl : R.length ≤ 1000000) (hg : g < w.heap.size) :
    Calls Try.prog 72 #[.slice (some ⟨g, 0, none⟩) R.length cap, .func (.func 73) #[] #[]] w fun e w' =>
      (∃ m ∈ R, e = .returned (.pointer (some ⟨m.blk, 0, none⟩)) ∧ ∀ z ∈ R, 0 ≤ Le2 z m) ∧ Kp (fun _ => False) w w' := by
  have hpos : 0 < R.length := List.length_pos_iff.2 hR
  obtain ⟨x0, hx0⟩ : ∃ x, R[0]? = some x := ⟨_, List.getElem?_eq_getElem hpos⟩
  have c0 := hc 0 _ (rp_get hx0)
  have q0 : (0 : Int) < (R.length : Int) := by omega
  have q1 : ¬ (R.length : Int) < 1 := by omega
  have HC := Lib.hid hc; have HW := Lib.hid hw; have HX0 := Lib.hid hx0
  clear hc hw hx0 hR
  go_enter Try.func72, Try.ntmps72
  go_wp2_with fail
  go_loopg [5, 6] (R.length - 1) (fun k mv i wr => ∃ (j : Nat) (m : Wt), k = R.length - j ∧ 1 ≤ j ∧ j ≤ R.length ∧ i = .int .i64 j ∧ mv = .pointer (some ⟨m.blk, 0, none⟩) ∧ m ∈ R ∧ (∀ t z, t < j → R[t]? = some z → 0 ≤ Le2 z m) ∧ Kp (fun _ => False) w wr)
  case atStart => exact ⟨1, x0, by omega, by omega, by omega, rfl, rfl, List.mem_of_getElem? HX0.out, fun t z ht hz => by
    obtain rfl : t = 0 := by omega
    rw [HX0.out] at hz
    obtain rfl := Option.some.inj hz
    rw [Le2_nn]; omega, Kp.refl _ _⟩
  case round =>
    obtain ⟨j, m, hk, hj1, hj, rfl, rfl, hm, hmin, hkp⟩ := hrel
    have HKk := Lib.hid hk; have HM := Lib.hid hm; have HMIN := Lib.hid hmin; have HKP := Lib.hid hkp; clear hk hm hmin hkp
    by_cases hlt : j < R.length
    · obtain ⟨x, hx⟩ : ∃ x, R[j]? = some x := ⟨_, List.getElem?_eq_getElem hlt⟩
      have hxm := List.mem_of_getElem? hx
      have cj := (HKP.out.cell j hg (fun h => h)).trans (HC.out j _ (rp_get hx))
      have q2 : (0 : Int) ≤ (j : Int) := by omega
      have q3 : (j : Int) < (R.length : Int) := by omega
      have HX := Lib.hid hx; have HXM := Lib.hid hxm; clear hx hxm
      go_wp2_with fail
      refine (sleast_any x m _ (HKP.out.keep (HW.out x HXM.out) (fun h => h)) (HKP.out.keep (HW.out m HM.out) (fun h => h))).mono ?_; rintro e w1 ⟨rfl, hk1⟩
      have HK1 := Lib.hid (HKP.out.trans hk1)
      have cj1 := (hk1.cell j (Nat.lt_of_lt_of_le hg HKP.out.size) (fun h => h)).trans cj
      clear hk1 cj
      by_cases hle : Le2 x m < 0
      · go_wp2_with fail
        go_roundg (R.length - (j + 1))
        case measure => rw [HKk.out]; omega
        case rel => exact ⟨j + 1, x, rfl, by omega, by omega, by go_num, rfl, HXM.out, fun t z ht hz => by
          rw [Le2_neg] at hle
          rw [Le2_nn]
          by_cases e : t = j
          · subst e; rw [HX.out] at hz; obtain rfl := Option.some.inj hz; omega
          · have := HMIN.out t z (by omega) hz
            rw [Le2_nn] at this
            omega, HK1.out⟩
      · go_wp2_with fail
        go_roundg (R.length - (j + 1))
        case measure => rw [HKk.out]; omega
        case rel => exact ⟨j + 1, m, rfl, by omega, by omega, by go_num, rfl, HM.out, fun t z ht hz => by
          by_cases e : t = j
          · subst e; rw [HX.out] at hz; obtain rfl := Option.some.inj hz; omega
          · exact HMIN.out t z (by omega) hz, HK1.out⟩
    · have HZ := Lib.hid (show (∃ u ∈ R, Ending.returned (.pointer (some ⟨m.blk, 0, none⟩)) = .returned (.pointer (some ⟨u.blk, 0, none⟩)) ∧ ∀ z ∈ R, 0 ≤ Le2 z u) ∧ Kp (fun _ => False) w wr from
        ⟨⟨m, HM.out, rfl, fun z hz => by
          obtain ⟨t, ht⟩ := List.getElem?_of_mem hz
          exact HMIN.out t z (by have := (List.getElem?_eq_some_iff.1 ht).1; omega) ht⟩, HKP.out⟩)
      go_wp2_with fail
      go_ret
      exact HZ.out

/-- the closure: another sender? -/
theorem sother_any (b : Nat) (x : Wt) (a : ByteArray) (w : World) (hb : w.cell? ⟨b, 0, none⟩ = some (.string a)) (hx : w.heap[x.blk]? = some (.cells (Wc x) 99 (0, 0))) :
    Calls Try.prog 71 #[.pointer (some ⟨x.blk, 0, none⟩), .pointer (some ⟨b, 0, none⟩)] w fun e w' => e = .returned (.bool (!decide (x.snd = a))) ∧ Kp (fun _ => False) w w' := by
  have x2 : w.cell? ⟨x.blk, 2, none⟩ = some (.string x.snd) := (cell_of hx 2).trans rfl
  clear hx
  by_cases e : x.snd = a
  · rw [decide_eq_true e]
    rw [e] at x2
    clear e
    go_enter Try.func71, Try.ntmps71
    go_wp2_with fail
    go_quiet (fail)
    go_wp2_with fail
    go_ret
    exact ⟨by simp, (by repeat (first | exact Kp.refl _ _ | apply Kp.drew | apply Kp.drewN | refine Kp.setCell ?_ _ _ (Or.inl rfl) | apply Kp.alloc))⟩
  · rw [decide_eq_false e]
    have h3 : (x.snd.toList == a.toList) = false := by rw [beq_eq_false_iff_ne]; exact toList_ne e
    have h4 : ¬ x.snd.toList = a.toList := toList_ne e
    clear e
    go_enter Try.func71, Try.ntmps71
    go_wp2_with fail
    go_quiet (fail)
    go_wp2_with fail
    go_ret
    exact ⟨by simp, (by repeat (first | exact Kp.refl _ _ | apply Kp.drew | apply Kp.drewN | refine Kp.setCell ?_ _ _ (Or.inl rfl) | apply Kp.alloc))⟩
end Go.Proofs.Ytbiahndpfbmoeaa

/- What slices.IndexFunc, slices.DeleteFunc do for package sched. Conditions: there are no more recipients than fit into memory. -/
namespace Go.Proofs.Ytbiahndpfbmoeaa
open Go.RowKit Go.Maps SatAid Go.MapKept Go.ChangeMaps Go.WideShapes

theorem sindexf_any (g cap b : Nat) (R : List Wt) (a : ByteArray) (w : World) (hc : ∀ j u, (Rp R)[j]? = some u → w.cell? ⟨g, j, none⟩ = some u) (hw : Wb w R) (hb : w.cell? ⟨b, 0, none⟩ = some (.string a)) (hl : R.length ≤ 1000000) (hg : g < w.heap.size) (hbl : b < w.heap.size) :
    Calls Try.prog 82 #[.slice (some ⟨g, 0, none⟩) R.length cap, .func (Fn.func 71) #[] #[.pointer (some ⟨b, 0, none⟩)]] w fun e w' =>
      ((∃ (i : Nat) (x : Wt), R[i]? = some x ∧ x.snd ≠ a ∧ (∀ (t : Nat) (z : Wt), t < i → R[t]? = some z → z.snd = a) ∧ e = .returned (.int .i64 i)) ∨ ((∀ z ∈ R, z.snd = a) ∧ e = .returned (.int .i64 (-1)))) ∧ Kp (fun _ => False) w w' := by
  have HC := Lib.hid hc; have HW := Lib.hid hw; have HB := Lib.hid hb; clear hc hw hb
  go_enter Try.func82, Try.ntmps82
  go_wp2_with fail
  go_loopg [5, 8] R.length (fun k _ i wr => ∃ j : Nat, k = R.length - j ∧ j ≤ R.length ∧ i = .int .i64 j ∧ (∀ (t : Nat) (z : Wt), t < j → R[t]? = some z → z.snd = a) ∧ Kp (fun _ => False) w wr)
  case atStart => exact ⟨0, rfl, Nat.zero_le _, rfl, fun t z ht => absurd ht (Nat.not_lt_zero _), Kp.refl _ _⟩
  case round =>
    obtain ⟨j, hk, hj, rfl, hn, hkp⟩ := hrel
    have HKk := Lib.hid hk; have HN := Lib.hid hn; have HKP := Lib.hid hkp; clear hk hn hkp
    by_cases hlt : j < R.length
    · obtain ⟨x, hx⟩ : ∃ x, R[j]? = some x := ⟨_, List.getElem?_eq_getElem hlt⟩
      have cj := (HKP.out.cell j hg (fun h => h)).trans (HC.out j _ (rp_get hx))
      have q2 : (0 : Int) ≤ (j : Int) := by omega
      have q3 : (j : Int) < (R.length : Int) := by omega
      have HX := Lib.hid hx; have HXM := Lib.hid (List.mem_of_getElem? hx); clear hx
      go_wp2_with fail
      refine (sother_any b x a _ ((HKP.out.cell 0 hbl (fun h => h)).trans HB.out) (HKP.out.keep (HW.out x HXM.out) (fun h => h))).mono ?_; rintro e w1 ⟨rfl, hk1⟩
      have HK1 := Lib.hid (HKP.out.trans hk1); clear hk1 cj
      by_cases hs : x.snd = a
      · rw [decide_eq_true hs]
        have HS := Lib.hid hs; clear hs
        go_wp2_with fail
        go_roundg (R.length - (j + 1))
        case measure => rw [HKk.out]; omega
        case rel => exact ⟨j + 1, rfl, by omega, by go_num, fun t z ht hz => by
          by_cases e : t = j
          · subst e; rw [HX.out] at hz; obtain rfl := Option.some.inj hz; exact HS.out
          · exact HN.out t z (by omega) hz, HK1.out⟩
      · rw [decide_eq_false hs]
        have HS := Lib.hid hs; clear hs
        go_wp2_with fail
        go_ret
        exact ⟨Or.inl ⟨j, x, HX.out, HS.out, HN.out, rfl⟩, HK1.out⟩
    · have HALL := Lib.hid (show ∀ z ∈ R, z.snd = a from fun z hz => by
        obtain ⟨t, ht⟩ := List.getElem?_of_mem hz
        exact HN.out t z (by have := (List.getElem?_eq_some_iff.1 ht).1; omega) ht)
      go_wp2_with fail
      go_ret
      exact ⟨Or.inr ⟨HALL.out, rfl⟩, HKP.out⟩

def kp (a : ByteArray) (x : Wt) : Bool := decide (x.snd = a)
/-- the row while it is gone through: F t is what lies at t -/
structure Df (w : World) (g : Nat) (R : List Wt) (a : ByteArray) (i j : Nat) (F : Nat → Nat) : Prop where
  ci : ∀ t, t < R.length → w.cell? ⟨g, t, none⟩ = some (.pointer (some ⟨F t, 0, none⟩)) ∧ w.frozen? ⟨g, t, none⟩ = false
  ii : i = ((R.take j).filter (kp a)).length
  ij : i < j
  lo : ∀ t x, ((R.take j).filter (kp a))[t]? = some x → F t = x.blk
  hi : ∀ t x, j ≤ t → R[t]? = some x → F t = x.blk
theorem take_succ_get {R : List Wt} {j : Nat} {x : Wt} (h : R[j]? = some x) : R.take (j + 1) = R.take j ++ [x] := by
  rw [List.take_add_one, h]; rfl
theorem Df.skip {w : World} {g : Nat} {R : List Wt} {a : ByteArray} {i j : Nat} {F : Nat → Nat} {x : Wt} (h : Df w g R a i j F) (hx : R[j]? = some x) (hs : x.snd ≠ a) : Df w g R a i (j + 1) F := by
  have e : (R.take (j + 1)).filter (kp a) = (R.take j).filter (kp a) := by
    rw [take_succ_get hx, List.filter_append, List.filter_cons, if_neg (by simp [kp, hs])]; simp
  exact ⟨h.ci, by rw [e]; exact h.ii, Nat.lt_succ_of_lt h.ij, by rw [e]; exact h.lo, fun t y ht hy => h.hi t y (by omega) hy⟩
theorem Df.put {w : World} {g : Nat} {R : List Wt} {a : ByteArray} {i j : Nat} {F : Nat → Nat} {x : Wt} (h : Df w g R a i j F) (hx : R[j]? = some x) (hs : x.snd = a) : Df (w.setCell ⟨g, i, none⟩ (.pointer (some ⟨x.blk, 0, none⟩))) g R a (i + 1) (j + 1) (fun t => if t = i then x.blk else F t) := by
  have hj := (List.getElem?_eq_some_iff.1 hx).1
  have e : (R.take (j + 1)).filter (kp a) = (R.take j).filter (kp a) ++ [x] := by
    rw [take_succ_get hx, List.filter_append, List.filter_cons, if_pos (by simp [kp, hs])]; rfl
  have hij := h.ij
  refine ⟨fun t ht => ?_, by rw [e, List.length_append, ← h.ii]; rfl, by omega, fun t y ht => ?_, fun t y ht hy => ?_⟩
  · obtain ⟨c1, f1⟩ := h.ci t ht
    refine ⟨?_, by rw [World.frozen?_setCell]; exact f1⟩
    by_cases et : t = i
    · subst et
      simp only [if_true]
      exact World.cell?_setCell_same _ _ _ c1
    · simp only [if_neg et]
      rw [World.cell?_setCell_other _ _ _ _ (by intro e2; injection e2 with _ e3; exact et e3.symm)]
      exact c1
  · rw [e] at ht
    by_cases et : t = i
    · subst et
      rw [List.getElem?_append_right (by rw [← h.ii]; exact Nat.le_refl _), ← h.ii, Nat.sub_self] at ht
      simp only [List.getElem?_cons_zero, Option.some.injEq] at ht
      simp only [if_true, ht]
    · have hlt : t < ((R.take j).filter (kp a)).length := by
        have h1 := (List.getElem?_eq_some_iff.1 ht).1
        rw [List.length_append, ← h.ii] at h1
        rw [← h.ii]
        simp at h1
        omega
      rw [List.getElem?_append_left hlt] at ht
      simp only [if_neg et]
      exact h.lo t y ht
  · simp only [if_neg (show ¬ t = i by omega)]
    exact h.hi t y (by omega) hy
theorem df_start {w : World} {g cap : Nat} {R : List Wt} {a : ByteArray} {i : Nat} {x : Wt} (ho : Own w 96 1 (.slice (some ⟨g, 0, none⟩) R.length cap) R.length (Rp R)) (hx : R[i]? = some x) (hs : x.snd ≠ a) (hb : ∀ t z, t < i → R[t]? = some z → z.snd = a) :
    Df w g R a i (i + 1) (fun t => match R[t]? with | some z => z.blk | none => 0) := by
  have hi := (List.getElem?_eq_some_iff.1 hx).1
  have h1 : (R.take i).filter (kp a) = R.take i := by
    rw [List.filter_eq_self]
    intro z hz
    obtain ⟨t, ht⟩ := List.getElem?_of_mem hz
    have hti : t < i := by have := (List.getElem?_eq_some_iff.1 ht).1; rw [List.length_take] at this; omega
    rw [List.getElem?_take, if_pos hti] at ht
    simp [kp, hb t z hti ht]
  have e : (R.take (i + 1)).filter (kp a) = R.take i := by
    rw [take_succ_get hx, List.filter_append, h1, List.filter_cons, if_neg (by simp [kp, hs])]; simp
  refine ⟨fun t ht => ?_, by rw [e, List.length_take]; omega, by omega, fun t y hy => ?_, fun t y _ hy => by simp only [hy]⟩
  · obtain ⟨z, hz⟩ : ∃ z, R[t]? = some z := ⟨_, List.getElem?_eq_getElem ht⟩
    simp only [hz]
    exact ⟨ho.cell (rp_get hz), ho.frozen t⟩
  · rw [e, List.getElem?_take] at hy
    split at hy
    · simp only [hy]
    · cases hy
theorem kp_setCells {w : World} {g : Nat} (vs : List Value) (o : Nat) : Kp (· = g) w (w.setCells g o vs) := by
  induction vs generalizing o w with
  | nil => exact Kp.refl _ _
  | cons v r ih => exact ((Kp.refl (· = g) w).setCell ⟨g, o, none⟩ v (Or.inl rfl)).trans (ih (o + 1))
def Sdf (g cap : Nat) (R : List Wt) (a : ByteArray) (w : World) (e : Ending) (w' : World) : Prop :=
  e = .returned (.slice (some ⟨g, 0, none⟩) (R.filter (kp a)).length cap) ∧ (∀ t u, (Rp (R.filter (kp a)))[t]? = some u → w'.cell? ⟨g, t, none⟩ = some u) ∧ Kp (· = g) w w'
theorem wt_zero (w : World) : (zeroValue 96).run Try.prog w = .ok (.pointer none) w := by kernel_rfl
set_option maxRecDepth 100000 in
set_option maxHeartbeats 1600000 in
theorem sdelf_any (g cap b : Nat) (R : List Wt) (a : ByteArray) (w : World) (ho : Own w 96 1 (.slice (some ⟨g, 0, none⟩) R.length cap) R.length (Rp R)) (hw : Wb w R) (hb : w.cell? ⟨b, 0, none⟩ = some (.string a)) (hl : R.length ≤ 1000000) (hbl : b < w.heap.size) (hne : ∀ x ∈ R, x.blk ≠ g) (hbg : b ≠ g) (hcap : R.length ≤ cap) :
    Calls Try.prog 70 #[.slice (some ⟨g, 0, none⟩) R.length cap, .func (Fn.func 71) #[] #[.pointer (some ⟨b, 0, none⟩)]] w (Sdf g cap R a w) := by
  have hg : g < w.heap.size := ho.lt (by simp [Value.ownBlock])
  have HO := Lib.hid ho; have HW := Lib.hid hw; have HB := Lib.hid hb; have HNE := Lib.hid hne; clear ho hw hb hne
  go_enter Try.func70, Try.ntmps70
  go_wp2_with fail
  refine (sindexf_any g cap b R a _ (fun j u hu => HO.out.cell hu) HW.out HB.out hl hg hbl).mono ?_
  rintro e w1 ⟨h | ⟨hall, rfl⟩, hk1⟩
  · obtain ⟨i, x, hx, hs, hbf, rfl⟩ := h
    have hi := (List.getElem?_eq_some_iff.1 hx).1
    have HD := Lib.hid (df_start (HO.out.keep hk1 (fun _ _ h => h)) hx hs hbf)
    have HK1 := Lib.hid hk1; clear hk1 hx hs hbf
    have hm1 : ¬ (i : Int) = -1 := by omega
    go_wp2_with fail
    go_loopg [5, 6, 7] (R.length - (i + 1)) (fun k vi vj _ wr => ∃ (q j : Nat) (F : Nat → Nat), k = R.length - j ∧ j ≤ R.length ∧ vi = .int .i64 q ∧ vj = .int .i64 j ∧ Df wr g R a q j F ∧ Kp (· = g) w wr)
    case atStart => exact ⟨i, i + 1, _, rfl, by omega, rfl, by go_num, HD.out, HK1.out.mono (fun _ _ h => h.elim)⟩
    case round =>
      obtain ⟨q, j, F, hk, hj, rfl, rfl, hd, hkp⟩ := hrel
      have HKk := Lib.hid hk; have HDD := Lib.hid hd; have HKP := Lib.hid hkp
      have hqj := hd.ij
      have q2 : (0 : Int) ≤ (j : Int) := by omega
      have q4 : (0 : Int) ≤ (q : Int) := by omega
      clear hk hd hkp
      by_cases hlt : j < R.length
      · obtain ⟨z, hz⟩ : ∃ z, R[j]? = some z := ⟨_, List.getElem?_eq_getElem hlt⟩
        have cj := (HDD.out.ci j hlt).1
        rw [HDD.out.hi j z (Nat.le_refl _) hz] at cj
        have q3 : (j : Int) < (R.length : Int) := by omega
        have q5 : (q : Int) < (R.length : Int) := by omega
        have HZ := Lib.hid hz; have HZM := Lib.hid (List.mem_of_getElem? hz); clear hz
        go_wp2_with fail
        refine (sother_any b z a _ ((HKP.out.cell 0 hbl hbg).trans HB.out) (HKP.out.keep (HW.out z HZM.out) (HNE.out z HZM.out))).mono ?_; rintro e w2 ⟨rfl, hk2⟩
        have HD2 := Lib.hid (show Df w2 g R a q j F from ⟨fun t ht => by
          obtain ⟨c1, f1⟩ := HDD.out.ci t ht
          exact ⟨(hk2.cell t (Nat.lt_of_lt_of_le hg HKP.out.size) (fun h => h)).trans c1, (hk2.frozen t (Nat.lt_of_lt_of_le hg HKP.out.size) (fun h => h)).trans f1⟩, HDD.out.ii, HDD.out.ij, HDD.out.lo, HDD.out.hi⟩)
        have HK2 := Lib.hid (HKP.out.trans (hk2.mono (fun _ _ h => h.elim))); clear hk2 cj
        by_cases hs : z.snd = a
        · rw [decide_eq_true hs]
          obtain ⟨cq, fq⟩ := HD2.out.ci q (by omega)
          have HS := Lib.hid hs; clear hs
          go_wp2_with fail
          go_roundg (R.length - (j + 1))
          case measure => rw [HKk.out]; omega
          case rel => exact ⟨q + 1, j + 1, _, rfl, by omega, by go_num, by go_num, HD2.out.put HZ.out HS.out, HK2.out.setCell _ _ (Or.inl rfl)⟩
        · rw [decide_eq_false hs]
          have HS := Lib.hid hs; clear hs
          go_wp2_with fail
          go_roundg (R.length - (j + 1))
          case measure => rw [HKk.out]; omega
          case rel => exact ⟨q, j + 1, F, rfl, by omega, rfl, by go_num, HD2.out.skip HZ.out HS.out, HK2.out⟩
      · have hjl : j = R.length := by omega
        subst hjl
        have hfl : R.take R.length = R := List.take_length
        have hq : q = (R.filter (kp a)).length := by have := HDD.out.ii; rw [hfl] at this; exact this
        have q3 : (q : Int) ≤ (R.length : Int) := by omega
        have q5 : (q : Int) ≤ (cap : Int) := by omega
        have q6 : (R.length : Int) ≤ (cap : Int) := by omega
        have q7 : ¬ cap = q := by omega
        have hcl := fun ty => Lib.run_clear_slice (P := Try.prog) wr 131 96 ty (.pointer none) Try.underlying131 wt_zero rfl rfl g q (R.length - q) (cap - q) (by omega) (fun t ht => by rw [(HDD.out.ci (q + t) (by omega)).1]; rfl) (fun t ht => (HDD.out.ci (q + t) (by omega)).2)
        have HZZ := Lib.hid (show Sdf g cap R a w (.returned (.slice (some ⟨g, 0, none⟩) q cap)) (wr.setCells g q (List.replicate (R.length - q) (.pointer none))) from by
          refine ⟨by rw [hq], fun t u hu => ?_, HKP.out.trans (kp_setCells _ _)⟩
          have ht := (List.getElem?_eq_some_iff.1 hu).1
          rw [Rp_len, Nat.mul_one] at ht
          obtain ⟨y, hy⟩ : ∃ y, (R.filter (kp a))[t]? = some y := ⟨_, List.getElem?_eq_getElem ht⟩
          rw [rp_get hy] at hu
          obtain rfl := Option.some.inj hu
          rw [World.cell?_setCells_out g _ _ _ _ (fun _ _ => Or.inl (by show t < q; omega))]
          have hF := HDD.out.lo t y (by rw [hfl]; exact hy)
          rw [← hF]
          exact (HDD.out.ci t (by omega)).1)
        clear hfl hq
        go_wp2_with fail
        go_ret
        exact HZZ.out
  · have HF := Lib.hid (show R.filter (kp a) = R by rw [List.filter_eq_self]; intro z hz; simp [kp, hall z hz])
    have HK1 := Lib.hid hk1; clear hk1 hall
    go_wp2_with fail
    go_ret
    exact ⟨by rw [HF.out]; rfl, fun t u hu => by rw [HF.out] at hu; exact (HK1.out.cell t hg (fun h => h)).trans (HO.out.cell hu), HK1.out.mono (fun _ _ h => h.elim)⟩
end Go.Proofs.Ytbiahndpfbmoeaa
