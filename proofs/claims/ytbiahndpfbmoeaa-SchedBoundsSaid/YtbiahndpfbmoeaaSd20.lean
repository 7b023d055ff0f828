/- What a scheduler's Going does. Condition: there are no more recipients than fit into memory. -/
import Derived.Test.YtbiahndpfbmoeaaSd19
import Derived.Test.YtbiahndpfbmoeaaRefRing2
namespace Go.Proofs.Ytbiahndpfbmoeaa
open Go.RowKit Go.Maps SatAid Go.MapKept Go.ChangeMaps Go.WideShapes

theorem st_info : (Try.prog.info? 66).map (fun i => (i.zero, i.size, i.bytes)) = some (some (.agg #[.int .i64 0, .int .i64 0, .string ByteArray.empty]), 3, 32) := by kernel_rfl
theorem three_cells {k : IntKind} {a b : Int} {d : ByteArray} : ∀ u ∈ [Value.int k a, .int k b, .string d], u.oneCell' = true := by intro u hu; simp at hu; rcases hu with rfl | rfl | rfl <;> rfl
/-- a start as cells -/
def Stc (T : List (Int × Int × ByteArray)) : List Value := T.flatMap fun t => [.int .i64 t.1, .int .i64 t.2.1, .string t.2.2]
theorem Stc_len (T : List (Int × Int × ByteArray)) : (Stc T).length = T.length * 3 := by
  induction T with
  | nil => rfl
  | cons x r ih => unfold Stc at *; rw [List.flatMap_cons, List.length_append, ih]; simp; omega
theorem Stc_app (S T : List (Int × Int × ByteArray)) : Stc (S ++ T) = Stc S ++ Stc T := by unfold Stc; rw [List.flatMap_append]
theorem Stc_get {S : List (Int × Int × ByteArray)} {i : Nat} {x : Int × Int × ByteArray} (h : S[i]? = some x) : (Stc S)[i * 3]? = some (.int .i64 x.1) ∧ (Stc S)[i * 3 + 1]? = some (.int .i64 x.2.1) ∧ (Stc S)[i * 3 + 2]? = some (.string x.2.2) := by
  induction S generalizing i with
  | nil => simp at h
  | cons y r ih =>
    have e : Stc (y :: r) = .int .i64 y.1 :: .int .i64 y.2.1 :: .string y.2.2 :: Stc r := rfl
    rw [e]
    cases i with
    | zero => simp at h; subst h; exact ⟨rfl, rfl, rfl⟩
    | succ i =>
      have h' : r[i]? = some x := by simpa using h
      have e1 : (i + 1) * 3 = i * 3 + 1 + 1 + 1 := by omega
      rw [e1]
      simp only [List.getElem?_cons_succ]
      exact ih h'
/-- the domain of a key -/
def dmA (W : List Wx) (k : Int × Int) : ByteArray := match W.find? (fun x => decide ((x.id, x.rc) = k)) with | some x => x.dom | none => ByteArray.empty
def aStarts (A : Ab) : List (Int × Int × ByteArray) := A.G.map fun k => (k.1, k.2, dmA A.W k)
theorem SIn.dm {w : World} {p N : Nat} {s : Sd} (h : SIn w p s N) {x : Wt} (hx : x ∈ s.Ws) : dmA (ab s).W (x.id, x.rc) = x.dom := by
  unfold dmA
  cases hf : (ab s).W.find? (fun z => decide ((z.id, z.rc) = (x.id, x.rc))) with
  | none =>
    rw [List.find?_eq_none] at hf
    exact absurd (by simp [wx]) (hf (wx x) (List.mem_map.2 ⟨x, hx, rfl⟩))
  | some z =>
    obtain ⟨z', hz', rfl⟩ := List.mem_map.1 (List.mem_of_find?_eq_some hf)
    have e := List.find?_some hf
    simp only [decide_eq_true_eq] at e
    rw [h.key_eq hz' hx e]
    rfl
theorem sgoing_none (w : World) : Calls Try.prog 36 #[.pointer none] w fun e w' => e = .returned (.slice none 0 0) ∧ w = w' := by
  go_enter Try.func36, Try.ntmps36
  go_wp2
  go_ret
  exact ⟨rfl, rfl⟩
set_option maxRecDepth 100000 in
set_option maxHeartbeats 3200000 in
theorem sgoing_any (p N : Nat) (s : Sd) (w : World) (h : SIn w p s N) (hN : N ≤ 1000000) :
    Calls Try.prog 36 #[.pointer (some ⟨p, 0, none⟩)] w (Cloned 66 3 s.G.length (Stc (aStarts (ab s))) w) := by
  have c15 : w.cell? ⟨p, 15, none⟩ = some s.vg := (cell_of h.head 15).trans rfl
  have hgl : s.G.length ≤ N := Nat.le_trans h.glen h.lw
  obtain ⟨i0, hi, hz0, hz1, hz2⟩ := info_parts st_info
  obtain ⟨vo, vc, hvg⟩ := h.gng.slice
  rw [hvg] at c15
  have hgng := h.gng
  rw [hvg] at hgng
  have hsh : 0 < s.G.length → ∃ g, vo = some ⟨g, 0, none⟩ ∧ g < w.heap.size ∧ ∀ j u, (Gc s.G)[j]? = some u → w.cell? ⟨g, j, none⟩ = some u := fun hp => by
    obtain ⟨g, cap, e, _, hlt⟩ := own_shape hgng hp
    simp only [Value.slice.injEq] at e
    obtain ⟨rfl, _, rfl⟩ := e
    exact ⟨g, rfl, hlt, fun j u hu => hgng.cell hu⟩
  have H := Lib.hid h; have HSH := Lib.hid hsh
  clear h hsh hgng hvg
  go_enter Try.func36, Try.ntmps36
  go_wp2_with fail
  go_loopg [3, 5, 13] s.G.length (fun k v _ i wr => ∃ j : Nat, k = s.G.length - j ∧ j ≤ s.G.length ∧ i = .int .i64 j ∧ wr.ownsRow w.heap.size 66 3 v j (Stc ((aStarts (ab s)).take j)) ∧ Kp (fun _ => False) w wr)
  case atStart => exact ⟨0, rfl, by omega, rfl, World.ownsRow_nil _ _ _ _, (by repeat (first | exact Kp.refl _ _ | apply Kp.drew | apply Kp.drewN | refine Kp.setCell ?_ _ _ (Or.inl rfl) | apply Kp.alloc))⟩
  case round =>
    obtain ⟨j, hk, hj, rfl, ho, hkp⟩ := hrel
    by_cases hlt : j < s.G.length
    · obtain ⟨g, rfl, hg, hgc⟩ := HSH.out (by omega)
      obtain ⟨x, hx, hxk, hgo⟩ := H.out.gin _ (List.getElem_mem hlt)
      have hG := List.getElem?_eq_getElem hlt
      rw [← hxk] at hG
      obtain ⟨u1, u2⟩ := Gc_get hG
      have k0 : wr.cell? ⟨g, j * 2, none⟩ = some (.int .i64 x.id) := (hkp.cell _ hg (fun h => h)).trans (hgc _ _ u1)
      have k1 : wr.cell? ⟨g, j * 2 + 1, none⟩ = some (.int .i64 x.rc) := (hkp.cell _ hg (fun h => h)).trans (hgc _ _ u2)
      have e1 : (0 : Int) + (j : Int) * 2 = ((j * 2 : Nat) : Int) := by omega
      have q2 : (0 : Int) ≤ (j : Int) := by omega
      have q3 : (j : Int) < (s.G.length : Int) := by omega
      have hwr : IntKind.i64.wrap ((j : Int) + 1) = ((j + 1 : Nat) : Int) := by rw [IntWalk.i64_in _ (by omega)]; omega
      have hsi := H.out.keep hkp (fun _ _ h => h)
      have HK := Lib.hid hk; have HO := Lib.hid ho; have HKP := Lib.hid hkp; have HX := Lib.hid hx; have HSI := Lib.hid hsi
      have HGJ := Lib.hid hG
      have c13 : wr.cell? ⟨p, 12, none⟩ = some (.map (some s.bm)) := (cell_of hsi.head 12).trans rfl
      clear hk ho hkp hx hsi hgc u1 u2 hG hgo hxk
      go_wp2_with fail
      obtain ⟨w2, hw2⟩ : ∃ w2, w2 = wr.alloc (.cells #[.int .i64 x.id, .int .i64 x.rc] 95) := ⟨_, rfl⟩
      have hk2 : Kp (fun _ => False) wr w2 := by rw [hw2]; exact (by repeat (first | exact Kp.refl _ _ | apply Kp.drew | apply Kp.drewN | refine Kp.setCell ?_ _ _ (Or.inl rfl) | apply Kp.alloc))
      have hkb : w2.heap[wr.heap.size]? = some (.cells #[.int .i64 x.id, .int .i64 x.rc] 95 (0, 0)) := by rw [hw2]; exact heap_new _
      rw [← hw2]
      have b0 : w2.cell? ⟨wr.heap.size, 0, none⟩ = some (.int .i64 x.id) := (cell_of hkb 0).trans rfl
      have b1 : w2.cell? ⟨wr.heap.size, 1, none⟩ = some (.int .i64 x.rc) := (cell_of hkb 1).trans rfl
      have lkb := lt_of_block hkb
      have lp := lt_of_block HSI.out.head
      have lp2 : p < w2.heap.size := Nat.lt_of_lt_of_le lp hk2.size
      have d13 : w2.cell? ⟨p, 12, none⟩ = some (.map (some s.bm)) := (hk2.cell 12 lp (fun h => h)).trans c13
      have hsi2 := HSI.out.keep hk2 (fun _ _ h => h)
      have hlk := (MapAt.look (hsi2.bym.keep (Kp.refl (fun _ => False) w2).drew (fun h => h)) key_keyed Try.underlying88 (wzero _) (key_lit (H.out.wfs x HX.out).1 (H.out.wfs x HX.out).2.1) (wm_mem HX.out)).2
      unfold Kv at hlk
      have HXB := Lib.hid (show w2.drew.heap[x.blk]? = some (.cells (Wc x) 99 (0, 0)) from hsi2.wts x HX.out)
      have HO2 := Lib.hid (own_keep HO.out hk2 (fun _ _ h => h))
      have HK2 := Lib.hid (HKP.out.trans hk2)
      obtain ⟨T, hT⟩ : ∃ T, T = Stc ((aStarts (ab s)).take j) := ⟨_, rfl⟩
      rw [← hT] at HO2
      have HT := Lib.hid hT
      have HW2 := Lib.hid hw2
      obtain ⟨kb, hkbe⟩ : ∃ kb, kb = wr.heap.size := ⟨_, rfl⟩
      rw [← hkbe] at b0 b1 lkb ⊢
      have lpw := lt_of_block H.out.head
      have hnp : ¬ In u3 p := fun e => by have h1 := (World.ownsRow.lt HO.out p e).1; omega
      have hnk : ¬ In u3 kb := fun e => by have h1 := (World.ownsRow.lt HO.out kb e).2; omega
      clear hw2 hk2 hkb c13 hsi2 hT k0 k1 hkbe
      have HJ := Lib.hid hj
      have HJN := Lib.hid (show j + 1 ≤ 1000000 by omega)
      have HWS := Lib.hid (show w.heap.size ≤ w2.heap.size from HK2.out.size)
      go_region_held3 (fun w' => w'.cell? ⟨p, 12, none⟩ = some (.map (some s.bm)) ∧ w'.cell? ⟨kb, 0, none⟩ = some (.int .i64 x.id) ∧ w'.cell? ⟨kb, 1, none⟩ = some (.int .i64 x.rc)) (first | exact ⟨d13, b0, b1⟩ | exact ⟨(hk3.cell 12 lp2 (fun h => h)).trans d13, (hk3.cell 0 lkb (fun h => h)).trans b0, (hk3.cell 1 lkb (fun h => h)).trans b1⟩ | exact ⟨(hk4.cell 12 lp2 (fun h => h)).trans d13, (hk4.cell 0 lkb (fun h => h)).trans b0, (hk4.cell 1 lkb (fun h => h)).trans b1⟩ | exact ⟨(hk5.cell 12 lp2 hnp).trans d13, (hk5.cell 0 lkb hnk).trans b0, (hk5.cell 1 lkb hnk).trans b1⟩)
        (first | (go_at_call 56; refine (sstart_any x _ HXB.out _).mono ?_; rintro e w3 ⟨rfl, hk30⟩; have hk3 := (Kp.refl (fun _ => False) w2).drew.trans hk30; have hk4 := hk3.alloc (.cells #[.int .i64 x.id, .int .i64 x.rc, .string x.dom] 66)) | (refine step_append_own rfl _ _ 52 rfl w.heap.size 66 i0 _ 3 32 Try.underlying52 hi hz0 hz1 hz2 rfl (by decide) _ j T rfl (own_keep HO2.out hk4 (fun _ _ h => h)) ⟨w3.heap.size, 0, none⟩ 1 1 [.int .i64 x.id, .int .i64 x.rc, .string x.dom] rfl rfl (lit_news _ rfl) three_cells (by have := HJN.out; unfold maxLen; omega) (by have := HJN.out; omega) (Nat.le_trans HWS.out hk4.size) ?_; intro v5 w5 hown5 hg5 _; have hk5 : Kp (In u3) w2 w5 := (hk4.mono (fun _ _ h => h.elim)).trans (Kp.of_grown' hg5)))
      have HO5 := Lib.hid (show w5.ownsRow w.heap.size 66 3 v5 (j + 1) (Stc ((aStarts (ab s)).take (j + 1))) from by
        have e1 : (aStarts (ab s))[j]? = some (x.id, x.rc, x.dom) := by
          unfold aStarts
          rw [List.getElem?_map, show (ab s).G = s.G from rfl, HGJ.out]
          simp only [Option.map_some, H.out.dm HX.out]
        rw [List.take_add_one, e1, Stc_app, ← HT.out]
        exact hown5)
      have HK5 := Lib.hid (show Kp (fun _ => False) w w5 from HK2.out.trans_new hk5 (fun k h1 h2 => by have := (World.ownsRow.lt HO.out k h2).1; omega))
      clear hown5 hg5 hk5
      go_wp2_with fail
      go_roundg (s.G.length - (j + 1))
      case measure => have := HK.out; omega
      case rel => exact ⟨j + 1, rfl, by have := HJ.out; omega, rfl, HO5.out, HK5.out⟩
    · obtain rfl : j = s.G.length := by omega
      have e1 : ¬ (s.G.length : Int) < (s.G.length : Int) := by omega
      have hq : Cloned 66 3 s.G.length (Stc (aStarts (ab s))) w (.returned u3) wr := ⟨u3, rfl, by
        rw [List.take_of_length_le (by simp [aStarts, ab])] at ho
        exact ho, hkp⟩
      have HQ := Lib.hid hq
      clear hk hj ho hkp hq
      go_wp2_with fail
      go_ret
      exact HQ.out
end Go.Proofs.Ytbiahndpfbmoeaa
