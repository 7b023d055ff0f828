/- What a scheduler's Going does. Condition: there are no more recipients than fit into memory. -/
import Derived.Test.YtbiahndpfbmoeaaSd19
import Derived.Test.YtbiahndpfbmoeaaRefRing2
import Derived.Test.YtbiahndpfbmoeaaRingFair
namespace Go.Proofs.Ytbiahndpfbmoeaa
open Go.RowKit Go.Maps SatAid Go.MapKept Go.ChangeMaps Go.WideShapes

theorem st_info : (Try.prog.info? 66).map (fun i => (i.zero, i.size, i.bytes)) = some (some (.agg #[.int .i64 0, .int .i64 0, .string ByteArray.empty]), 3, 32) := by kernel_rfl
theorem three_cells {k : IntKind} {a b : Int} {d : ByteArray} : ∀ u ∈ [Value.int k a, .int k b, .string d], u.oneCell' = true := by intro u hu; simp at hu; rcases hu with rfl | rfl | rfl <;> rfl
/-- a start as cells -/
def Stc (T : List (Int × Int × ByteArray)) : List Value := T.flatMap fun t => [.int .i64 t.1, .int .i64 t.2.1, .string t.2.2]
theorem Stc_len (T : List (Int × Int × ByteArray)) : (Stc T).length = T.length * 3 := by
  induction T with
  | nil => rfl
  | cons x r ih => unfold Stc at *; rw [List.flatMap_cons, List.length_append, ih]; simp; omega
theorem Stc_app (S T : List (Int × Int × ByteArray)) : Stc (S ++ T) = Stc S ++ Stc T := by unfold Stc; rw [List.flatMap_append]
theorem Stc_get {S : List (Int × Int × ByteArray)} {i : Nat} {x : Int × Int × ByteArray} (h : S[i]? = some x) : (Stc S)[i * 3]? = some (.int .i64 x.1) ∧ (Stc S)[i * 3 + 1]? = some (.int .i64 x.2.1) ∧ (Stc S)[i * 3 + 2]? = some (.string x.2.2) := by
  induction S generalizing i with
  | nil => simp at h
  | cons y r ih =>
    have e : Stc (y :: r) = .int .i64 y.1 :: .int .i64 y.2.1 :: .string y.2.2 :: Stc r := rfl
    rw [e]
    cases i with
    | zero => simp at h; subst h; exact ⟨rfl, rfl, rfl⟩
    | succ i =>
      have h' : r[i]? = some x := by simpa using h
      have e1 : (i + 1) * 3 = i * 3 + 1 + 1 + 1 := by omega
      rw [e1]
      simp only [List.getElem?_cons_succ]
      exact ih h'
/-- the domain of a key -/
def dmA (W : List Wx) (k : Int × Int) : ByteArray := match W.find? (fun x => decide ((x.id, x.rc) = k)) with | some x => x.dom | none => ByteArray.empty
def aStarts (A : Ab) : List (Int × Int × ByteArray) := A.G.map fun k => (k.1, k.2, dmA A.W k)
theorem SIn.dm {w : World} {p N : Nat} {s : Sd} (h : SIn w p s N) {x : Wt} (hx : x ∈ s.Ws) : dmA (ab s).W (x.id, x.rc) = x.dom := by
  unfold dmA
  cases hf : (ab s).W.find? (fun z => decide ((z.id, z.rc) = (x.id, x.rc))) with
  | none =>
    rw [List.find?_eq_none] at hf
    exact absurd (by simp [wx]) (hf (wx x) (List.mem_map.2 ⟨x, hx, rfl⟩))
  | some z =>
    obtain ⟨z', hz', rfl⟩ := List.mem_map.1 (List.mem_of_find?_eq_some hf)
    have e := List.find?_some hf
    simp only [decide_eq_true_eq] at e
    rw [h.key_eq hz' hx e]
    rfl
theorem sgoing_none (w : World) : Calls Try.prog 36 #[.pointer none] w fun e w' => e = .returned (.slice none 0 0) ∧ w = w' := by
  go_enter Try.func36, Try.ntmps36
  go_wp2
  go_ret
  exact ⟨rfl, rfl⟩
set_option maxRecDepth 100000 in
set_option maxHeartbeats 3200000 in
theorem sgoing_any (p N : Nat) (s : Sd) (w : World) (h : SIn w p s N) (hN : N ≤ 1000000) :
    Calls Try.prog 36 #[.pointer (some ⟨p, 0, none⟩)] w (Cloned 66 3 s.G.length (Stc (aStarts (ab s))) w) := by
  have c15 : w.cell? ⟨p, 15, none⟩ = some s.vg := (cell_of h.head 15).trans rfl
  have hgl : s.G.length ≤ N := Nat.le_trans h.glen h.lw
  obtain ⟨i0, hi, hz0, hz1, hz2⟩ := info_parts st_info
  obtain ⟨vo, vc, hvg⟩ := h.gng.slice
  rw [hvg] at c15
  have hgng := h.gng
  rw [hvg] at hgng
  have hsh : 0 < s.G.length → ∃ g, vo = some ⟨g, 0, none⟩ ∧ g < w.heap.size ∧ ∀ j u, (Gc s.G)[j]? = some u → w.cell? ⟨g, j, none⟩ = some u := fun hp => by
    obtain ⟨g, cap, e, _, hlt⟩ := own_shape hgng hp
    simp only [Value.slice.injEq] at e
    obtain ⟨rfl, _, rfl⟩ := e
    exact ⟨g, rfl, hlt, fun j u hu => hgng.cell hu⟩
  have H := Lib.hid h; have HSH := Lib.hid hsh
  clear h hsh hgng hvg
  go_enter Try.func36, Try.ntmps36
  go_wp2_with fail
  go_loopg [3, 5, 13] s.G.length (fun k v _ i wr => ∃ j : Nat, k = s.G.length - j ∧ j ≤ s.G.length ∧ i = .int .i64 j ∧ wr.ownsRow w.heap.size 66 3 v j (Stc ((aStarts (ab s)).take j)) ∧ Kp (fun _ => False) w wr)
  case atStart => exact ⟨0, rfl, by omega, rfl, World.ownsRow_nil _ _ _ _, (by repeat (first | exact Kp.refl _ _ | apply Kp.drew | apply Kp.drewN | refine Kp.setCell ?_ _ _ (Or.inl rfl) | apply Kp.alloc))⟩
  case round =>
    obtain ⟨j, hk, hj, rfl, ho, hkp⟩ := hrel
    by_cases hlt : j < s.G.length
    · obtain ⟨g, rfl, hg, hgc⟩ := HSH.out (by omega)
      obtain ⟨x, hx, hxk, hgo⟩ := H.out.gin _ (List.getElem_mem hlt)
      have hG := List.getElem?_eq_getElem hlt
      rw [← hxk] at hG
      obtain ⟨u1, u2⟩ := Gc_get hG
      have k0 : wr.cell? ⟨g, j * 2, none⟩ = some (.int .i64 x.id) := (hkp.cell _ hg (fun h => h)).trans (hgc _ _ u1)
      have k1 : wr.cell? ⟨g, j * 2 + 1, none⟩ = some (.int .i64 x.rc) := (hkp.cell _ hg (fun h => h)).trans (hgc _ _ u2)
      have e1 : (0 : Int) + (j : Int) * 2 = ((j * 2 : Nat) : Int) := by omega
      have q2 : (0 : Int) ≤ (j : Int) := by omega
      have q3 : (j : Int) < (s.G.length : Int) := by omega
      have hwr : IntKind.i64.wrap ((j : Int) + 1) = ((j + 1 : Nat) : Int) := by rw [IntWalk.i64_in _ (by omega)]; omega
      have hsi := H.out.keep hkp (fun _ _ h => h)
      have HK := Lib.hid hk; have HO := Lib.hid ho; have HKP := Lib.hid hkp; have HX := Lib.hid hx; have HSI := Lib.hid hsi
      have HGJ := Lib.hid hG
      have c13 : wr.cell? ⟨p, 12, none⟩ = some (.map (some s.bm)) := (cell_of hsi.head 12).trans rfl
      clear hk ho hkp hx hsi hgc u1 u2 hG hgo hxk
      go_wp2_with fail
      obtain ⟨w2, hw2⟩ : ∃ w2, w2 = wr.alloc (.cells #[.int .i64 x.id, .int .i64 x.rc] 95) := ⟨_, rfl⟩
      have hk2 : Kp (fun _ => False) wr w2 := by rw [hw2]; exact (by repeat (first | exact Kp.refl _ _ | apply Kp.drew | apply Kp.drewN | refine Kp.setCell ?_ _ _ (Or.inl rfl) | apply Kp.alloc))
      have hkb : w2.heap[wr.heap.size]? = some (.cells #[.int .i64 x.id, .int .i64 x.rc] 95 (0, 0)) := by rw [hw2]; exact heap_new _
      rw [← hw2]
      have b0 : w2.cell? ⟨wr.heap.size, 0, none⟩ = some (.int .i64 x.id) := (cell_of hkb 0).trans rfl
      have b1 : w2.cell? ⟨wr.heap.size, 1, none⟩ = some (.int .i64 x.rc) := (cell_of hkb 1).trans rfl
      have lkb := lt_of_block hkb
      have lp := lt_of_block HSI.out.head
      have lp2 : p < w2.heap.size := Nat.lt_of_lt_of_le lp hk2.size
      have d13 : w2.cell? ⟨p, 12, none⟩ = some (.map (some s.bm)) := (hk2.cell 12 lp (fun h => h)).trans c13
      have hsi2 := HSI.out.keep hk2 (fun _ _ h => h)
      have hlk := (MapAt.look (hsi2.bym.keep (Kp.refl (fun _ => False) w2).drew (fun h => h)) key_keyed Try.underlying88 (wzero _) (key_lit (H.out.wfs x HX.out).1 (H.out.wfs x HX.out).2.1) (wm_mem HX.out)).2
      unfold Kv at hlk
      have HXB := Lib.hid (show w2.drew.heap[x.blk]? = some (.cells (Wc x) 99 (0, 0)) from hsi2.wts x HX.out)
      have HO2 := Lib.hid (own_keep HO.out hk2 (fun _ _ h => h))
      have HK2 := Lib.hid (HKP.out.trans hk2)
      obtain ⟨T, hT⟩ : ∃ T, T = Stc ((aStarts (ab s)).take j) := ⟨_, rfl⟩
      rw [← hT] at HO2
      have HT := Lib.hid hT
      have HW2 := Lib.hid hw2
      obtain ⟨kb, hkbe⟩ : ∃ kb, kb = wr.heap.size := ⟨_, rfl⟩
      rw [← hkbe] at b0 b1 lkb ⊢
      have lpw := lt_of_block H.out.head
      have hnp : ¬ In u3 p := fun e => by have h1 := (World.ownsRow.lt HO.out p e).1; omega
      have hnk : ¬ In u3 kb := fun e => by have h1 := (World.ownsRow.lt HO.out kb e).2; omega
      clear hw2 hk2 hkb c13 hsi2 hT k0 k1 hkbe
      have HJ := Lib.hid hj
      have HJN := Lib.hid (show j + 1 ≤ 1000000 by omega)
      have HWS := Lib.hid (show w.heap.size ≤ w2.heap.size from HK2.out.size)
      go_region_held3 (fun w' => w'.cell? ⟨p, 12, none⟩ = some (.map (some s.bm)) ∧ w'.cell? ⟨kb, 0, none⟩ = some (.int .i64 x.id) ∧ w'.cell? ⟨kb, 1, none⟩ = some (.int .i64 x.rc)) (first | exact ⟨d13, b0, b1⟩ | exact ⟨(hk3.cell 12 lp2 (fun h => h)).trans d13, (hk3.cell 0 lkb (fun h => h)).trans b0, (hk3.cell 1 lkb (fun h => h)).trans b1⟩ | exact ⟨(hk4.cell 12 lp2 (fun h => h)).trans d13, (hk4.cell 0 lkb (fun h => h)).trans b0, (hk4.cell 1 lkb (fun h => h)).trans b1⟩ | exact ⟨(hk5.cell 12 lp2 hnp).trans d13, (hk5.cell 0 lkb hnk).trans b0, (hk5.cell 1 lkb hnk).trans b1⟩)
        (first | (go_at_call 56; refine (sstart_any x _ HXB.out _).mono ?_; rintro e w3 ⟨rfl, hk30⟩; have hk3 := (Kp.refl (fun _ => False) w2).drew.trans hk30; have hk4 := hk3.alloc (.cells #[.int .i64 x.id, .int .i64 x.rc, .string x.dom] 66)) | (refine step_append_own rfl _ _ 52 rfl w.heap.size 66 i0 _ 3 32 Try.underlying52 hi hz0 hz1 hz2 rfl (by decide) _ j T rfl (own_keep HO2.out hk4 (fun _ _ h => h)) ⟨w3.heap.size, 0, none⟩ 1 1 [.int .i64 x.id, .int .i64 x.rc, .string x.dom] rfl rfl (lit_news _ rfl) three_cells (by have := HJN.out; unfold maxLen; omega) (by have := HJN.out; omega) (Nat.le_trans HWS.out hk4.size) ?_; intro v5 w5 hown5 hg5 _; have hk5 : Kp (In u3) w2 w5 := (hk4.mono (fun _ _ h => h.elim)).trans (Kp.of_grown' hg5)))
      have HO5 := Lib.hid (show w5.ownsRow w.heap.size 66 3 v5 (j + 1) (Stc ((aStarts (ab s)).take (j + 1))) from by
        have e1 : (aStarts (ab s))[j]? = some (x.id, x.rc, x.dom) := by
          unfold aStarts
          rw [List.getElem?_map, show (ab s).G = s.G from rfl, HGJ.out]
          simp only [Option.map_some, H.out.dm HX.out]
        rw [List.take_add_one, e1, Stc_app, ← HT.out]
        exact hown5)
      have HK5 := Lib.hid (show Kp (fun _ => False) w w5 from HK2.out.trans_new hk5 (fun k h1 h2 => by have := (World.ownsRow.lt HO.out k h2).1; omega))
      clear hown5 hg5 hk5
      go_wp2_with fail
      go_roundg (s.G.length - (j + 1))
      case measure => have := HK.out; omega
      case rel => exact ⟨j + 1, rfl, by have := HJ.out; omega, rfl, HO5.out, HK5.out⟩
    · obtain rfl : j = s.G.length := by omega
      have e1 : ¬ (s.G.length : Int) < (s.G.length : Int) := by omega
      have hq : Cloned 66 3 s.G.length (Stc (aStarts (ab s))) w (.returned u3) wr := ⟨u3, rfl, by
        rw [List.take_of_length_le (by simp [aStarts, ab])] at ho
        exact ho, hkp⟩
      have HQ := Lib.hid hq
      clear hk hj ho hkp hq
      go_wp2_with fail
      go_ret
      exact HQ.out
end Go.Proofs.Ytbiahndpfbmoeaa

/- A scheduler of one's own, spoken of by what it holds. Condition: there are no more recipients than fit into memory. -/
namespace Go.Proofs.Ytbiahndpfbmoeaa
open Go.RowKit Go.Maps SatAid Go.MapKept Go.ChangeMaps Go.WideShapes

/-- a scheduler that was made since W -/
structure SI (W w : World) (p : Nat) (s : Sd) (N : Nat) : Prop where
  si : SIn w p s N
  fresh : ∀ k, (s.col k).isSome → W.heap.size ≤ k
  kp : Kp (fun _ => False) W w
section
variable {W w w' : World} {p N N' : Nat} {s s' : Sd}
theorem SI.next (h : SI W w p s N) (hi : SIn w' p s' N') (ht : St w w' s s') : SI W w' p s' N' :=
  ⟨hi, fun k e => (ht.new k e).elim (h.fresh k) (fun e2 => Nat.le_trans h.kp.size e2), h.kp.trans_new ht.kp (fun k h1 e => by have := h.fresh k e; omega)⟩
theorem SI.calm (h : SI W w p s N) (hk : Kp (fun _ => False) w w') : SI W w' p s N := ⟨h.si.keep hk (fun _ _ h => h), h.fresh, h.kp.trans hk⟩
theorem SI.upon {S : Nat → Prop} (h : SI W w p s N) (hk : Kp S w w') (hS : ∀ k, S k → W.heap.size ≤ k ∧ s.col k = none) : SI W w' p s N :=
  ⟨h.si.keep hk (fun k e e2 => by rw [(hS k e2).2] at e; cases e), h.fresh, h.kp.trans_new hk (fun k h1 e => by have := (hS k e).1; omega)⟩
end

/-- may a domain begin one? -/
def fr (s : Sd) (now : Int) (d : ByteArray) : Bool := decide (vB s d < vN s d) && decide (0 < vT s now d)
def rdA (f : ByteArray → Bool) (loc : Bool) (now : Int) (x : Wx) : Bool := decide (x.loc = loc) && (!x.go && (decide (x.nx ≤ now) && f x.dom))
theorem rdy_wx (s : Sd) (loc : Bool) (now : Int) (x : Wt) : rdy s loc now x = rdA (fr s now) loc now (wx x) := rfl
def rsA (A : Ab) (f : ByteArray → Bool) (loc : Bool) (now : Int) : List ByteArray := (A.W.filter (rdA f loc now)).map Wx.snd
def rgB (A : Ab) (loc : Bool) : List ByteArray := if loc then A.A1 else A.A0
theorem rsn_wx (s : Sd) (loc : Bool) (now : Int) : rsn s loc now = rsA (ab s) (fr s now) loc now := by
  unfold rsn rsA ab
  rw [List.filter_map, List.map_map]
  rfl
theorem rgA_wx (s : Sd) (loc : Bool) : rgA s loc = rgB (ab s) loc := rfl
/-- has a transport one that may begin? -/
def PkA (A : Ab) (f : ByteArray → Bool) (now : Int) (loc : Bool) : Prop := Fx (rsA A f loc now) (rgB A loc) < (rgB A loc).length
instance (A : Ab) (f : ByteArray → Bool) (now : Int) (loc : Bool) : Decidable (PkA A f now loc) := by unfold PkA; infer_instance
def LcA (A : Ab) (f : ByteArray → Bool) (now : Int) : Bool := if PkA A f now (!A.last) then !A.last else A.last
def FiA (A : Ab) (f : ByteArray → Bool) (now : Int) : Nat := Fx (rsA A f (LcA A f now) now) (rgB A (LcA A f now))
structure BestA (A : Ab) (f : ByteArray → Bool) (now : Int) (x : Wx) : Prop where
  mem : x ∈ A.W
  rd : rdA f (LcA A f now) now x = true
  sd : x.snd = (rgB A (LcA A f now)).getD (FiA A f now) ByteArray.empty
  le : ∀ z ∈ A.W, rdA f (LcA A f now) now z = true → z.snd = x.snd → ¬ (z.id < x.id ∨ z.id = x.id ∧ z.rc < x.rc)
theorem pk_wx (s : Sd) (now : Int) (loc : Bool) : pk s now loc ↔ PkA (ab s) (fr s now) now loc := by
  unfold pk PkA
  rw [rsn_wx, rgA_wx]
theorem pkl_wx (s : Sd) (now : Int) : pkl s now = LcA (ab s) (fr s now) now := by
  unfold pkl LcA
  by_cases h : pk s now (!s.last)
  · have h2 : PkA (ab s) (fr s now) now (!(ab s).last) := (pk_wx _ _ _).1 h
    rw [if_pos h, if_pos h2]; rfl
  · have h2 : ¬ PkA (ab s) (fr s now) now (!(ab s).last) := fun h2 => h ((pk_wx _ _ _).2 h2)
    rw [if_neg h, if_neg h2]; rfl
/-- every sender that waits stands in a ring -/
def InvA (A : Ab) : Prop := ∀ x ∈ A.W, x.snd ∈ rgB A x.loc
theorem pk_iff {A : Ab} {f : ByteArray → Bool} {now : Int} {loc : Bool} (h : InvA A) : PkA A f now loc ↔ ∃ x ∈ A.W, rdA f loc now x = true := by
  constructor
  · intro hp
    have h1 := Fx_has hp
    rw [Has_mem] at h1
    obtain ⟨x, hx, _⟩ := List.mem_map.1 h1
    exact ⟨x, (List.mem_filter.1 hx).1, (List.mem_filter.1 hx).2⟩
  · rintro ⟨x, hx, hr⟩
    have hl : x.loc = loc := by unfold rdA at hr; simp only [Bool.and_eq_true, decide_eq_true_eq] at hr; exact hr.1
    have h1 : Has x.snd (rsA A f loc now) = true := (Has_mem _ _).2 (List.mem_map.2 ⟨x, List.mem_filter.2 ⟨hx, hr⟩, rfl⟩)
    have h2 : Has x.snd (rgB A loc) = true := (Has_mem _ _).2 (hl ▸ h x hx)
    exact Nat.lt_of_le_of_lt (Fx_le_Ix h1 _) (Has_ix h2)
theorem rd_loc {f : ByteArray → Bool} {loc : Bool} {now : Int} {x : Wx} (h : rdA f loc now x = true) : x.loc = loc := by
  unfold rdA at h; simp only [Bool.and_eq_true, decide_eq_true_eq] at h; exact h.1
/-- one may begin -/
def AnyA (A : Ab) (f : ByteArray → Bool) (now : Int) : Prop := ∃ x ∈ A.W, rdA f x.loc now x = true
theorem any_iff {A : Ab} {f : ByteArray → Bool} {now : Int} (h : InvA A) : (PkA A f now (!A.last) ∨ PkA A f now A.last) ↔ AnyA A f now := by
  rw [pk_iff h, pk_iff h]
  constructor
  · rintro (⟨x, hx, hr⟩ | ⟨x, hx, hr⟩)
    · exact ⟨x, hx, (rd_loc hr).symm ▸ hr⟩
    · exact ⟨x, hx, (rd_loc hr).symm ▸ hr⟩
  · rintro ⟨x, hx, hr⟩
    by_cases e : x.loc = A.last
    · exact Or.inr ⟨x, hx, e ▸ hr⟩
    · have e2 : x.loc = !A.last := by cases h1 : x.loc <;> cases h2 : A.last <;> simp_all
      exact Or.inl ⟨x, hx, e2 ▸ hr⟩
theorem fi_lt {A : Ab} {f : ByteArray → Bool} {now : Int} (h : PkA A f now (!A.last) ∨ PkA A f now A.last) : FiA A f now < (rgB A (LcA A f now)).length := by
  unfold FiA
  have : PkA A f now (LcA A f now) := by
    unfold LcA
    split
    · rename_i h1; exact h1
    · rename_i h1; exact h.resolve_left h1
  exact this

/-- Pick -/
def PickA (W w : World) (p N : Nat) (s : Sd) (now : Int) (e : Ending) (w' : World) : Prop :=
  (¬ AnyA (ab s) (fr s now) now → e = .returned (.tuple #[z3, .bool false]) ∧ ∃ s', SI W w' p s' N ∧ St w w' s s' ∧ ab s' = ab s ∧ Vq now s s' ∧ s'.D = s.D) ∧
  (AnyA (ab s) (fr s now) now → ∃ x s', BestA (ab s) (fr s now) now x ∧ FiA (ab s) (fr s now) now < (rgB (ab s) (LcA (ab s) (fr s now) now)).length ∧ e = .returned (.tuple #[.agg #[.int .i64 x.id, .int .i64 x.rc, .string x.dom], .bool true]) ∧ SI W w' p s' N ∧ St w w' s s' ∧
    ab s' = aBegin (ab s) (LcA (ab s) (fr s now) now) (FiA (ab s) (fr s now) now) (x.id, x.rc) ∧ Vb now x.dom s s' ∧ s'.D = s.D)
theorem pickA {W w : World} {p N : Nat} {s : Sd} {n now : Int} (h : SI W w p s N) (hv : InvA (ab s)) (ht : Tik s now) (hC : C n = now) (hN : N ≤ 1000000) :
    Calls Try.prog 30 #[.pointer (some ⟨p, 0, none⟩), .int .i64 n] w (PickA W w p N s now) := by
  refine (spick_any p N s n now w h.si ht hC hN).mono ?_
  rintro e w' ⟨h1, h2⟩
  have e1 : s.last = (ab s).last := rfl
  rw [pk_wx, pk_wx, e1] at h1 h2
  refine ⟨fun hn => ?_, fun hy => ?_⟩
  · obtain ⟨r1, s', r2, r3, r4, r5, r6⟩ := h1 ⟨fun h => hn ((any_iff hv).1 (Or.inl h)), fun h => hn ((any_iff hv).1 (Or.inr h))⟩
    exact ⟨r1, s', h.next r2 r3, r3, r4, r5, r6⟩
  · have hy' := (any_iff hv).2 hy
    obtain ⟨m, s', r1, r2, r3, r4, r5, r6, r7⟩ := h2 hy'
    rw [pkl_wx, rsn_wx, rgA_wx] at r1 r5
    have eF : Fx (rsA (ab s) (fr s now) (LcA (ab s) (fr s now) now) now) (rgB (ab s) (LcA (ab s) (fr s now) now)) = FiA (ab s) (fr s now) now := rfl
    rw [eF] at r1 r5
    refine ⟨wx m, s', ⟨List.mem_map.2 ⟨m, r1.mem, rfl⟩, r1.rd, r1.sd, fun z hz h3 h4 => ?_⟩, fi_lt hy', r2, h.next r3 r4, r4, r5, r6, r7⟩
    obtain ⟨z', hz', rfl⟩ := List.mem_map.1 hz
    exact (Le2_nn z' m).1 (r1.le z' hz' h3 (h4.trans r1.sd))
/-- End -/
def EndA (W w : World) (p N : Nat) (s : Sd) (i : Int) (good stays : Bool) (n now : Int) (e : Ending) (w' : World) : Prop :=
  ((i < 0 ∨ ((ab s).G.length : Int) ≤ i) → e = .returned (.tuple #[z3, .bool false]) ∧ SI W w' p s N ∧ Kp (fun _ => False) w w') ∧
  ((0 ≤ i ∧ i < ((ab s).G.length : Int)) → ∃ x s', x ∈ (ab s).W ∧ (ab s).G[i.toNat]? = some (x.id, x.rc) ∧ e = .returned (.tuple #[.agg #[.int .i64 x.id, .int .i64 x.rc, .string x.dom], .bool true]) ∧ SI W w' p s' N ∧ St w w' s s' ∧
    ab s' = aEnd (ab s) i.toNat x stays (C n) ∧ Ve now x.dom good s s')
theorem endA {W w : World} {p N : Nat} {s : Sd} {i n now : Int} {good stays : Bool} (h : SI W w p s N) (ht : Tik s now) (hn : 0 ≤ now) (hn2 : now ≤ 1099511627776) (hN : N ≤ 1000000) :
    Calls Try.prog 32 #[.pointer (some ⟨p, 0, none⟩), .int .i64 i, .bool good, .bool stays, .int .i64 n] w (EndA W w p N s i good stays n now) := by
  refine (send_any p N s i good stays n now w h.si ht hn hn2 hN).mono ?_
  rintro e w' ⟨h1, h2⟩
  refine ⟨fun hi => ?_, fun hi => ?_⟩
  · obtain ⟨r1, r2⟩ := h1 hi
    exact ⟨r1, h.calm r2, r2⟩
  · obtain ⟨x, s', r1, r2, r3, r4, r5, r6, r7⟩ := h2 hi
    exact ⟨wx x, s', List.mem_map.2 ⟨x, r1, rfl⟩, r2, r3, h.next r4 r5, r5, r6, r7⟩
/-- Put -/
def PutA (W w : World) (p N : Nat) (s : Sd) (x : Wx) (e : Ending) (w' : World) : Prop :=
  ((∃ z ∈ (ab s).W, (z.id, z.rc) = (x.id, x.rc)) → e = .returned (.bool false) ∧ SI W w' p s N ∧ Kp (fun _ => False) w w') ∧
  ((¬ ∃ z ∈ (ab s).W, (z.id, z.rc) = (x.id, x.rc)) → e = .returned (.bool true) ∧ ∃ s', SI W w' p s' (N + 1) ∧ St w w' s s' ∧ ab s' = aPut (ab s) x ∧ s'.Ps = s.Ps)
theorem putA {W w : World} {p N : Nat} {s : Sd} (id rc n : Int) (a b : ByteArray) (h : SI W w p s N) (h1 : (Lit.int .i64 id).wf = true) (h2 : (Lit.int .i64 rc).wf = true) (hb : b.size ≤ maxLen) (hN : N ≤ 1000000) :
    Calls Try.prog 25 #[.pointer (some ⟨p, 0, none⟩), .int .i64 id, .int .i64 rc, .string a, .string b, .int .i64 n] w (PutA W w p N s ⟨id, rc, a, b, Has b s.c.L, false, C n⟩) := by
  refine (sput_any p N s id rc n a b w h.si h1 h2 hb hN).mono ?_
  rintro e w' ⟨h1, h2⟩
  refine ⟨fun hi => ?_, fun hi => ?_⟩
  · obtain ⟨r1, r2⟩ := h1 hi
    exact ⟨r1, h.calm r2, r2⟩
  · obtain ⟨r1, s', r2, r3, r4, r5⟩ := h2 hi
    exact ⟨r1, s', h.next r2 r3, r3, r4, r5⟩
def NewA (W : World) (c : Cf) (e : Ending) (w' : World) : Prop :=
  ∃ p s, e = .returned (.pointer (some ⟨p, 0, none⟩)) ∧ SI W w' p s c.L.length ∧ ab s = ⟨{ c with lv := s.c.lv }, [], [], [], [], false⟩ ∧ s.Ps = []
theorem newA (c : Cf) (ao : Option Addr) (cap : Nat) (W w : World) (hk : Kp (fun _ => False) W w) (hlv : c.lv = .slice ao c.L.length cap) (hs : SRd w ao c.L) (hL : c.L.length ≤ 1000000) (hnone : ao = none → cap = 0) :
    Calls Try.prog 24 #[.agg (Cc c).toArray] w (NewA W c) := by
  refine (snew_any c ao cap w hlv hs hL hnone).mono ?_
  rintro e w' ⟨p, bm, bp, br, r0, r1, lv, rfl, h1, h2, h3⟩
  exact ⟨p, _, rfl, ⟨h1, fun k e => Nat.le_trans hk.size (h2 k e), hk.trans h3⟩, rfl, rfl⟩
end Go.Proofs.Ytbiahndpfbmoeaa

/- What the calls leave true of a scheduler's rings: the plain side. No condition. -/
namespace Go.Proofs.Ytbiahndpfbmoeaa
open Go.RowKit SatAid

theorem mem_cut {y : ByteArray} {i : Nat} {L : List ByteArray} (hi : i < L.length) (h : y ∈ L) (hy : y ≠ L.getD i ByteArray.empty) : y ∈ Cut i L := by
  rw [cut_split hi] at h
  unfold Cut
  rcases List.mem_append.1 h with h | h
  · exact List.mem_append_left _ h
  · rcases List.mem_cons.1 h with h | h
    · exact absurd h hy
    · exact List.mem_append_right _ h
theorem getD_ix {x : ByteArray} {L : List ByteArray} (h : Ix x L < L.length) : L.getD (Ix x L) ByteArray.empty = x := by
  induction L with
  | nil => cases h
  | cons a L ih =>
    unfold Ix at h ⊢
    by_cases e : a = x
    · rw [if_pos e]; simpa using e
    · rw [if_neg e] at h ⊢
      have h' : Ix x L < L.length := by simpa using h
      simpa using ih h'
theorem mem_pdrop {x y : ByteArray} {L : List ByteArray} (h : y ∈ L) (hy : y ≠ x) : y ∈ Pdrop x L := by
  unfold Pdrop
  by_cases hx : Has x L = true
  · rw [if_pos hx]
    exact mem_cut (Has_ix hx) h (by rw [getD_ix (Has_ix hx)]; exact hy)
  · rw [if_neg hx]; exact h
theorem mem_padd {x y : ByteArray} {L : List ByteArray} (h : y ∈ L) : y ∈ Padd x L := by
  unfold Padd
  split
  · exact h
  · exact List.mem_append_left _ h
theorem padd_self {x : ByteArray} {L : List ByteArray} : x ∈ Padd x L := by
  unfold Padd
  split
  · rename_i h; exact (Has_mem _ _).1 h
  · exact List.mem_append_right _ (List.mem_singleton.2 rfl)
theorem InvA.put {A : Ab} {x : Wx} (h : InvA A) : InvA (aPut A x) := by
  intro z hz
  have hs : rgB A z.loc = if z.loc then A.A1 else A.A0 := rfl
  have hg : rgB (aPut A x) z.loc = if z.loc then (if x.loc then Padd x.snd A.A1 else A.A1) else (if x.loc then A.A0 else Padd x.snd A.A0) := rfl
  rw [hg]
  rcases List.mem_append.1 hz with hz | hz
  · have h1 := h z hz
    rw [hs] at h1
    cases hl : z.loc <;> cases hx : x.loc <;> simp only [hl, Bool.false_eq_true, if_true, if_false] at h1 ⊢ <;> first | exact h1 | exact mem_padd h1
  · obtain rfl := List.mem_singleton.1 hz
    cases hl : z.loc <;> simp only [Bool.false_eq_true, if_true, if_false] <;> exact padd_self
theorem InvA.go {A : Ab} {k : Int × Int} {g : Bool} {n : Int → Int} (h : InvA A) : InvA (aGo A k g n) := by
  intro z hz
  obtain ⟨y, hy, e⟩ := List.mem_map.1 hz
  have h1 := h y hy
  have : z.snd = y.snd ∧ z.loc = y.loc := by
    rw [← e]; split <;> exact ⟨rfl, rfl⟩
  rw [this.1, this.2]
  exact h1
theorem InvA.turn {A : Ab} {loc : Bool} {i : Nat} (h : InvA A) (hi : i < (rgB A loc).length) : InvA (aTurn A loc i) := by
  intro z hz
  have hz' : z ∈ A.W := by cases loc <;> exact hz
  have h1 := h z hz'
  cases loc with
  | false =>
    have hi' : i < A.A0.length := hi
    cases hl : z.loc with
    | false => rw [hl] at h1; exact (turn_perm hi').mem_iff.1 (show z.snd ∈ A.A0 from h1)
    | true => rw [hl] at h1; exact h1
  | true =>
    have hi' : i < A.A1.length := hi
    cases hl : z.loc with
    | true => rw [hl] at h1; exact (turn_perm hi').mem_iff.1 (show z.snd ∈ A.A1 from h1)
    | false => rw [hl] at h1; exact h1
theorem InvA.begin {A : Ab} {loc : Bool} {i : Nat} {k : Int × Int} (h : InvA A) (hi : i < (rgB A loc).length) : InvA (aBegin A loc i k) := by
  have h1 := (h.turn hi).go (k := k) (g := true) (n := fun n => n)
  intro z hz
  exact h1 z hz
theorem InvA.gone {A : Ab} {x : Wx} (h : InvA A) : InvA (aGone A x) := by
  have hd : ∀ z ∈ (aDel A (x.id, x.rc)).W, z.snd ∈ rgB A z.loc := fun z hz => h z (List.mem_filter.1 hz).1
  unfold aGone
  by_cases hl : aLast (aDel A (x.id, x.rc)) x = true
  · rw [if_pos hl]
    intro z hz
    have hz' : z ∈ (aDel A (x.id, x.rc)).W := hz
    have h1 := hd z hz'
    have h2 := List.all_eq_true.1 hl z hz'
    have hg : rgB A z.loc = if z.loc then A.A1 else A.A0 := rfl
    have hg2 : rgB { aDel A (x.id, x.rc) with A0 := if x.loc then (aDel A (x.id, x.rc)).A0 else Pdrop x.snd (aDel A (x.id, x.rc)).A0, A1 := if x.loc then Pdrop x.snd (aDel A (x.id, x.rc)).A1 else (aDel A (x.id, x.rc)).A1 } z.loc = if z.loc then (if x.loc then Pdrop x.snd A.A1 else A.A1) else (if x.loc then A.A0 else Pdrop x.snd A.A0) := rfl
    rw [hg2]
    rw [hg] at h1
    cases e1 : z.loc <;> cases e2 : x.loc <;> simp only [e1, e2, Bool.false_eq_true, if_true, if_false, Bool.not_eq_true', Bool.and_eq_false_iff, decide_eq_false_iff_not, decide_true, decide_false, or_false, Bool.true_eq_false] at h1 h2 ⊢ <;> first | exact h1 | exact mem_pdrop h1 h2
  · rw [if_neg hl]
    intro z hz
    exact hd z hz
theorem InvA.ends {A : Ab} {i : Nat} {x : Wx} {stays : Bool} {n : Int} (h : InvA A) : InvA (aEnd A i x stays n) := by
  have h0 : InvA { A with G := CutG i A.G } := fun z hz => h z hz
  have h1 := h0.go (k := (x.id, x.rc)) (g := false) (n := fun _ => n)
  unfold aEnd
  cases stays with
  | true => exact h1
  | false => exact h1.gone
theorem aGone_W (A : Ab) (x : Wx) : (aGone A x).W = (aDel A (x.id, x.rc)).W := by unfold aGone; dsimp only; split <;> rfl
theorem aGone_G (A : Ab) (x : Wx) : (aGone A x).G = A.G := by unfold aGone; dsimp only; split <;> rfl
theorem aGone_c (A : Ab) (x : Wx) : (aGone A x).c = A.c := by unfold aGone; dsimp only; split <;> rfl
theorem aEnd_G (A : Ab) (i : Nat) (x : Wx) (stays : Bool) (n : Int) : (aEnd A i x stays n).G = CutG i A.G := by
  unfold aEnd; cases stays
  · exact aGone_G _ _
  · rfl
theorem aEnd_c (A : Ab) (i : Nat) (x : Wx) (stays : Bool) (n : Int) : (aEnd A i x stays n).c = A.c := by
  unfold aEnd; cases stays
  · exact aGone_c _ _
  · rfl
theorem aBegin_G (A : Ab) (l : Bool) (i : Nat) (k : Int × Int) : (aBegin A l i k).G = A.G ++ [k] := by cases l <;> rfl
theorem aBegin_c (A : Ab) (l : Bool) (i : Nat) (k : Int × Int) : (aBegin A l i k).c = A.c := by cases l <;> rfl
/-- a new domain's state -/
theorem fr_new {s : Sd} (h : s.Ps = []) (now : Int) (d : ByteArray) : fr s now d = true := by
  have h1 : fp s.Ps d = none := by rw [h]; rfl
  unfold fr vB vN vT
  rw [h1]
  have := V_lo s.c.burst
  simp; omega
theorem tik_new {s : Sd} (h : s.Ps = []) (now : Int) : Tik s now := by
  intro y hy; rw [h] at hy; cases hy
end Go.Proofs.Ytbiahndpfbmoeaa
