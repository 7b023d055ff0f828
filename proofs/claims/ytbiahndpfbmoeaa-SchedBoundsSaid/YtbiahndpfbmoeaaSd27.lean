/- How many are on their way, through the calls. Condition: there are no more recipients than fit into memory; times do not go back. -/
import Derived.Test.YtbiahndpfbmoeaaSd26
namespace Go.Proofs.Ytbiahndpfbmoeaa
open Go.RowKit SatAid

theorem cutG_mem {i : Nat} {G : List (Int × Int)} {k k' : Int × Int} (hn : G.Nodup) (hi : G[i]? = some k) (h : k' ∈ CutG i G) : k' ∈ G ∧ k' ≠ k := by
  refine ⟨CutG_sub h, fun e => ?_⟩
  subst e
  have hlt : i < G.length := (List.getElem?_eq_some_iff.1 hi).1
  have e1 : G[i] = k' := (List.getElem?_eq_some_iff.1 hi).2
  have hs : G = G.take i ++ k' :: G.drop (i + 1) := by rw [← e1, ← List.drop_eq_getElem_cons hlt, List.take_append_drop]
  rw [hs, List.nodup_append] at hn
  obtain ⟨_, h2, h3⟩ := hn
  unfold CutG at h
  rcases List.mem_append.1 h with h | h
  · exact h3 _ h _ (List.mem_cons_self ..) rfl
  · exact (List.nodup_cons.1 h2).1 h
section
variable {w w' : World} {p N N' : Nat} {s s' : Sd} {now : Int} {B : List (Int × ByteArray)}
theorem BI.put {x : Wx} (h : BI s now B) (hs : SIn w p s N) (hs' : SIn w' p s' N') (ha : ab s' = aPut (ab s) x) (hp : s'.Ps = s.Ps) : BI s' now B := by
  refine h.calm hp (congrArg Ab.c ha) (by rw [ha]; rfl) (Same.of hs.abnd hs'.abnd fun k hk => ?_) (by rw [ha]; exact h.inv.put)
  obtain ⟨z, hz, e, _⟩ := hs.abgin k hk
  exact ⟨z, hz, z, by rw [ha]; exact List.mem_append_left _ hz, e, e, rfl⟩
theorem BI.gone {x : Wx} (h : BI s now B) (hs : SIn w p s N) (hs' : SIn w' p s' N') (hg : (x.id, x.rc) ∉ (ab s).G) (ha : ab s' = aGone (ab s) x) (hp : s'.Ps = s.Ps) : BI s' now B := by
  refine h.calm hp (by have := congrArg Ab.c ha; rw [aGone_c] at this; exact this) (by rw [ha, aGone_G]) (Same.of hs.abnd hs'.abnd fun k hk => ?_) (by rw [ha]; exact h.inv.gone)
  obtain ⟨z, hz, e, _⟩ := hs.abgin k hk
  refine ⟨z, hz, z, ?_, e, e, rfl⟩
  rw [ha, aGone_W]
  refine List.mem_filter.2 ⟨hz, ?_⟩
  simp only [Bool.not_eq_true', decide_eq_false_iff_not]
  intro e2
  exact hg (e2 ▸ e ▸ hk)
theorem end_mem {A : Ab} {i : Nat} {x z : Wx} {stays : Bool} {n : Int} (hz : z ∈ A.W) (hne : (z.id, z.rc) ≠ (x.id, x.rc)) : z ∈ (aEnd A i x stays n).W := by
  have h1 : z ∈ (aGo { A with G := CutG i A.G } (x.id, x.rc) false (fun _ => n)).W := List.mem_map.2 ⟨z, hz, by rw [if_neg hne]⟩
  unfold aEnd
  cases stays with
  | true => exact h1
  | false =>
    simp only [Bool.false_eq_true, if_false]
    rw [aGone_W]
    exact List.mem_filter.2 ⟨h1, by simp only [Bool.not_eq_true', decide_eq_false_iff_not]; exact hne⟩
theorem BI.ends {x : Wx} {i : Nat} {good stays : Bool} {n : Int} (h : BI s now B) (hs : SIn w p s N) (hs' : SIn w' p s' N') (hn : now ≤ 1099511627776) (hx : x ∈ (ab s).W) (hi : (ab s).G[i]? = some (x.id, x.rc)) (ha : ab s' = aEnd (ab s) i x stays n) (hv : Ve now x.dom good s s') : BI s' now B := by
  have hc : s'.c = s.c := by have := congrArg Ab.c ha; rw [aEnd_c] at this; exact this
  have hsame : Same (ab s) (ab s') (CutG i (ab s).G) := Same.of hs.abnd hs'.abnd fun k hk => by
    obtain ⟨h1, h2⟩ := cutG_mem hs.gnd hi hk
    obtain ⟨z, hz, e, _⟩ := hs.abgin k h1
    exact ⟨z, hz, z, by rw [ha]; exact end_mem hz (by rw [e]; exact h2), e, e, rfl⟩
  refine ⟨fun d => ?_, by rw [ha]; exact h.inv.ends, hv.le, fun d k hk => ?_⟩
  · have h1 := cG_less hi hsame (by rw [ha, aEnd_G]) d
    rw [dm_mem hs.abnd hx] at h1
    have h2 := h.cnt d
    rw [hv.b]
    by_cases e : d = x.dom
    · rw [if_pos e]
      rw [if_pos e.symm] at h1
      unfold Eb
      rw [if_pos (by omega)]
      omega
    · rw [if_neg e]
      rw [if_neg (fun e2 => e e2.symm)] at h1
      omega
  · rw [hv.t now d (Int.le_refl _) hn, hc]; exact h.sp d k hk
end

section
variable {W w : World} {p N : Nat} {s : Sd} {now : Int} {B : List (Int × ByteArray)}
/-- a call's answer is a Boolean; the bounds hold on -/
def BoB (W w : World) (p N : Nat) (s : Sd) (now : Int) (B : List (Int × ByteArray)) (e : Ending) (w' : World) : Prop :=
  ∃ r N' s', e = .returned (.bool r) ∧ N' ≤ N + 1 ∧ SI W w' p s' N' ∧ St w w' s s' ∧ BI s' now B ∧ s'.c = s.c
theorem putB (id rc n : Int) (a b : ByteArray) (h : SI W w p s N) (hb : BI s now B) (h1 : (Lit.int .i64 id).wf = true) (h2 : (Lit.int .i64 rc).wf = true) (h3 : b.size ≤ maxLen) (hN : N ≤ 1000000) :
    Calls Try.prog 25 #[.pointer (some ⟨p, 0, none⟩), .int .i64 id, .int .i64 rc, .string a, .string b, .int .i64 n] w (BoB W w p N s now B) := by
  refine (putA id rc n a b h h1 h2 h3 hN).mono ?_
  rintro e w' ⟨g1, g2⟩
  by_cases hin : ∃ z ∈ (ab s).W, (z.id, z.rc) = (id, rc)
  · obtain ⟨rfl, r2, rk⟩ := g1 hin
    exact ⟨_, N, s, rfl, Nat.le_succ _, r2, St.of rk (fun _ _ h => h.elim) rfl, hb, rfl⟩
  · obtain ⟨rfl, s', r2, rk, hA, hP⟩ := g2 hin
    exact ⟨_, N + 1, s', rfl, Nat.le_refl _, r2, rk, hb.put h.si r2.si hA hP, congrArg Ab.c hA⟩
theorem dropB (id rc : Int) (h : SI W w p s N) (hb : BI s now B) (h1 : (Lit.int .i64 id).wf = true) (h2 : (Lit.int .i64 rc).wf = true) (hN : N ≤ 1000000) :
    Calls Try.prog 27 #[.pointer (some ⟨p, 0, none⟩), .int .i64 id, .int .i64 rc] w (BoB W w p N s now B) := by
  by_cases hx : ∃ x ∈ s.Ws, (x.id, x.rc) = (id, rc)
  · obtain ⟨x, hx, e⟩ := hx
    obtain ⟨rfl, rfl⟩ := Prod.mk.inj e
    cases hg : x.go with
    | true =>
      refine (sdrop_going p N s x w h.si hx hg).mono ?_
      rintro e w' ⟨rfl, rfl⟩
      exact ⟨_, N, s, rfl, Nat.le_succ _, h, St.refl _ _, hb, rfl⟩
    | false =>
      refine (sdrop_yes p N s x w h.si hx hg hN).mono ?_
      rintro e w' ⟨rfl, s', r1, r2, r3, r4⟩
      exact ⟨_, N, s', rfl, Nat.le_succ _, h.next r1 r2, r2, hb.gone h.si r1 (h.si.notin hx hg) r3 r4, by have := congrArg Ab.c r3; rw [aGone_c] at this; exact this⟩
  · refine (sdrop_miss p N s id rc w h.si h1 h2 (fun z hz e => hx ⟨z, hz, e⟩)).mono ?_
    rintro e w' ⟨rfl, rfl⟩
    exact ⟨_, N, s, rfl, Nat.le_succ _, h, St.refl _ _, hb, rfl⟩
def PickB (W w : World) (p N : Nat) (s : Sd) (now : Int) (B : List (Int × ByteArray)) (e : Ending) (w' : World) : Prop :=
  ∃ s', SI W w' p s' N ∧ St w w' s s' ∧ s'.c = s.c ∧ ((e = .returned (.tuple #[z3, .bool false]) ∧ BI s' now B) ∨ ∃ id rc d, e = .returned (.tuple #[.agg #[.int .i64 id, .int .i64 rc, .string d], .bool true]) ∧ BI s' now (B ++ [(now, d)]))
theorem pickB {n : Int} (h : SI W w p s N) (hb : BI s now B) (hC : C n = now) (hN : N ≤ 1000000) :
    Calls Try.prog 30 #[.pointer (some ⟨p, 0, none⟩), .int .i64 n] w (PickB W w p N s now B) := by
  have h0 : 0 ≤ now := by rw [← hC]; exact C_lo _
  have hn : now ≤ 1099511627776 := by rw [← hC]; exact C_hi _
  refine (pickA h hb.inv hb.tik hC hN).mono ?_
  rintro e w' ⟨g1, g2⟩
  by_cases ha : AnyA (ab s) (fr s now) now
  · obtain ⟨x, s', hbe, hi, rfl, r1, rk, r3, r4, _⟩ := g2 ha
    have hT : 0 < vT s now x.dom := by
      have := hbe.rd
      unfold rdA fr at this
      simp only [Bool.and_eq_true, decide_eq_true_eq] at this
      exact this.2.2.2.2
    exact ⟨s', r1, rk, by have := congrArg Ab.c r3; rw [aBegin_c] at this; exact this, Or.inr ⟨_, _, _, rfl, hb.begin h.si r1.si h0 hn hbe.mem hi r3 r4 hT⟩⟩
  · obtain ⟨rfl, s', r1, rk, r3, r4, _⟩ := g1 ha
    exact ⟨s', r1, rk, congrArg Ab.c r3, Or.inl ⟨rfl, hb.vq hn r3 r4⟩⟩
def EndB (W w : World) (p N : Nat) (s : Sd) (now : Int) (B : List (Int × ByteArray)) (e : Ending) (w' : World) : Prop :=
  ∃ v s', e = .returned v ∧ SI W w' p s' N ∧ St w w' s s' ∧ s'.c = s.c ∧ BI s' now B
theorem endB {i n : Int} {good stays : Bool} (h : SI W w p s N) (hb : BI s now B) (h0 : 0 ≤ now) (hn : now ≤ 1099511627776) (hN : N ≤ 1000000) :
    Calls Try.prog 32 #[.pointer (some ⟨p, 0, none⟩), .int .i64 i, .bool good, .bool stays, .int .i64 n] w (EndB W w p N s now B) := by
  refine (endA h hb.tik h0 hn hN).mono ?_
  rintro e w' ⟨g1, g2⟩
  by_cases hi : i < 0 ∨ ((ab s).G.length : Int) ≤ i
  · obtain ⟨rfl, r1, rk⟩ := g1 hi
    exact ⟨_, s, rfl, r1, St.of rk (fun _ _ h => h.elim) rfl, rfl, hb⟩
  · obtain ⟨x, s', r1, r2, rfl, r3, rk, r5, r6⟩ := g2 (by omega)
    exact ⟨_, s', rfl, r3, rk, by have := congrArg Ab.c r5; rw [aEnd_c] at this; exact this, hb.ends h.si r3.si hn r1 r2 r5 r6⟩
theorem newB {s : Sd} {lv : Value} {c : Cf} (hA : ab s = ⟨{ c with lv := lv }, [], [], [], [], false⟩) (hP : s.Ps = []) : BI s 0 [] := by
  refine ⟨fun d => ?_, by rw [hA]; exact fun x hx => (by cases hx), tik_new hP 0, fun d k hk => (by cases hk)⟩
  have h1 : fp s.Ps d = none := by rw [hP]; rfl
  unfold vB cG
  rw [h1, hA]
  rfl
end
end Go.Proofs.Ytbiahndpfbmoeaa
