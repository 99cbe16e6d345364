/- Automata over lists: plain theory. No program in it. -/
import Derived.Test.YteblfhhhbfodgaaPT1
import Derived.Test.YteblfhhhbfodgaaPK
set_option linter.unusedVariables false
namespace Go.Proofs.Yteblfhhhbfodgaa.Sim

def dl (N : List (List Int)) (q : Int) (a : Nat) : Int := (N.getD q.toNat []).getD a 0
def fin (F : List Bool) (q : Int) : Bool := F.getD q.toNat false
structure DV (L s : Int) (F : List Bool) (N : List (List Int)) : Prop where
  l1 : 1 ≤ L
  l6 : L ≤ 6
  n1 : 1 ≤ F.length
  n5 : F.length ≤ 512
  nn : N.length = F.length
  s0 : 0 ≤ s
  s1 : s < F.length
  row : ∀ r ∈ N, (r.length : Int) = L ∧ ∀ x ∈ r, 0 ≤ x ∧ x < F.length

section
variable {L s : Int} {F : List Bool} {N : List (List Int)}

theorem DV.rowlen (H : DV L s F N) {q : Int} (h0 : 0 ≤ q) (h1 : q < F.length) : (N.getD q.toNat []).length = L.toNat := by
  have hq : q.toNat < N.length := by rw [H.nn]; omega
  have e : N.getD q.toNat [] = N[q.toNat] := by simp [List.getD_eq_getElem?_getD, hq]
  have := (H.row _ (List.getElem_mem hq)).1
  rw [e]; omega
theorem DV.dl_range (H : DV L s F N) {q : Int} (h0 : 0 ≤ q) (h1 : q < F.length) {a : Nat} (ha : a < L.toNat) : 0 ≤ dl N q a ∧ dl N q a < F.length := by
  have hq : q.toNat < N.length := by rw [H.nn]; omega
  have e : N.getD q.toNat [] = N[q.toNat] := by simp [List.getD_eq_getElem?_getD, hq]
  have hr := (H.row _ (List.getElem_mem hq)).2
  have hl := H.rowlen h0 h1
  unfold dl
  rw [e] at hl ⊢
  have ha' : a < N[q.toNat].length := by omega
  have e2 : N[q.toNat].getD a 0 = N[q.toNat][a] := by simp [List.getD_eq_getElem?_getD, ha']
  rw [e2]
  exact hr _ (List.getElem_mem ha')
theorem DV.rn_range (H : DV L s F N) : ∀ (w : List Nat) {q : Int}, 0 ≤ q → q < F.length → Wd L.toNat w → 0 ≤ rn (dl N) q w ∧ rn (dl N) q w < F.length
  | [], q, h0, h1, _ => ⟨h0, h1⟩
  | a :: w, q, h0, h1, hw => by
    have := H.dl_range h0 h1 (hw a (by simp))
    rw [rn_cons]
    exact H.rn_range w this.1 this.2 (fun b hb => hw b (List.mem_cons_of_mem _ hb))
end

/-- Not told apart by any word. -/
def Eqv (L : Int) (F : List Bool) (N : List (List Int)) (x y : Int) : Prop := ∀ v, Wd L.toNat v → fin F (rn (dl N) x v) = fin F (rn (dl N) y v)
theorem Eqv.symm {L : Int} {F : List Bool} {N : List (List Int)} {x y : Int} (h : Eqv L F N x y) : Eqv L F N y x := fun v hv => (h v hv).symm
theorem Eqv.trans {L : Int} {F : List Bool} {N : List (List Int)} {x y z : Int} (h : Eqv L F N x y) (h' : Eqv L F N y z) : Eqv L F N x z := fun v hv => (h v hv).trans (h' v hv)
theorem Eqv.fin {L : Int} {F : List Bool} {N : List (List Int)} {x y : Int} (h : Eqv L F N x y) : fin F x = fin F y := h [] Wd.nil
theorem Eqv.step {L : Int} {F : List Bool} {N : List (List Int)} {x y : Int} (h : Eqv L F N x y) {a : Nat} (ha : a < L.toNat) : Eqv L F N (dl N x a) (dl N y a) := fun v hv => by
  have := h (a :: v) (fun b hb => by rcases List.mem_cons.1 hb with rfl | hb; exact ha; exact hv b hb)
  rwa [rn_cons, rn_cons] at this
/-- No two states are equivalent. -/
def Red (L : Int) (F : List Bool) (N : List (List Int)) : Prop := ∀ x y : Int, 0 ≤ x → x < F.length → 0 ≤ y → y < F.length → Eqv L F N x y → x = y
/-- What is accepted. -/
def lng (s : Int) (F : List Bool) (N : List (List Int)) (w : List Nat) : Bool := fin F (rn (dl N) s w)

/-- Numbered by the least words of the states. -/
structure Can (L s : Int) (F : List Bool) (N : List (List Int)) (ws : List (List Nat)) : Prop where
  dv : DV L s F N
  len : ws.length = F.length
  asc : Asc ws
  wd : ∀ w ∈ ws, Wd L.toNat w
  at_ : ∀ (i : Nat) w, ws[i]? = some w → rn (dl N) s w = i
  least : ∀ (i : Nat) w v, ws[i]? = some w → Wd L.toNat v → rn (dl N) s v = i → sle w v

section
variable {L s : Int} {F : List Bool} {N : List (List Int)} {ws : List (List Nat)}
theorem Can.some (H : Can L s F N ws) {i : Nat} (hi : i < F.length) : ws[i]? = some (ws[i]'(by rw [H.len]; exact hi)) := List.getElem?_eq_getElem (by rw [H.len]; exact hi)
theorem Can.mem_iff (H : Can L s F N ws) (R : Red L F N) (w : List Nat) : w ∈ ws ↔ Wd L.toNat w ∧ ∀ v, Wd L.toNat v → (∀ z, Wd L.toNat z → lng s F N (w ++ z) = lng s F N (v ++ z)) → sle w v := by
  have eqv : ∀ u v, Wd L.toNat u → Wd L.toNat v → (∀ z, Wd L.toNat z → lng s F N (u ++ z) = lng s F N (v ++ z)) → rn (dl N) s u = rn (dl N) s v := fun u v hu hv h => by
    have a1 := H.dv.rn_range u H.dv.s0 H.dv.s1 hu; have a2 := H.dv.rn_range v H.dv.s0 H.dv.s1 hv
    refine R _ _ a1.1 a1.2 a2.1 a2.2 (fun z hz => ?_)
    have := h z hz
    unfold lng at this
    rwa [rn_append, rn_append] at this
  constructor
  · intro hw
    obtain ⟨i, hi⟩ := List.mem_iff_getElem?.1 hw
    refine ⟨H.wd w hw, fun v hv h => ?_⟩
    exact H.least i w v hi hv (by rw [← eqv w v (H.wd w hw) hv h]; exact H.at_ i w hi)
  · rintro ⟨hw, h⟩
    have a1 := H.dv.rn_range w H.dv.s0 H.dv.s1 hw
    have hi : (rn (dl N) s w).toNat < F.length := by omega
    have hs := H.some hi
    have hm : ws[(rn (dl N) s w).toNat]'(by rw [H.len]; exact hi) ∈ ws := List.getElem_mem _
    have e := H.at_ _ _ hs
    have l1 := H.least _ _ w hs hw (by omega)
    have l2 := h _ (H.wd _ hm) (fun z hz => by unfold lng; rw [rn_append, rn_append, e]; congr 2; omega)
    rw [sle_antisymm l2 l1]; exact hm
theorem Can.zero (H : Can L s F N ws) : s = 0 := by
  have h0 := H.dv.s0; have h1 := H.dv.s1
  have hs := H.some (i := s.toNat) (by omega)
  have e : ws[s.toNat]'(by rw [H.len]; omega) = [] := sle_antisymm (H.least _ _ [] hs Wd.nil (by simp [rn]; omega)) (sle_nil _)
  rw [e] at hs
  by_cases hz : s = 0
  · exact hz
  · have h2 := H.some (i := 0) (by omega)
    have := H.asc 0 s.toNat _ _ (by omega) h2 hs
    rcases this with h | ⟨h, h'⟩
    · simp at h
    · rw [List.length_eq_zero_iff.1 h] at h'; cases h'
end

/-- The reduced automaton of a language, numbered by least words, is told by the language. -/
theorem can_unique {L s1 s2 : Int} {F1 F2 : List Bool} {N1 N2 : List (List Int)} {ws1 ws2 : List (List Nat)} (H1 : Can L s1 F1 N1 ws1) (H2 : Can L s2 F2 N2 ws2) (R1 : Red L F1 N1) (R2 : Red L F2 N2)
    (hl : ∀ w, Wd L.toNat w → lng s1 F1 N1 w = lng s2 F2 N2 w) : s1 = s2 ∧ F1 = F2 ∧ N1 = N2 ∧ ws1 = ws2 := by
  have hws : ws1 = ws2 := by
    refine H1.asc.ext H2.asc (fun w => ?_)
    rw [H1.mem_iff R1, H2.mem_iff R2]
    constructor
    · rintro ⟨h1, h2⟩
      refine ⟨h1, fun v hv h => h2 v hv (fun z hz => ?_)⟩
      rw [hl _ (Wd.append.2 ⟨h1, hz⟩), hl _ (Wd.append.2 ⟨hv, hz⟩)]; exact h z hz
    · rintro ⟨h1, h2⟩
      refine ⟨h1, fun v hv h => h2 v hv (fun z hz => ?_)⟩
      rw [← hl _ (Wd.append.2 ⟨h1, hz⟩), ← hl _ (Wd.append.2 ⟨hv, hz⟩)]; exact h z hz
  subst hws
  have hn : F1.length = F2.length := by rw [← H1.len, ← H2.len]
  have z1 := H1.zero; have z2 := H2.zero
  subst z1; subst z2
  refine ⟨rfl, ?_, ?_, rfl⟩
  · apply List.ext_getElem hn
    intro i h1 h2
    have e1 := H1.at_ i _ (H1.some h1); have e2 := H2.at_ i _ (H2.some h2)
    have := hl _ (H1.wd (ws1[i]'(by rw [H1.len]; exact h1)) (List.getElem_mem _))
    unfold lng fin at this
    rw [e1, e2] at this
    simpa [h1, h2] using this
  · apply List.ext_getElem (by rw [H1.dv.nn, H2.dv.nn, hn])
    intro i h1 h2
    have r1 := (H1.dv.row _ (List.getElem_mem h1)).1; have r2 := (H2.dv.row _ (List.getElem_mem h2)).1
    apply List.ext_getElem (by omega)
    intro a ha1 ha2
    have hi1 : i < F1.length := by rw [← H1.dv.nn]; exact h1
    have hi2 : i < F2.length := by rw [← H2.dv.nn]; exact h2
    have haL : a < L.toNat := by omega
    have d1 : dl N1 (i : Int) a = N1[i][a] := by simp [dl, h1, ha1]
    have d2 : dl N2 (i : Int) a = N2[i][a] := by simp [dl, h2, ha2]
    have g1 := H1.dv.dl_range (q := i) (by omega) (by omega) haL
    have g2 := H2.dv.dl_range (q := i) (by omega) (by omega) haL
    rw [← d1, ← d2]
    have hw := H1.wd (ws1[i]'(by rw [H1.len]; exact hi1)) (List.getElem_mem _)
    have e1 := H1.at_ i _ (H1.some hi1); have e2 := H2.at_ i _ (H2.some hi2)
    -- the word of the second's successor leads in the first to a state equivalent to the first's successor
    have hj : (dl N2 (i : Int) a).toNat < F1.length := by omega
    have hu := H1.wd (ws1[(dl N2 (i : Int) a).toNat]'(by rw [H1.len]; exact hj)) (List.getElem_mem _)
    have f1 := H1.at_ _ _ (H1.some hj); have f2 := H2.at_ _ _ (H2.some (i := (dl N2 (i : Int) a).toNat) (by omega))
    have : dl N1 (i : Int) a = ((dl N2 (i : Int) a).toNat : Int) := by
      refine R1 _ _ g1.1 g1.2 (by omega) (by omega) (fun z hz => ?_)
      have k1 := hl _ (Wd.append.2 ⟨hw.snoc haL, hz⟩); have k2 := hl _ (Wd.append.2 ⟨hu, hz⟩)
      unfold lng at k1 k2
      rw [rn_append _ _ _ z, rn_snoc, e1, rn_append _ _ _ z, rn_snoc, e2] at k1
      rw [rn_append, rn_append, f1, f2] at k2
      rw [k1, k2]; congr 2; omega
    omega

/-! ### The automaton of a search -/
section
variable {L s : Int} {F : List Bool} {N : List (List Int)} {e0 : Ent Int} {q : List (Ent Int)}

/-- Entries are states. -/
theorem ent_range (H : DV L s F N) {i a : Nat} (hs : e0.x = s) (B : BInv (dl N) L.toNat e0 q i a) {j : Nat} {e : Ent Int} (he : q[j]? = some e) : 0 ≤ e.x ∧ e.x < F.length := by
  have := B.sound j e he
  rw [← this.1, hs]; exact H.rn_range _ H.s0 H.s1 this.2
theorem nodup_range {n : Nat} {l : List Int} (hn : l.Nodup) (h : ∀ x ∈ l, 0 ≤ x ∧ x < n) : l.length ≤ n := by
  have := nodup_le (u := l) (v := (List.range n).map fun (i : Nat) => (i : Int)) hn (fun x hx => List.mem_map.2 ⟨x.toNat, List.mem_range.2 (by have := h x hx; omega), by have := h x hx; omega⟩)
  simpa using this
theorem nodup_of {α : Type} {l : List α} (h : ∀ (j k : Nat) x, l[j]? = some x → l[k]? = some x → j = k) : l.Nodup := by
  rw [List.nodup_iff_pairwise_ne, List.pairwise_iff_getElem]
  intro i j hi hj hij e
  have := h i j l[i] (List.getElem?_eq_getElem hi) (by rw [List.getElem?_eq_getElem hj, e])
  omega
theorem BInv.nodup {α : Type} {δ : α → Nat → α} {L : Nat} {e0 : Ent α} {q : List (Ent α)} {i a : Nat} (B : BInv δ L e0 q i a) : (q.map (·.x)).Nodup := nodup_of fun j k x hj hk => by
  rw [List.getElem?_map, Option.map_eq_some_iff] at hj hk
  obtain ⟨e, h1, h2⟩ := hj; obtain ⟨f, h3, h4⟩ := hk
  exact B.nd j k e f h1 h3 (by rw [h2, h4])
theorem ent_count (H : DV L s F N) {i a : Nat} (hs : e0.x = s) (B : BInv (dl N) L.toNat e0 q i a) : q.length ≤ F.length := by
  have := nodup_range B.nodup (n := F.length) (fun x hx => by
    obtain ⟨e, he, rfl⟩ := List.mem_map.1 hx
    obtain ⟨j, hj⟩ := List.mem_iff_getElem?.1 he
    exact ent_range H hs B hj)
  simpa using this

/-- The numbers of the states: their places, or -1. -/
structure NumOk (n : Nat) (q : List (Ent Int)) (ν : List Int) : Prop where
  len : ν.length = n
  at_ : ∀ (j : Nat) e, q[j]? = some e → ν.getD e.x.toNat 0 = j
  no : ∀ x : Int, 0 ≤ x → x < n → (∀ e ∈ q, e.x ≠ x) → ν.getD x.toNat 0 = -1

/-- The states that were found, by number, as an automaton. -/
def trimF (F : List Bool) (o : List Int) : List Bool := o.map (fin F)
def trimN (L : Int) (N : List (List Int)) (ν o : List Int) : List (List Int) := o.map fun x => (List.range L.toNat).map fun a => ν.getD (dl N x a).toNat 0

theorem trim_dl {ν o : List Int} {j a : Nat} {x : Int} (hx : o[j]? = some x) (ha : a < L.toNat) : dl (trimN L N ν o) j a = ν.getD (dl N x a).toNat 0 := by
  obtain ⟨hj, rfl⟩ := List.getElem?_eq_some_iff.1 hx
  simp [dl, trimN, hj, ha]

/-- Its states by words. -/
theorem trim_rn (H : DV L s F N) (hs : e0.x = s) (B : BInv (dl N) L.toNat e0 q q.length 0) {ν : List Int} (V : NumOk F.length q ν) :
    ∀ (v : List Nat) (j : Nat) (e : Ent Int), q[j]? = some e → Wd L.toNat v → ∃ (k : Nat) (f : Ent Int), q[k]? = some f ∧ f.x = rn (dl N) e.x v ∧ rn (dl (trimN L N ν (q.map (·.x)))) j v = k
  | [], j, e, he, _ => ⟨j, e, he, rfl, rfl⟩
  | a :: v, j, e, he, hv => by
    have ha : a < L.toNat := hv a (by simp)
    obtain ⟨f, hf, hx, _⟩ := B.cl j a e he ha (.inl (List.getElem?_eq_some_iff.1 he).1)
    obtain ⟨k, hk⟩ := List.mem_iff_getElem?.1 hf
    obtain ⟨k', f', h1, h2, h3⟩ := trim_rn H hs B V v k f hk (fun b hb => hv b (List.mem_cons_of_mem _ hb))
    refine ⟨k', f', h1, by rw [rn_cons, ← hx]; exact h2, ?_⟩
    rw [rn_cons, trim_dl (x := e.x) (by rw [List.getElem?_map, he]; rfl) ha, ← hx, V.at_ k f hk]; exact h3

theorem fin_getElem {F : List Bool} {i : Nat} (h : i < F.length) : fin F (i : Int) = F[i] := by simp [fin, h]
theorem trim_fin {j : Nat} {e : Ent Int} (he : q[j]? = some e) : fin (trimF F (q.map (·.x))) (j : Int) = fin F e.x := by
  obtain ⟨hj, rfl⟩ := List.getElem?_eq_some_iff.1 he
  rw [fin_getElem (by simpa [trimF] using hj)]; simp [trimF]

theorem trim_can (H : DV L s F N) (hs : e0.x = s) (B : BInv (dl N) L.toNat e0 q q.length 0) {ν : List Int} (V : NumOk F.length q ν) :
    Can L 0 (trimF F (q.map (·.x))) (trimN L N ν (q.map (·.x))) (q.map (·.w)) := by
  have hpos : 0 < q.length := (List.getElem?_eq_some_iff.1 B.hd).1
  have hcnt := ent_count H hs B
  have hlen : (trimF F (q.map (·.x))).length = q.length := by simp [trimF]
  refine ⟨⟨H.l1, H.l6, by omega, by have := H.n5; omega, by simp [trimF, trimN], Int.le_refl _, by omega, ?_⟩, by simp [trimF], ?_, ?_, ?_, ?_⟩
  · intro r hr
    simp only [trimN, List.mem_map] at hr
    obtain ⟨x, ⟨e, he, rfl⟩, rfl⟩ := hr
    obtain ⟨j, hj⟩ := List.mem_iff_getElem?.1 he
    refine ⟨by have := H.l1; simp; omega, fun y hy => ?_⟩
    obtain ⟨a, ha, rfl⟩ := List.mem_map.1 hy
    obtain ⟨f, hf, hx, _⟩ := B.cl j a e hj (List.mem_range.1 ha) (.inl (List.getElem?_eq_some_iff.1 hj).1)
    obtain ⟨k, hk⟩ := List.mem_iff_getElem?.1 hf
    rw [← hx, V.at_ k f hk, hlen]
    have := (List.getElem?_eq_some_iff.1 hk).1; omega
  · intro j k u v hjk hu hv
    rw [List.getElem?_map, Option.map_eq_some_iff] at hu hv
    obtain ⟨e, h1, rfl⟩ := hu; obtain ⟨f, h3, rfl⟩ := hv
    exact B.srt j k e f hjk h1 h3
  · intro w hw
    obtain ⟨e, he, rfl⟩ := List.mem_map.1 hw
    obtain ⟨j, hj⟩ := List.mem_iff_getElem?.1 he
    exact (B.sound j e hj).2
  · intro i w hw
    rw [List.getElem?_map, Option.map_eq_some_iff] at hw
    obtain ⟨e, he, rfl⟩ := hw
    obtain ⟨k, f, h1, h2, h3⟩ := trim_rn H hs B V e.w 0 e0 B.hd (B.sound i e he).2
    have := B.nd k i f e h1 he (by rw [h2]; exact (B.sound i e he).1)
    subst this; exact h3
  · intro i w v hw hv hr
    rw [List.getElem?_map, Option.map_eq_some_iff] at hw
    obtain ⟨e, he, rfl⟩ := hw
    obtain ⟨k, f, h1, h2, h3⟩ := trim_rn H hs B V v 0 e0 B.hd hv
    have hki : k = i := by have := h3.symm.trans hr; omega
    subst hki
    rw [he] at h1; cases h1
    obtain ⟨g, hg, hx, hle⟩ := B.done v hv
    obtain ⟨m, hm⟩ := List.mem_iff_getElem?.1 hg
    have := B.nd m k g e hm he (by rw [hx, h2])
    subst this; rw [he] at hm; cases hm; exact hle

theorem trim_lng (H : DV L s F N) (hs : e0.x = s) (B : BInv (dl N) L.toNat e0 q q.length 0) {ν : List Int} (V : NumOk F.length q ν) {v : List Nat} (hv : Wd L.toNat v) {j : Nat} {e : Ent Int} (he : q[j]? = some e) :
    lng j (trimF F (q.map (·.x))) (trimN L N ν (q.map (·.x))) v = lng e.x F N v := by
  obtain ⟨k, f, h1, h2, h3⟩ := trim_rn H hs B V v j e he hv
  unfold lng
  rw [h3, ← h2, trim_fin h1]

theorem trim_red (H : DV L s F N) (hs : e0.x = s) (B : BInv (dl N) L.toNat e0 q q.length 0) {ν : List Int} (V : NumOk F.length q ν) (R : Red L F N) :
    Red L (trimF F (q.map (·.x))) (trimN L N ν (q.map (·.x))) := by
  intro x y hx0 hx hy0 hy h
  have hlen : (trimF F (q.map (·.x))).length = q.length := by simp [trimF]
  have ex : q[x.toNat]? = some (q[x.toNat]'(by omega)) := List.getElem?_eq_getElem (by omega)
  have ey : q[y.toNat]? = some (q[y.toNat]'(by omega)) := List.getElem?_eq_getElem (by omega)
  have r1 := ent_range H hs B ex; have r2 := ent_range H hs B ey
  have := R _ _ r1.1 r1.2 r2.1 r2.2 (fun v hv => by
    have a1 := trim_lng H hs B V hv ex; have a2 := trim_lng H hs B V hv ey
    have a3 := h v hv
    unfold lng at a1 a2
    rw [← a1, ← a2, show ((x.toNat : Nat) : Int) = x by omega, show ((y.toNat : Nat) : Int) = y by omega]; exact a3)
  have := B.nd _ _ _ _ ex ey this
  omega
end
end Go.Proofs.Yteblfhhhbfodgaa.Sim
