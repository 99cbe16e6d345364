/- Classes of equivalent states, and the automaton of the classes: plain theory. No program in it. -/
import Derived.Test.YteblfhhhbfodgaaPT2
set_option linter.unusedVariables false
namespace Go.Proofs.Yteblfhhhbfodgaa.Sim

def cls (p : List Int) (x : Int) : Int := p.getD x.toNat 0
def InR (n : Nat) (x : Int) : Prop := 0 ≤ x ∧ x < n
theorem cls_get {p : List Int} {i : Nat} (h : i < p.length) : cls p (i : Int) = p[i] := by simp [cls, h]
theorem cls_canL {K : Type} [DecidableEq K] {l : List K} {x y : Int} (hx : InR l.length x) (hy : InR l.length y) : cls (canL l) x = cls (canL l) y ↔ l[x.toNat]'(by have := hx.1; have := hx.2; omega) = l[y.toNat]'(by have := hy.1; have := hy.2; omega) := by
  have h1 := hx.1; have h2 := hx.2; have h3 := hy.1; have h4 := hy.2
  have e1 : cls (canL l) x = (canL l)[x.toNat]'(by rw [canL_length]; omega) := by unfold cls; simp [canL_length, show x.toNat < l.length by omega]
  have e2 : cls (canL l) y = (canL l)[y.toNat]'(by rw [canL_length]; omega) := by unfold cls; simp [canL_length, show y.toNat < l.length by omega]
  rw [e1, e2]; exact canL_eq_iff l _ _ _ _
theorem canL_ext {p q : List Int} (hp : canL p = p) (hq : canL q = q) (hl : p.length = q.length) (h : ∀ x y, InR p.length x → InR p.length y → (cls p x = cls p y ↔ cls q x = cls q y)) : p = q := by
  rw [← hp, ← hq]
  refine (canL_congr hl (fun i j hi hj => ?_)).1
  have := h i j ⟨by omega, by omega⟩ ⟨by omega, by omega⟩
  rw [cls_get hi, cls_get hj, cls_get (p := q) (by omega), cls_get (p := q) (by omega)] at this
  exact this

/-- A numbering on the way: not finer than equivalence, finer than 'final'. -/
structure Ref (L : Int) (F : List Bool) (N : List (List Int)) (p : List Int) : Prop where
  len : p.length = F.length
  can : canL p = p
  fin : ∀ x y, InR F.length x → InR F.length y → cls p x = cls p y → fin F x = fin F y
  eqv : ∀ x y, InR F.length x → InR F.length y → Eqv L F N x y → cls p x = cls p y
/-- The numbering of the equivalent states. -/
structure Cls (L : Int) (F : List Bool) (N : List (List Int)) (p : List Int) : Prop where
  len : p.length = F.length
  can : canL p = p
  iff : ∀ x y, InR F.length x → InR F.length y → (cls p x = cls p y ↔ Eqv L F N x y)
theorem cls_unique {L : Int} {F : List Bool} {N : List (List Int)} {p q : List Int} (h : Cls L F N p) (h' : Cls L F N q) : p = q :=
  canL_ext h.can h'.can (h.len.trans h'.len.symm) (fun x y hx hy => by rw [h.len] at hx hy; rw [h.iff x y hx hy, h'.iff x y hx hy])

/-- One step of refinement. -/
structure Fine (L : Int) (F : List Bool) (N : List (List Int)) (p q : List Int) : Prop where
  len : q.length = F.length
  can : canL q = q
  iff : ∀ x y, InR F.length x → InR F.length y → (cls q x = cls q y ↔ cls p x = cls p y ∧ ∀ a, a < L.toNat → cls p (dl N x a) = cls p (dl N y a))

section
variable {L s : Int} {F : List Bool} {N : List (List Int)} {p q : List Int}
theorem Ref.first {l : List Int} (hl : l.length = F.length) (h : ∀ i (hi : i < F.length), l[i]'(by omega) = cond F[i] 1 0) : Ref L F N (canL l) := by
  have key : ∀ x y, InR F.length x → InR F.length y → (cls (canL l) x = cls (canL l) y ↔ Sim.fin F x = Sim.fin F y) := fun x y hx hy => by
    have h1 := hx.1; have h2 := hx.2; have h3 := hy.1; have h4 := hy.2
    rw [cls_canL (by rw [hl]; exact hx) (by rw [hl]; exact hy), h _ (by omega), h _ (by omega)]
    have e1 : Sim.fin F x = F[x.toNat]'(by omega) := by unfold Sim.fin; simp [show x.toNat < F.length by omega]
    have e2 : Sim.fin F y = F[y.toNat]'(by omega) := by unfold Sim.fin; simp [show y.toNat < F.length by omega]
    rw [e1, e2]
    cases F[x.toNat] <;> cases F[y.toNat] <;> simp
  exact ⟨by rw [canL_length, hl], (canL_idem l).1, fun x y hx hy => (key x y hx hy).1, fun x y hx hy he => (key x y hx hy).2 he.fin⟩
theorem Ref.next (H : DV L s F N) (R : Ref L F N p) (Fi : Fine L F N p q) : Ref L F N q where
  len := Fi.len
  can := Fi.can
  fin := fun x y hx hy h => R.fin x y hx hy ((Fi.iff x y hx hy).1 h).1
  eqv := fun x y hx hy h => (Fi.iff x y hx hy).2 ⟨R.eqv x y hx hy h, fun a ha => R.eqv _ _ (H.dl_range hx.1 hx.2 ha) (H.dl_range hy.1 hy.2 ha) (h.step ha)⟩
theorem Ref.stable (H : DV L s F N) (R : Ref L F N p) (h : ∀ x y, InR F.length x → InR F.length y → cls p x = cls p y → ∀ a, a < L.toNat → cls p (dl N x a) = cls p (dl N y a)) : Cls L F N p where
  len := R.len
  can := R.can
  iff := fun x y hx hy => by
    refine ⟨fun e v => ?_, R.eqv x y hx hy⟩
    induction v generalizing x y with
    | nil => intro _; exact R.fin x y hx hy e
    | cons a v ih =>
      intro hv
      have ha := hv a (by simp)
      rw [rn_cons, rn_cons]
      exact ih _ _ (H.dl_range hx.1 hx.2 ha) (H.dl_range hy.1 hy.2 ha) (h x y hx hy e a ha) (fun b hb => hv b (List.mem_cons_of_mem _ hb))
/-- Where the number of the classes stands, they are right; else it grows. -/
theorem Ref.end_ (H : DV L s F N) (R : Ref L F N p) (Fi : Fine L F N p q) : (ncl q = ncl p → Cls L F N p) ∧ ncl p ≤ ncl q := by
  have hl : p.length = q.length := R.len.trans Fi.len.symm
  have rf : ∀ i j (hi : i < p.length) (hj : j < p.length), q[i]'(by omega) = q[j]'(by omega) → p[i] = p[j] := fun i j hi hj e => by
    have h1 := R.len
    have := ((Fi.iff i j ⟨by omega, by omega⟩ ⟨by omega, by omega⟩).1 (by rw [cls_get (by omega), cls_get (by omega)]; exact e)).1
    rwa [cls_get hi, cls_get hj] at this
  refine ⟨fun e => R.stable H (fun x y hx hy hxy => ?_), ncl_le hl rf⟩
  refine ((Fi.iff x y hx hy).1 (Decidable.byContradiction fun hne => ?_)).2
  have h1 := hx.1; have h2 := hx.2; have h3 := hy.1; have h4 := hy.2; have h5 := R.len
  have a1 : cls p x = p[x.toNat]'(by omega) := by unfold cls; simp [show x.toNat < p.length by omega]
  have a2 : cls p y = p[y.toNat]'(by omega) := by unfold cls; simp [show y.toNat < p.length by omega]
  have a3 : cls q x = q[x.toNat]'(by omega) := by unfold cls; simp [show x.toNat < q.length by omega]
  have a4 : cls q y = q[y.toNat]'(by omega) := by unfold cls; simp [show y.toNat < q.length by omega]
  have := ncl_lt hl rf x.toNat y.toNat (by omega) (by omega) (by rw [← a1, ← a2]; exact hxy) (by rw [← a3, ← a4]; exact hne)
  omega

/-- The automaton of the classes. -/
structure Quo (L s : Int) (F : List Bool) (N : List (List Int)) (p : List Int) (G : List Bool) (M : List (List Int)) : Prop where
  lenG : G.length = ncl p
  lenM : M.length = ncl p
  row : ∀ r ∈ M, (r.length : Int) = L
  fin : ∀ x, InR F.length x → Sim.fin G (cls p x) = Sim.fin F x
  dl : ∀ x, InR F.length x → ∀ a, a < L.toNat → Sim.dl M (cls p x) a = cls p (Sim.dl N x a)
variable {G : List Bool} {M : List (List Int)}
theorem Cls.range (C : Cls L F N p) {x : Int} (hx : InR F.length x) : InR (ncl p) (cls p x) := by
  have h1 := hx.1; have h2 := hx.2; have h5 := C.len
  have a1 : cls p x = p[x.toNat]'(by omega) := by unfold cls; simp [show x.toNat < p.length by omega]
  rw [a1]
  exact canL_range p _ (by rw [C.can]; exact List.getElem_mem _)
theorem Cls.surj (C : Cls L F N p) {c : Int} (hc : InR (ncl p) c) : ∃ x, InR F.length x ∧ cls p x = c := by
  obtain ⟨i, hi, e⟩ := canL_surj p c.toNat (by have := hc.1; have := hc.2; omega)
  refine ⟨i, ⟨by omega, by rw [← C.len]; omega⟩, ?_⟩
  have : cls (canL p) (i : Int) = c := by rw [cls_get (by rw [canL_length]; exact hi), e]; have := hc.1; omega
  rwa [C.can] at this
theorem Quo.rn (H : DV L s F N) (Q : Quo L s F N p G M) : ∀ (v : List Nat) x, InR F.length x → Wd L.toNat v → Sim.rn (Sim.dl M) (cls p x) v = cls p (Sim.rn (Sim.dl N) x v)
  | [], _, _, _ => rfl
  | a :: v, x, hx, hv => by
    have ha := hv a (by simp)
    rw [rn_cons, rn_cons, Q.dl x hx a ha]
    exact Q.rn H v _ (H.dl_range hx.1 hx.2 ha) (fun b hb => hv b (List.mem_cons_of_mem _ hb))
theorem Quo.lng (H : DV L s F N) (Q : Quo L s F N p G M) {v : List Nat} (hv : Wd L.toNat v) {x : Int} (hx : InR F.length x) : lng (cls p x) G M v = lng x F N v := by
  unfold Sim.lng
  rw [Q.rn H v x hx hv, Q.fin _ (H.rn_range v hx.1 hx.2 hv)]
theorem Quo.dv (H : DV L s F N) (C : Cls L F N p) (Q : Quo L s F N p G M) : DV L (cls p s) G M := by
  have hs : InR F.length s := ⟨H.s0, H.s1⟩
  have r := C.range hs
  have hn : ncl p ≤ F.length := by have := ncl_le_length p; have := C.len; omega
  refine ⟨H.l1, H.l6, by rw [Q.lenG]; have := r.1; have := r.2; omega, by rw [Q.lenG]; have := H.n5; omega, by rw [Q.lenG, Q.lenM], r.1, by rw [Q.lenG]; exact r.2, fun w hw => ⟨Q.row w hw, fun y hy => ?_⟩⟩
  obtain ⟨i, hi, rfl⟩ := List.mem_iff_getElem.1 hw
  obtain ⟨a, ha, rfl⟩ := List.mem_iff_getElem.1 hy
  obtain ⟨x, hx, e⟩ := C.surj (c := i) ⟨by omega, by rw [← Q.lenM]; omega⟩
  have hl := Q.row _ (List.getElem_mem hi)
  have haL : a < L.toNat := by omega
  have := Q.dl x hx a haL
  rw [e] at this
  have e2 : Sim.dl M (i : Int) a = M[i][a] := by simp [Sim.dl, hi, ha]
  rw [← e2, this, Q.lenG]
  exact C.range (H.dl_range hx.1 hx.2 haL)
theorem Quo.red (H : DV L s F N) (C : Cls L F N p) (Q : Quo L s F N p G M) : Red L G M := by
  intro c d hc0 hc hd0 hd h
  rw [Q.lenG] at hc hd
  obtain ⟨x, hx, rfl⟩ := C.surj ⟨hc0, hc⟩; obtain ⟨y, hy, rfl⟩ := C.surj ⟨hd0, hd⟩
  refine (C.iff x y hx hy).2 (fun v hv => ?_)
  have a1 := Q.lng H hv hx; have a2 := Q.lng H hv hy; have a3 := h v hv
  unfold Sim.lng at a1 a2
  rw [← a1, ← a2]; exact a3
end
end Go.Proofs.Yteblfhhhbfodgaa.Sim
