-- Plain proof of MinimizeSound (texts of wip/sim/pure, expanded by macros.py).
import Derived.Test.YteblfhhhbfodgaaP5
import Derived.Test.YteblfhhhbfodgaaPA
set_option linter.unusedVariables false
set_option linter.unusedSimpArgs false
set_option maxRecDepth 4000
namespace Go.Proofs.Yteblfhhhbfodgaa.Sim
open Go
section
variable {L s s' : Int} {F G : List Bool} {N M : List (List Int)} {m : List Int} {acc ts : List ByteArray}
theorem PC.rn (h : PC L s F N L s' G M m acc ts) : ∀ (v : List Nat) (x : Int), InR F.length x → 0 ≤ cls m x → Wd L.toNat v → 0 ≤ cls m (Sim.rn (dl N) x v) ∧ cls m (Sim.rn (dl N) x v) = Sim.rn (dl M) (cls m x) v
  | [], x, hx, h0, _ => ⟨h0, rfl⟩
  | a :: v, x, hx, h0, hv => by
    have ha := hv a (by simp)
    have hs := List.all_eq_true.1 h.steps x.toNat (List.mem_range.2 (by have := hx.1; have := hx.2; omega))
    rw [show ((x.toNat : Nat) : Int) = x by have := hx.1; omega] at hs
    unfold bStep at hs
    rw [decide_eq_false (by omega), Bool.false_or, Bool.and_eq_true, List.all_eq_true] at hs
    have he := beq_iff_eq.1 (hs.2 a (List.mem_range.2 ha))
    have hr := h.d.dl_range hx.1 hx.2 ha
    have hmr := bMap_at h.map (x := x) ⟨hx.1, by rw [h.lm]; exact hx.2⟩
    have hr' := h.m'.dl_range h0 hmr.2 ha
    rw [rn_cons, rn_cons, ← he]
    exact PC.rn h v _ hr (by omega) (fun b hb => hv b (List.mem_cons_of_mem _ hb))
theorem PC.lng (h : PC L s F N L s' G M m acc ts) {v : List Nat} (hv : Wd L.toNat v) : Sim.lng s F N v = Sim.lng s' G M v := by
  have hs : InR F.length s := ⟨h.d.s0, h.d.s1⟩
  have h0 : 0 ≤ cls m s := by rw [h.start]; exact h.m'.s0
  obtain ⟨h1, h2⟩ := h.rn v s hs h0 hv
  have hr := h.d.rn_range v h.d.s0 h.d.s1 hv
  have hf := List.all_eq_true.1 h.steps (Sim.rn (dl N) s v).toNat (List.mem_range.2 (by omega))
  rw [show (((Sim.rn (dl N) s v).toNat : Nat) : Int) = Sim.rn (dl N) s v by omega] at hf
  unfold bStep at hf
  rw [decide_eq_false (by omega), Bool.false_or, Bool.and_eq_true] at hf
  have he := beq_iff_eq.1 hf.1
  unfold Sim.lng
  rw [he, h2, h.start]
theorem PC.red (h : PC L s F N L s' G M m acc ts) : Red L G M := fun x y hx0 hx hy0 hy he => h.dst x y ⟨hx0, hx⟩ ⟨hy0, hy⟩ (fun w hw => he _ (wval_iff.1 (List.all_eq_true.1 h.val w hw)).wd)
end
theorem MinimizeSound_law (L s : Int) (F : List Bool) (N : List (List Int)) (L' s' : Int) (G : List Bool) (M : List (List Int)) (m : List Int) (acc ts : List ByteArray) (w : ByteArray) : ∃ k, semigrouplaw08_MinimizeSound.f k L s F N L' s' G M m acc ts w = some true := by
  refine ⟨2000000, ?_⟩
  generalize hk : 2000000 = k
  have ha := awake_ok (k := k) (by omega)
  rw [semigrouplaw08_MinimizeSound.f_eq]
  by_cases h1 : (F.length : Int) ≤ 12 ∧ DV L s F N
  case neg => rw [small_no h1 (by omega), ob, Bool.not_false, cond_true, ha, ob]
  by_cases h2 : (G.length : Int) ≤ 12 ∧ DV L' s' G M
  case neg => rw [small_yes h1.2 h1.1 (by omega), ob, Bool.not_true, cond_false, small_no h2 (by omega), ob, Bool.not_false, cond_true, ha, ob]
  obtain ⟨b, e, h⟩ := minimize_Check_ok L s F N L' s' G M m acc ts (k := k) (by omega)
  rw [small_yes h1.2 h1.1 (by omega), ob, Bool.not_true, cond_false, small_yes h2.2 h2.1 (by omega), ob, Bool.not_true, cond_false, e, ob]
  cases b with
  | false => rw [Bool.not_false, cond_true, ha, ob]
  | true =>
    have P := h.1 rfl
    obtain rfl := P.l
    obtain ⟨q, ν, e1, _, B, V⟩ := dfa_Trim_ok P.m' (k := k) (by omega)
    obtain ⟨G1, M1, ws, e2, h3⟩ := minimize_Minimal_ok P.d (k := k) (by omega)
    have h4 : MinOf L s F N _ _ _ := ⟨trim_can P.m' rfl B V, trim_red P.m' rfl B V P.red, fun v hv => (trim_lng P.m' rfl B V hv B.hd).trans (P.lng hv).symm⟩
    obtain ⟨e3, e4, _⟩ := minOf_unique h4 h3 (fun _ _ => rfl)
    have hacc : accE L s F N w = accE L s' G M w := by
      unfold accE
      cases hv : wval w L with
      | false => rfl
      | true => rw [P.lng (wval_iff.1 hv).wd]
    rw [Bool.not_true, cond_false, e1, ob, dfa_Accepts_ok P.d _ (by omega), ob, dfa_Accepts_ok P.m' _ (by omega), ob, hacc, beq_self_eq_true, cond_true, e2, ob]
    dsimp only
    rw [e3, e4, same_can h3.can (by omega), ob, cond_true, ha, ob]

theorem Pure.MinimizeSound (a0_0 : Int) (a0_1 : Int) (a0_2 : List Bool) (a0_3 : List (List Int)) (a1_0 : Int) (a1_1 : Int) (a1_2 : List Bool) (a1_3 : List (List Int)) (a2_0 : List Int) (a2_1 : List ByteArray) (a2_2 : List ByteArray) (a3 : ByteArray) (h0 : ((Lit.int .i64 (a0_0 : Int)).wf = true ∧ ((Lit.int .i64 (a0_1 : Int)).wf = true ∧ ((List.length a0_2 * 1 ≤ 140737488351232 ∧ ∀ y0_ ∈ a0_2, True) ∧ ((List.length a0_3 * 24 ≤ 140737488351232 ∧ ∀ y0_ ∈ a0_3, (List.length y0_ * 8 ≤ 140737488351232 ∧ ∀ y1_ ∈ y0_, (Lit.int .i64 (y1_ : Int)).wf = true)) ∧ True))))) (h1 : ((Lit.int .i64 (a1_0 : Int)).wf = true ∧ ((Lit.int .i64 (a1_1 : Int)).wf = true ∧ ((List.length a1_2 * 1 ≤ 140737488351232 ∧ ∀ y0_ ∈ a1_2, True) ∧ ((List.length a1_3 * 24 ≤ 140737488351232 ∧ ∀ y0_ ∈ a1_3, (List.length y0_ * 8 ≤ 140737488351232 ∧ ∀ y1_ ∈ y0_, (Lit.int .i64 (y1_ : Int)).wf = true)) ∧ True))))) (h2 : ((List.length a2_0 * 8 ≤ 140737488351232 ∧ ∀ y0_ ∈ a2_0, (Lit.int .i64 (y0_ : Int)).wf = true) ∧ ((List.length a2_1 * 16 ≤ 140737488351232 ∧ ∀ y0_ ∈ a2_1, ByteArray.size y0_ ≤ 140737488351232) ∧ ((List.length a2_2 * 16 ≤ 140737488351232 ∧ ∀ y0_ ∈ a2_2, ByteArray.size y0_ ≤ 140737488351232) ∧ True)))) (h3 : ByteArray.size a3 ≤ 140737488351232) : ∃ k, semigrouplaw08_MinimizeSound.f k a0_0 a0_1 a0_2 a0_3 a1_0 a1_1 a1_2 a1_3 a2_0 a2_1 a2_2 a3 = some true := MinimizeSound_law _ _ _ _ _ _ _ _ _ _ _ _
end Go.Proofs.Yteblfhhhbfodgaa.Sim
