-- Plain proof of MinimizeProves (texts of wip/sim/pure, expanded by macros.py).
import Derived.Test.YteblfhhhbfodgaaP6
import Derived.Test.YteblfhhhbfodgaaPA
set_option linter.unusedVariables false
set_option linter.unusedSimpArgs false
set_option maxRecDepth 4000
namespace Go.Proofs.Yteblfhhhbfodgaa.Sim
open Go
theorem Same_zero {k : Nat} (hk : 100001 < k) : semigroupref07_Same.f k 0 0 [] [] 0 0 [] [] = some true := semigroupref07_Same_refl (by simp) (by simp) (fun r hr => by cases hr) hk
theorem MinimizeProves_law (L s : Int) (F : List Bool) (N : List (List Int)) : ∃ k, semigrouplaw08_MinimizeProves.f k L s F N = some true := by
  refine ⟨2000000, ?_⟩
  generalize hk : 2000000 = k
  have ha := awake_ok (k := k) (by omega)
  rw [semigrouplaw08_MinimizeProves.f_eq]
  by_cases H : DV L s F N
  · obtain ⟨G, M, ws, to, acc, ts, e, h, P⟩ := minimize_Prove_ok H (k := k) (by omega)
    obtain ⟨G', M', ws', e', h'⟩ := semigroupref08_Minimal_ok H (k := k) (by omega)
    obtain ⟨rfl, rfl, _⟩ := minOf_unique h h' (fun _ _ => rfl)
    obtain ⟨b1, e1, h1⟩ := minimize_Check_ok L s F N L 0 G M to acc ts (k := k) (by omega)
    obtain ⟨b2, e2, h2⟩ := semigroupref08_Check_ok L s F N L 0 G M to acc ts (k := k) (by omega)
    obtain rfl := h1.2 P
    obtain rfl := h2.2 P
    rw [e, ob, semigroupref07_Validate_ok _ _ _ _ (by omega), ob, dfaE_zero.2 H, bne_self_eq_false, cond_false, ha]
    dsimp only
    rw [beq_self_eq_true, cond_true, e']
    simp only [ob]
    rw [same_can h.can (by omega)]
    simp only [ob, c1, e2, e1]
    rw [ii]
  · rw [minimize_Prove_bad H (by omega), ob, semigroupref07_Validate_ok _ _ _ _ (by omega), ob, bne_iff_ne.2 (fun h => H (dfaE_zero.1 h)), cond_true, ha]
    rw [beq_self_eq_true, cond_true, Same_zero (by omega), ob, cond_true, ob]
    rfl

theorem Pure.MinimizeProves (a0_0 : Int) (a0_1 : Int) (a0_2 : List Bool) (a0_3 : List (List Int)) (h0 : ((Lit.int .i64 (a0_0 : Int)).wf = true ∧ ((Lit.int .i64 (a0_1 : Int)).wf = true ∧ ((List.length a0_2 * 1 ≤ 140737488351232 ∧ ∀ y0_ ∈ a0_2, True) ∧ ((List.length a0_3 * 24 ≤ 140737488351232 ∧ ∀ y0_ ∈ a0_3, (List.length y0_ * 8 ≤ 140737488351232 ∧ ∀ y1_ ∈ y0_, (Lit.int .i64 (y1_ : Int)).wf = true)) ∧ True))))) : ∃ k, semigrouplaw08_MinimizeProves.f k a0_0 a0_1 a0_2 a0_3 = some true := MinimizeProves_law _ _ _ _
end Go.Proofs.Yteblfhhhbfodgaa.Sim
