-- Plain proof of MinimizeDistinguishes (texts of wip/sim/pure, expanded by macros.py).
import Derived.Test.YteblfhhhbfodgaaP3
import Derived.Test.YteblfhhhbfodgaaPA
set_option linter.unusedVariables false
set_option linter.unusedSimpArgs false
set_option maxRecDepth 4000
namespace Go.Proofs.Yteblfhhhbfodgaa.Sim
open Go
theorem bne_dfaE {L s : Int} {F : List Bool} {N : List (List Int)} (H : ¬ DV L s F N) : (dfaE L s F N != 0) = true := bne_iff_ne.2 (fun h => H (dfaE_zero.1 h))
theorem MinimizeDistinguishes_law (L s : Int) (F : List Bool) (N : List (List Int)) (p q : Int) : ∃ k, semigrouplaw08_MinimizeDistinguishes.f k L s F N p q = some true := by
  refine ⟨2000000, ?_⟩
  generalize hk : 2000000 = k
  have ha := awake_ok (k := k) (by omega)
  rw [semigrouplaw08_MinimizeDistinguishes.f_eq, semigroupref07_Validate_ok _ _ _ _ (by omega)]
  by_cases H : DV L s F N
  · by_cases hp : InR F.length p
    · by_cases hq : InR F.length q
      · obtain ⟨r, e, h⟩ := minimize_Distinguish_ok H hp hq (k := k) (by omega)
        obtain ⟨r', e', h'⟩ := semigroupref08_Distinguish_ok H hp hq (k := k) (by omega)
        obtain rfl := h.unique h'
        have a1 := hp.1; have a2 := hp.2; have a3 := hq.1; have a4 := hq.2
        rw [e, Option.bind_some, Option.bind_some, dfaE_zero.2 H, show ((0 : Int) != 0) = false from rfl, cond_false]
        (repeat (first | rw [if_pos (by omega)] | rw [decide_eq_true (by omega), cond_true] | rw [decide_eq_false (by omega), cond_false]))
        rw [e', ha]
        simp only [ob, beq_self_eq_true, c1]
        cases decide ((F.length : Int) > 20) <;> rfl
      · rw [minimize_Distinguish_no H (fun h => hq h.2) (by omega), Option.bind_some, Option.bind_some, dfaE_zero.2 H, ha]
        simp only [ob, beq_self_eq_true, c1, Bool.not_false, c0, show ((0 : Int) != 0) = false from rfl]
        have a1 := hp.1; have a2 := hp.2
        (repeat (first | rw [if_pos (by omega)] | rw [decide_eq_true (by omega), cond_true] | rw [decide_eq_false (by omega), cond_false]))
        by_cases h1 : q < 0
        · rw [decide_eq_true h1, cond_true]
        · have h2 : q ≥ F.length := Int.not_lt.1 (fun h => hq ⟨by omega, h⟩)
          rw [decide_eq_false h1, cond_false, decide_eq_true h2, cond_true]
    · rw [minimize_Distinguish_no H (fun h => hp h.1) (by omega), Option.bind_some, Option.bind_some, dfaE_zero.2 H, ha]
      simp only [ob, beq_self_eq_true, c1, Bool.not_false, c0, show ((0 : Int) != 0) = false from rfl]
      by_cases h1 : p < 0
      · rw [decide_eq_true h1, cond_true]
      · have h2 : p ≥ F.length := Int.not_lt.1 (fun h => hp ⟨by omega, h⟩)
        rw [decide_eq_false h1, cond_false, decide_eq_true h2, cond_true]
  · rw [minimize_Distinguish_bad H (by omega), Option.bind_some, Option.bind_some, bne_dfaE H, cond_true, ha]
    simp only [ob, beq_self_eq_true, c1, Bool.not_false]

theorem Pure.MinimizeDistinguishes (a0_0 : Int) (a0_1 : Int) (a0_2 : List Bool) (a0_3 : List (List Int)) (a1 : Int) (a2 : Int) (h0 : ((Lit.int .i64 (a0_0 : Int)).wf = true ∧ ((Lit.int .i64 (a0_1 : Int)).wf = true ∧ ((List.length a0_2 * 1 ≤ 140737488351232 ∧ ∀ y0_ ∈ a0_2, True) ∧ ((List.length a0_3 * 24 ≤ 140737488351232 ∧ ∀ y0_ ∈ a0_3, (List.length y0_ * 8 ≤ 140737488351232 ∧ ∀ y1_ ∈ y0_, (Lit.int .i64 (y1_ : Int)).wf = true)) ∧ True))))) (h1 : (Lit.int .i64 (a1 : Int)).wf = true) (h2 : (Lit.int .i64 (a2 : Int)).wf = true) : ∃ k, semigrouplaw08_MinimizeDistinguishes.f k a0_0 a0_1 a0_2 a0_3 a1 a2 = some true := MinimizeDistinguishes_law _ _ _ _ _ _
end Go.Proofs.Yteblfhhhbfodgaa.Sim
