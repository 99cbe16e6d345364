-- Plain proof of MinimizeClasses (texts of wip/sim/pure, expanded by macros.py).
import Derived.Test.YteblfhhhbfodgaaP2
import Derived.Test.YteblfhhhbfodgaaPA
set_option linter.unusedVariables false
set_option linter.unusedSimpArgs false
set_option maxRecDepth 4000
namespace Go.Proofs.Yteblfhhhbfodgaa.Sim
open Go
theorem minimize_Classes_ok {L s : Int} {F : List Bool} {N : List (List Int)} (H : DV L s F N) {k : Nat} (hk : 5000 < k) : ∃ p, minimize_Classes.f k L s F N = some p ∧ Cls L F N p := by
  obtain ⟨p, e, C⟩ := minimize_classes_ok H hk
  exact ⟨p, by rw [minimize_Classes.f_eq, dfa_Validate_ok _ _ _ _ (by omega), dfaE_zero.2 H, Option.bind_some, show ((0 : Int) != 0) = false from rfl, cond_false, e, Option.bind_some], C⟩
theorem minimize_Classes_bad {L s : Int} {F : List Bool} {N : List (List Int)} (H : ¬ DV L s F N) {k : Nat} (hk : 5000 < k) : minimize_Classes.f k L s F N = some [] := by
  rw [minimize_Classes.f_eq, dfa_Validate_ok _ _ _ _ (by omega), Option.bind_some, bne_iff_ne.2 (fun h => H (dfaE_zero.1 h)), cond_true]
theorem MinimizeClasses_law (L s : Int) (F : List Bool) (N : List (List Int)) : ∃ k, semigrouplaw08_MinimizeClasses.f k L s F N = some true := by
  refine ⟨200000, ?_⟩
  generalize hk : 200000 = k
  rw [semigrouplaw08_MinimizeClasses.f_eq, semigroupref07_Validate_ok _ _ _ _ (by omega)]
  have ha := awake_ok (k := k) (by omega)
  by_cases H : DV L s F N
  · obtain ⟨p, e, C⟩ := minimize_Classes_ok H (k := k) (by omega)
    obtain ⟨q, e', C'⟩ := semigroupref08_Classes_ok H (k := k) (by omega)
    obtain rfl := cls_unique C C'
    have hp := C.len; have h5 := H.n5
    rw [e, Option.bind_some, Option.bind_some, dfaE_zero.2 H, show ((0 : Int) != 0) = false from rfl, cond_false, e', ha, Option.bind_some, Option.bind_some, semigroupref03_Same_ok _ _ (by omega) (by omega), Option.bind_some, decide_eq_true rfl, cond_true]
    cases decide ((F.length : Int) > 30) <;> rfl
  · rw [minimize_Classes_bad H (by omega), Option.bind_some, Option.bind_some, bne_iff_ne.2 (fun h => H (dfaE_zero.1 h)), cond_true, ha]; rfl

theorem Pure.MinimizeClasses (a0_0 : Int) (a0_1 : Int) (a0_2 : List Bool) (a0_3 : List (List Int)) (h0 : ((Lit.int .i64 (a0_0 : Int)).wf = true ∧ ((Lit.int .i64 (a0_1 : Int)).wf = true ∧ ((List.length a0_2 * 1 ≤ 140737488351232 ∧ ∀ y0_ ∈ a0_2, True) ∧ ((List.length a0_3 * 24 ≤ 140737488351232 ∧ ∀ y0_ ∈ a0_3, (List.length y0_ * 8 ≤ 140737488351232 ∧ ∀ y1_ ∈ y0_, (Lit.int .i64 (y1_ : Int)).wf = true)) ∧ True))))) : ∃ k, semigrouplaw08_MinimizeClasses.f k a0_0 a0_1 a0_2 a0_3 = some true := MinimizeClasses_law _ _ _ _
end Go.Proofs.Yteblfhhhbfodgaa.Sim
