-- Plain proof of MinimizeMinimal (texts of wip/sim/pure, expanded by macros.py).
import Derived.Test.YteblfhhhbfodgaaP2
import Derived.Test.YteblfhhhbfodgaaPA
set_option linter.unusedVariables false
set_option linter.unusedSimpArgs false
set_option maxRecDepth 4000
namespace Go.Proofs.Yteblfhhhbfodgaa.Sim
open Go

theorem MinOf.same {L s s' : Int} {F F' : List Bool} {N N' : List (List Int)} {G G' : List Bool} {M M' : List (List Int)} {ws ws' : List (List Nat)} (h : MinOf L s F N G M ws) (h' : MinOf L s' F' N' G' M' ws') (hl : ∀ v, Wd L.toNat v → Sim.lng s F N v = Sim.lng s' F' N' v) {k : Nat} (hk : 100001 < k) : semigroupref07_Same.f k L 0 G M L 0 G' M' = some true := by
  obtain ⟨rfl, rfl, rfl⟩ := minOf_unique h h' hl
  have H := h.can.dv
  have h5 := H.n5; have hnn := H.nn
  exact semigroupref07_Same_refl (by omega) (by omega) (fun r hr => by have := (H.row r hr).1; have := H.l6; omega) hk
theorem Same_zero {k : Nat} (hk : 100001 < k) : semigroupref07_Same.f k 0 0 [] [] 0 0 [] [] = some true := semigroupref07_Same_refl (by simp) (by simp) (fun r hr => by cases hr) hk
theorem bne_dfaE {L s : Int} {F : List Bool} {N : List (List Int)} (H : ¬ DV L s F N) : (dfaE L s F N != 0) = true := bne_iff_ne.2 (fun h => H (dfaE_zero.1 h))
theorem MinimizeMinimal_law (L s : Int) (F : List Bool) (N : List (List Int)) : ∃ k, semigrouplaw08_MinimizeMinimal.f k L s F N = some true := by
  refine ⟨200000, ?_⟩
  generalize hk : 200000 = k
  rw [semigrouplaw08_MinimizeMinimal.f_eq, semigroupref07_Validate_ok _ _ _ _ (by omega)]
  have ha := awake_ok (k := k) (by omega)
  by_cases H : DV L s F N
  · obtain ⟨G, M, ws, e, h⟩ := minimize_Minimal_ok H (k := k) (by omega)
    obtain ⟨G', M', ws', e', h'⟩ := semigroupref08_Minimal_ok H (k := k) (by omega)
    rw [e, Option.bind_some, Option.bind_some, dfaE_zero.2 H, show ((0 : Int) != 0) = false from rfl, cond_false, e', ha, Option.bind_some, Option.bind_some]
    dsimp only
    rw [h.same h' (fun _ _ => rfl) (by omega)]
    simp only [Option.bind_some, cond_true]
    cases decide ((F.length : Int) > 30) <;> rfl
  · rw [minimize_Minimal_bad H (by omega), Option.bind_some, Option.bind_some, bne_dfaE H, cond_true]
    dsimp only
    rw [Same_zero (by omega), Option.bind_some, cond_true, ha, Option.bind_some]

theorem Pure.MinimizeMinimal (a0_0 : Int) (a0_1 : Int) (a0_2 : List Bool) (a0_3 : List (List Int)) (h0 : ((Lit.int .i64 (a0_0 : Int)).wf = true ∧ ((Lit.int .i64 (a0_1 : Int)).wf = true ∧ ((List.length a0_2 * 1 ≤ 140737488351232 ∧ ∀ y0_ ∈ a0_2, True) ∧ ((List.length a0_3 * 24 ≤ 140737488351232 ∧ ∀ y0_ ∈ a0_3, (List.length y0_ * 8 ≤ 140737488351232 ∧ ∀ y1_ ∈ y0_, (Lit.int .i64 (y1_ : Int)).wf = true)) ∧ True))))) : ∃ k, semigrouplaw08_MinimizeMinimal.f k a0_0 a0_1 a0_2 a0_3 = some true := MinimizeMinimal_law _ _ _ _
end Go.Proofs.Yteblfhhhbfodgaa.Sim
