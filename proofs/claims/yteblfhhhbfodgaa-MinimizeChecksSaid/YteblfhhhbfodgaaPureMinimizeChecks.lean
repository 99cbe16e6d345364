-- Plain proof of MinimizeChecks (texts of wip/sim/pure, expanded by macros.py).
import Derived.Test.YteblfhhhbfodgaaP5
import Derived.Test.YteblfhhhbfodgaaPA
set_option linter.unusedVariables false
set_option linter.unusedSimpArgs false
set_option maxRecDepth 4000
namespace Go.Proofs.Yteblfhhhbfodgaa.Sim
open Go
theorem MinimizeChecks_law (L s : Int) (F : List Bool) (N : List (List Int)) (L' s' : Int) (G : List Bool) (M : List (List Int)) (m : List Int) (acc ts : List ByteArray) : ∃ k, semigrouplaw08_MinimizeChecks.f k L s F N L' s' G M m acc ts = some true := by
  refine ⟨2000000, ?_⟩
  generalize hk : 2000000 = k
  have ha := awake_ok (k := k) (by omega)
  obtain ⟨b, e, h⟩ := minimize_Check_ok L s F N L' s' G M m acc ts (k := k) (by omega)
  obtain ⟨b', e', h'⟩ := semigroupref08_Check_ok L s F N L' s' G M m acc ts (k := k) (by omega)
  have hb : b = b' := Bool.eq_iff_iff.2 (h.trans h'.symm)
  rw [semigrouplaw08_MinimizeChecks.f_eq, e, e', ha, hb]
  simp only [ob, beq_self_eq_true, c1]
  rw [ii, ii]

theorem Pure.MinimizeChecks (a0_0 : Int) (a0_1 : Int) (a0_2 : List Bool) (a0_3 : List (List Int)) (a1_0 : Int) (a1_1 : Int) (a1_2 : List Bool) (a1_3 : List (List Int)) (a2_0 : List Int) (a2_1 : List ByteArray) (a2_2 : List ByteArray) (h0 : ((Lit.int .i64 (a0_0 : Int)).wf = true ∧ ((Lit.int .i64 (a0_1 : Int)).wf = true ∧ ((List.length a0_2 * 1 ≤ 140737488351232 ∧ ∀ y0_ ∈ a0_2, True) ∧ ((List.length a0_3 * 24 ≤ 140737488351232 ∧ ∀ y0_ ∈ a0_3, (List.length y0_ * 8 ≤ 140737488351232 ∧ ∀ y1_ ∈ y0_, (Lit.int .i64 (y1_ : Int)).wf = true)) ∧ True))))) (h1 : ((Lit.int .i64 (a1_0 : Int)).wf = true ∧ ((Lit.int .i64 (a1_1 : Int)).wf = true ∧ ((List.length a1_2 * 1 ≤ 140737488351232 ∧ ∀ y0_ ∈ a1_2, True) ∧ ((List.length a1_3 * 24 ≤ 140737488351232 ∧ ∀ y0_ ∈ a1_3, (List.length y0_ * 8 ≤ 140737488351232 ∧ ∀ y1_ ∈ y0_, (Lit.int .i64 (y1_ : Int)).wf = true)) ∧ True))))) (h2 : ((List.length a2_0 * 8 ≤ 140737488351232 ∧ ∀ y0_ ∈ a2_0, (Lit.int .i64 (y0_ : Int)).wf = true) ∧ ((List.length a2_1 * 16 ≤ 140737488351232 ∧ ∀ y0_ ∈ a2_1, ByteArray.size y0_ ≤ 140737488351232) ∧ ((List.length a2_2 * 16 ≤ 140737488351232 ∧ ∀ y0_ ∈ a2_2, ByteArray.size y0_ ≤ 140737488351232) ∧ True)))) : ∃ k, semigrouplaw08_MinimizeChecks.f k a0_0 a0_1 a0_2 a0_3 a1_0 a1_1 a1_2 a1_3 a2_0 a2_1 a2_2 = some true := MinimizeChecks_law _ _ _ _ _ _ _ _ _ _ _
end Go.Proofs.Yteblfhhhbfodgaa.Sim
