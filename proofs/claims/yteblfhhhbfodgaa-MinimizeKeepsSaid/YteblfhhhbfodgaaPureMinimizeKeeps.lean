-- Plain proof of MinimizeKeeps (texts of wip/sim/pure, expanded by macros.py).
import Derived.Test.YteblfhhhbfodgaaP4
import Derived.Test.YteblfhhhbfodgaaPA
set_option linter.unusedVariables false
set_option linter.unusedSimpArgs false
set_option maxRecDepth 4000
namespace Go.Proofs.Yteblfhhhbfodgaa.Sim
open Go
theorem MinimizeKeeps_law (L s : Int) (F : List Bool) (N : List (List Int)) (w : ByteArray) : ∃ k, semigrouplaw08_MinimizeKeeps.f k L s F N w = some true := by
  refine ⟨200000, ?_⟩
  generalize hk : 200000 = k
  have ha := awake_ok (k := k) (by omega)
  rw [semigrouplaw08_MinimizeKeeps.f_eq]
  by_cases hs : (F.length : Int) ≤ 30 ∧ DV L s F N
  · obtain ⟨h30, H⟩ := hs
    obtain ⟨G, M, ws, e, h⟩ := minimize_Minimal_ok H (k := k) (by omega)
    obtain ⟨e1, ν, e2⟩ := h.self (k := k) (by omega)
    have H1 := h.can.dv
    have hle := h.le H
    obtain ⟨p, e3, C⟩ := minimize_Classes_ok H1 (k := k) (by omega)
    have hp := C.len
    have hd := cls_disc C h.red
    rw [small_yes H h30 (by omega), Option.bind_some, Bool.not_true, cond_false, e, Option.bind_some]
    dsimp only
    rw [e2, Option.bind_some, dfa_Validate_ok _ _ _ _ (by omega), dfaE_zero.2 H1, Option.bind_some, dfa_Accepts_ok H1 _ (by omega), dfa_Accepts_ok H _ (by omega), h.acc, e1]
    dsimp only
    rw [same_can h.can (by omega), e3, semigroupref03_Discrete_ok _ (by omega) (by omega)]
    simp only [ob, beq_self_eq_true, c1]
    rw [decide_eq_true (by omega), cond_true, same_can h.can (by omega), semigroupref03_Same_ok _ _ (by omega) (by omega), decide_eq_true hd]
    simp only [ob, c1, ha]
  · rw [small_no hs (by omega), Option.bind_some, Bool.not_false, cond_true, ha, Option.bind_some]

theorem Pure.MinimizeKeeps (a0_0 : Int) (a0_1 : Int) (a0_2 : List Bool) (a0_3 : List (List Int)) (a1 : ByteArray) (h0 : ((Lit.int .i64 (a0_0 : Int)).wf = true ∧ ((Lit.int .i64 (a0_1 : Int)).wf = true ∧ ((List.length a0_2 * 1 ≤ 140737488351232 ∧ ∀ y0_ ∈ a0_2, True) ∧ ((List.length a0_3 * 24 ≤ 140737488351232 ∧ ∀ y0_ ∈ a0_3, (List.length y0_ * 8 ≤ 140737488351232 ∧ ∀ y1_ ∈ y0_, (Lit.int .i64 (y1_ : Int)).wf = true)) ∧ True))))) (h1 : ByteArray.size a1 ≤ 140737488351232) : ∃ k, semigrouplaw08_MinimizeKeeps.f k a0_0 a0_1 a0_2 a0_3 a1 = some true := MinimizeKeeps_law _ _ _ _ _
end Go.Proofs.Yteblfhhhbfodgaa.Sim
