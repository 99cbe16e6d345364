-- Plain proof of MinimizeTurned (texts of wip/sim/pure, expanded by macros.py).
import Derived.Test.YteblfhhhbfodgaaP6
import Derived.Test.YteblfhhhbfodgaaPA
set_option linter.unusedVariables false
set_option linter.unusedSimpArgs false
set_option maxRecDepth 4000
namespace Go.Proofs.Yteblfhhhbfodgaa.Sim
open Go
theorem turn_ok {n : Nat} (h0 : 0 < n) (h1 : n ≤ 1000) (a : Int) : 0 ≤ (IntKind.i64.wrap (a.tmod n + n)).tmod n ∧ (IntKind.i64.wrap (a.tmod n + n)).tmod n < n := by
  have a1 := Int.tmod_lt_of_pos a (b := n) (by omega)
  have a2 := Int.lt_tmod_of_pos a (b := n) (by omega)
  rw [wrap_i64 (by omega) (by omega), Int.tmod_eq_emod_of_nonneg (by omega)]
  exact ⟨Int.emod_nonneg _ (by omega), Int.emod_lt_of_pos _ (by omega)⟩
theorem MinimizeTurned_law (L s : Int) (F : List Bool) (N : List (List Int)) (what at_ to_ : Int) (w : ByteArray) : ∃ k, semigrouplaw08_MinimizeTurned.f k L s F N what at_ to_ w = some true := by
  refine ⟨2000000, ?_⟩
  generalize hk : 2000000 = k
  have ha := awake_ok (k := k) (by omega)
  rw [semigrouplaw08_MinimizeTurned.f_eq]
  by_cases h1 : (F.length : Int) ≤ 12 ∧ DV L s F N
  case neg => rw [small_no h1 (by omega), ob, Bool.not_false, cond_true, ha, ob]
  obtain ⟨G, M, ws, to, acc, ts, e, h, P⟩ := minimize_Prove_ok h1.2 (k := k) (by omega)
  have hj : ∀ m acc ts, semigrouplaw08_MinimizeTurned.j0 k L s F N L 0 G M m acc ts = some true := fun m acc ts => by
    obtain ⟨b, e, h⟩ := minimize_Check_ok L s F N L 0 G M m acc ts (k := k) (by omega)
    obtain ⟨b', e', h'⟩ := semigroupref08_Check_ok L s F N L 0 G M m acc ts (k := k) (by omega)
    have hb : b = b' := Bool.eq_iff_iff.2 (h.trans h'.symm)
    rw [semigrouplaw08_MinimizeTurned.j0_eq, e, ob, e', ob, hb, beq_self_eq_true, cond_true, ha, ob]
  have hm := P.lm; have hac := P.la; have hts := P.lt
  have h5 := P.d.n5; have h6 := P.d.n1; have h7 := P.m'.n5; have h8 := P.m'.n1
  rw [small_yes h1.2 h1.1 (by omega), ob, Bool.not_true, cond_false, e, ob]
  dsimp only
  simp only [List.nil_append, List.length_nil, Nat.zero_add, hm, hac, List.length_singleton]
  rw [bne_self_eq_false, cond_false, bne_self_eq_false, cond_false, bne_self_eq_false, cond_false]
  have t1 := turn_ok (n := F.length) (by omega) (by omega) at_
  have t2 := turn_ok (n := G.length) (by omega) (by omega) at_
  generalize IntKind.i64.wrap ((BitVec.ofInt IntKind.i64.bits what &&& BitVec.ofInt IntKind.i64.bits 3).toNat : Int) = c
  rw [if_pos (by omega), if_pos (by omega), if_pos (by omega)]
  cases c == 0
  case true => rw [cond_true]; (repeat (first | rw [if_pos (by omega)] | rw [decide_eq_true (by omega), cond_true] | rw [decide_eq_false (by omega), cond_false])); exact hj _ _ _
  rw [cond_false]
  cases c == 1
  case true => rw [cond_true]; (repeat (first | rw [if_pos (by omega)] | rw [decide_eq_true (by omega), cond_true] | rw [decide_eq_false (by omega), cond_false])); exact hj _ _ _
  rw [cond_false]
  cases c == 2
  case true =>
    rw [cond_true]
    by_cases h0 : 0 < ts.length
    · have t3 := turn_ok (n := ts.length) h0 (by omega) at_
      (repeat (first | rw [if_pos (by omega)] | rw [decide_eq_true (by omega), cond_true] | rw [decide_eq_false (by omega), cond_false]))
      exact hj _ _ _
    · rw [decide_eq_false (by omega), cond_false]; exact hj _ _ _
  rw [cond_false]
  (repeat (first | rw [if_pos (by omega)] | rw [decide_eq_true (by omega), cond_true] | rw [decide_eq_false (by omega), cond_false]))
  exact hj _ _ _

theorem Pure.MinimizeTurned (a0_0 : Int) (a0_1 : Int) (a0_2 : List Bool) (a0_3 : List (List Int)) (a1 : Int) (a2 : Int) (a3 : Int) (a4 : ByteArray) (h0 : ((Lit.int .i64 (a0_0 : Int)).wf = true ∧ ((Lit.int .i64 (a0_1 : Int)).wf = true ∧ ((List.length a0_2 * 1 ≤ 140737488351232 ∧ ∀ y0_ ∈ a0_2, True) ∧ ((List.length a0_3 * 24 ≤ 140737488351232 ∧ ∀ y0_ ∈ a0_3, (List.length y0_ * 8 ≤ 140737488351232 ∧ ∀ y1_ ∈ y0_, (Lit.int .i64 (y1_ : Int)).wf = true)) ∧ True))))) (h1 : (Lit.int .i64 (a1 : Int)).wf = true) (h2 : (Lit.int .i64 (a2 : Int)).wf = true) (h3 : (Lit.int .i64 (a3 : Int)).wf = true) (h4 : ByteArray.size a4 ≤ 140737488351232) : ∃ k, semigrouplaw08_MinimizeTurned.f k a0_0 a0_1 a0_2 a0_3 a1 a2 a3 a4 = some true := MinimizeTurned_law _ _ _ _ _ _ _ _
end Go.Proofs.Yteblfhhhbfodgaa.Sim
