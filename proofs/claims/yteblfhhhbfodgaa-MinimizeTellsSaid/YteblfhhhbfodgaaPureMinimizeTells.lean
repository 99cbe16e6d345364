-- Plain proof of MinimizeTells (texts of wip/sim/pure, expanded by macros.py).
import Derived.Test.YteblfhhhbfodgaaP4
import Derived.Test.YteblfhhhbfodgaaPA
set_option linter.unusedVariables false
set_option linter.unusedSimpArgs false
set_option maxRecDepth 4000
namespace Go.Proofs.Yteblfhhhbfodgaa.Sim
open Go
theorem fin_getD (F : List Bool) (x : Int) : F.getD x.toNat false = fin F x := rfl
theorem MinimizeTells_j0 {L s : Int} {F : List Bool} {N : List (List Int)} (H : DV L s F N) {p q : Int} (hp : InR F.length p) (hq : InR F.length q) {r : ByteArray × Bool} (h : Least L F F N N p q r) (v : ByteArray) {k : Nat} (hk : 2000000 ≤ k) :
    semigrouplaw08_MinimizeTells.j0 k p q v r.1 r.2 L s F N = some true := by
  have ha := awake_ok (k := k) (by omega)
  have h6 := H.l6
  rw [semigrouplaw08_MinimizeTells.j0_eq, dfa_Run_ok H _ _ (by omega), dfa_Run_ok H _ _ (by omega), ha]
  simp only [ob, c1, c0]
  by_cases hv : WV v L
  · rw [runE_ok hp hv, runE_ok hq hv]
    have r1 := H.rn_range _ hp.1 hp.2 hv.wd; have r2 := H.rn_range _ hq.1 hq.2 hv.wd
    rw [fin_getD, fin_getD]
    (repeat (first | rw [if_pos (by omega)] | rw [decide_eq_true (by omega), cond_true] | rw [decide_eq_false (by omega), cond_false]))
    by_cases hf : fin F (rn (dl N) p (lets v)) = fin F (rn (dl N) q (lets v))
    · rw [beq_iff_eq.2 hf, Bool.not_true, cond_false]
    · rw [beq_eq_false_iff_ne.2 hf, Bool.not_false, cond_true]
      rcases h with ⟨w, rfl, h1, h2, h3⟩ | ⟨rfl, h1⟩
      · obtain ⟨c, e, hc⟩ := Compare_sle (k := k) (h1.mono (n := 6) (by omega)) (hv.wd.mono (n := 6) (by omega)) (h3 _ hv.wd hf)
        dsimp only
        rw [wordOf_lets hv] at e
        rw [Bool.not_true, cond_false, e, ob, decide_eq_false (by omega), cond_false]
      · exact absurd (h1 _ hv.wd) hf
  · have e : runE L s F N p v = -1 := by unfold runE; rw [if_neg (fun hh => hv (wval_iff.1 hh.2.2))]
    rw [e, decide_eq_false (by omega), cond_false]
theorem MinimizeTells_law (L s : Int) (F : List Bool) (N : List (List Int)) (p q : Int) (v : ByteArray) : ∃ k, semigrouplaw08_MinimizeTells.f k L s F N p q v = some true := by
  refine ⟨2000000, ?_⟩
  generalize hk : 2000000 = k
  have ha := awake_ok (k := k) (by omega)
  rw [semigrouplaw08_MinimizeTells.f_eq]
  by_cases hs : (F.length : Int) ≤ 20 ∧ DV L s F N
  · obtain ⟨h20, H⟩ := hs
    rw [small_yes H h20 (by omega), ob, Bool.not_true, cond_false]
    by_cases h1 : p < 0
    · rw [decide_eq_true h1, cond_true, ha, ob]
    by_cases h2 : p ≥ F.length
    · rw [decide_eq_false h1, cond_false, decide_eq_true h2, cond_true, ha, ob]
    by_cases h3 : q < 0
    · rw [decide_eq_false h1, cond_false, decide_eq_false h2, cond_false, decide_eq_true h3, cond_true, ha, ob]
    by_cases h4 : q ≥ F.length
    · rw [decide_eq_false h1, cond_false, decide_eq_false h2, cond_false, decide_eq_false h3, cond_false, decide_eq_true h4, cond_true, ha, ob]
    have hp : InR F.length p := ⟨by omega, by omega⟩
    have hq : InR F.length q := ⟨by omega, by omega⟩
    obtain ⟨c, e, C⟩ := minimize_Classes_ok H (k := k) (by omega)
    obtain ⟨r, e', h⟩ := minimize_Distinguish_ok H hp hq (k := k) (by omega)
    have hcl := C.len
    have hj := MinimizeTells_j0 H hp hq h v (k := k) (by omega)
    rw [decide_eq_false h1, cond_false, decide_eq_false h2, cond_false, decide_eq_false h3, cond_false, decide_eq_false h4, cond_false, e, ob, e', ob, hcl, show ((F.length : Int) != (F.length : Int)) = false by simp, cond_false]
    (repeat (first | rw [if_pos (by omega)] | rw [decide_eq_true (by omega), cond_true] | rw [decide_eq_false (by omega), cond_false]))
    rw [show c.getD p.toNat 0 = cls c p from rfl, show c.getD q.toNat 0 = cls c q from rfl]
    rcases h.cases H hp hq with ⟨w, rfl, w1, w2, w3, w4⟩ | ⟨rfl, h1⟩
    · have hne : cls c p ≠ cls c q := fun hh => w3 (((C.iff p q hp hq).1 hh) w w1)
      have hw := wv_wordOf H.l1 H.l6 w1 (by omega)
      have hlw := lets_wordOf w1 (by have := H.l6; omega)
      have r1 := H.rn_range _ hp.1 hp.2 w1; have r2 := H.rn_range _ hq.1 hq.2 w1
      dsimp only at hj ⊢
      rw [bne_iff_ne.2 hne, beq_self_eq_true, Bool.not_true, cond_false, cond_true, dfa_Run_ok H _ _ (by omega), ob, dfa_Run_ok H _ _ (by omega), ob, runE_ok hp hw, runE_ok hq hw, hlw, fin_getD, fin_getD, beq_eq_false_iff_ne.2 w3]
      (repeat (first | rw [if_pos (by omega)] | rw [decide_eq_true (by omega), cond_true] | rw [decide_eq_false (by omega), cond_false]))
      rw [cond_false]; exact hj
    · have heq : cls c p = cls c q := (C.iff p q hp hq).2 h1
      dsimp only at hj ⊢
      rw [heq, bne_self_eq_false, beq_self_eq_true, Bool.not_true, cond_false, cond_false]; exact hj
  · rw [small_no hs (by omega), ob, Bool.not_false, cond_true, ha, ob]

theorem Pure.MinimizeTells (a0_0 : Int) (a0_1 : Int) (a0_2 : List Bool) (a0_3 : List (List Int)) (a1 : Int) (a2 : Int) (a3 : ByteArray) (h0 : ((Lit.int .i64 (a0_0 : Int)).wf = true ∧ ((Lit.int .i64 (a0_1 : Int)).wf = true ∧ ((List.length a0_2 * 1 ≤ 140737488351232 ∧ ∀ y0_ ∈ a0_2, True) ∧ ((List.length a0_3 * 24 ≤ 140737488351232 ∧ ∀ y0_ ∈ a0_3, (List.length y0_ * 8 ≤ 140737488351232 ∧ ∀ y1_ ∈ y0_, (Lit.int .i64 (y1_ : Int)).wf = true)) ∧ True))))) (h1 : (Lit.int .i64 (a1 : Int)).wf = true) (h2 : (Lit.int .i64 (a2 : Int)).wf = true) (h3 : ByteArray.size a3 ≤ 140737488351232) : ∃ k, semigrouplaw08_MinimizeTells.f k a0_0 a0_1 a0_2 a0_3 a1 a2 a3 = some true := MinimizeTells_law _ _ _ _ _ _ _
end Go.Proofs.Yteblfhhhbfodgaa.Sim
