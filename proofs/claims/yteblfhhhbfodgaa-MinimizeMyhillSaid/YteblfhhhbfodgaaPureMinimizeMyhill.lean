-- Plain proof of MinimizeMyhill (texts of wip/sim/pure, expanded by macros.py).
import Derived.Test.YteblfhhhbfodgaaP4
import Derived.Test.YteblfhhhbfodgaaPA
set_option linter.unusedVariables false
set_option linter.unusedSimpArgs false
set_option maxRecDepth 4000
namespace Go.Proofs.Yteblfhhhbfodgaa.Sim
open Go
theorem bt_append (u w : ByteArray) (i : Nat) : bt (u ++ w) i = if i < u.size then bt u i else bt w (i - u.size) := by
  unfold bt
  rw [ByteArray.data_append, Array.toList_append, getD_append]
  have : u.data.toList.length = u.size := by rw [Array.length_toList]; rfl
  rw [this]; split <;> rfl
theorem wv_append {u w : ByteArray} {L : Int} (h : WV (u ++ w) L) : WV u L ∧ WV w L := by
  have hs := h.sz
  rw [ByteArray.size_append] at hs
  refine ⟨⟨h.l1, h.l6, by omega, fun i hi => ?_⟩, ⟨h.l1, h.l6, by omega, fun i hi => ?_⟩⟩
  · have := h.ch i (by rw [ByteArray.size_append]; omega)
    rwa [bt_append, if_pos hi] at this
  · have := h.ch (u.size + i) (by rw [ByteArray.size_append]; omega)
    rwa [bt_append, if_neg (by omega), show u.size + i - u.size = i by omega] at this
theorem lets_append (u w : ByteArray) : lets (u ++ w) = lets u ++ lets w := by
  apply List.ext_getElem
  · rw [List.length_append, lets_length, lets_length, lets_length, ByteArray.size_append]
  · intro i h1 h2
    rw [lets_length, ByteArray.size_append] at h1
    rw [List.getElem_append]
    simp only [lets_length]
    by_cases hi : i < u.size
    · rw [dif_pos hi]; simp [lets, bt_append, hi]
    · rw [dif_neg hi]; simp [lets, bt_append, hi]
theorem accE_app {L s : Int} {F : List Bool} {N : List (List Int)} {u w : ByteArray} (h : WV (u ++ w) L) : accE L s F N (u ++ w) = fin F (rn (dl N) (rn (dl N) s (lets u)) (lets w)) := by
  unfold accE
  rw [wval_iff.2 h, Bool.true_and, lets_append]
  unfold lng
  rw [rn_append]
theorem accE_eq {L s : Int} {F : List Bool} {N : List (List Int)} {G : List Bool} {M : List (List Int)} {ws : List (List Nat)} (h : MinOf L s F N G M ws) {u w : ByteArray} (hw : WV (u ++ w) L) : accE L s F N (u ++ w) = fin G (rn (dl M) (rn (dl M) 0 (lets u)) (lets w)) := by
  rw [← h.acc, accE_app hw]
theorem MinimizeMyhill_law (L s : Int) (F : List Bool) (N : List (List Int)) (u v w : ByteArray) (hu : u.size ≤ 140737488351232) (hv : v.size ≤ 140737488351232) (hw : w.size ≤ 140737488351232) : ∃ k, semigrouplaw08_MinimizeMyhill.f k L s F N u v w = some true := by
  refine ⟨2000000, ?_⟩
  generalize hk : 2000000 = k
  have ha := awake_ok (k := k) (by omega)
  rw [semigrouplaw08_MinimizeMyhill.f_eq, ha]
  simp only [ob]
  by_cases h1 : (F.length : Int) ≤ 12 ∧ DV L s F N
  case neg => rw [small_no h1 (by omega), ob, Bool.not_false, cond_true]
  have H := h1.2
  have h6 := H.l6
  rw [small_yes h1.2 h1.1 (by omega), ob, Bool.not_true, cond_false, if_pos (by omega), semigroupref01_Valid_ok _ _ (by omega), ob]
  by_cases v1 : WV (u ++ w) L
  case neg => rw [show wval (u ++ w) L = false from Bool.eq_false_iff.2 (fun h => v1 (wval_iff.1 h)), Bool.not_false, cond_true]
  rw [wval_iff.2 v1, Bool.not_true, cond_false, if_pos (by omega), semigroupref01_Valid_ok _ _ (by omega), ob]
  by_cases v2 : WV (v ++ w) L
  case neg => rw [show wval (v ++ w) L = false from Bool.eq_false_iff.2 (fun h => v2 (wval_iff.1 h)), Bool.not_false, cond_true]
  obtain ⟨G, M, ws, e, h⟩ := minimize_Minimal_ok H (k := k) (by omega)
  have H1 := h.can.dv
  obtain ⟨hu1, hw1⟩ := wv_append v1
  obtain ⟨hv1, _⟩ := wv_append v2
  have i0 : InR G.length 0 := ⟨H1.s0, H1.s1⟩
  have r1 := H1.rn_range (lets u) H1.s0 H1.s1 hu1.wd
  have r2 := H1.rn_range (lets v) H1.s0 H1.s1 hv1.wd
  have h12 : G.length ≤ 12 := by have := h.le H; omega
  rw [wval_iff.2 v2, Bool.not_true, cond_false, e, ob]
  dsimp only
  rw [dfa_Run_ok H1 _ _ (by omega), ob, dfa_Run_ok H1 _ _ (by omega), ob, runE_ok i0 hu1, runE_ok i0 hv1, decide_eq_false (by omega), cond_false, decide_eq_false (by omega), cond_false]
  by_cases hpq : rn (dl M) 0 (lets u) = rn (dl M) 0 (lets v)
  · rw [hpq, beq_self_eq_true, cond_true, if_pos (by omega), dfa_Accepts_ok H _ (by omega), ob, if_pos (by omega), dfa_Accepts_ok H _ (by omega), ob, accE_eq h v1, accE_eq h v2, hpq, beq_self_eq_true, cond_true]
  · rw [beq_eq_false_iff_ne.2 hpq, cond_false]
    obtain ⟨d, e4, hd⟩ := minimize_Distinguish_ok H1 r1 r2 (k := k) (by omega)
    rcases hd.cases H1 r1 r2 with ⟨x, rfl, x1, x2, x3, x4⟩ | ⟨_, hq⟩
    · have hlx := lets_wordOf x1 (by omega)
      rw [e4, ob]
      dsimp only
      rw [cond_true, wordOf_size, decide_eq_true (by omega), cond_true, if_pos (by omega), semigroupref01_Valid_ok _ _ (by omega), ob]
      by_cases v3 : WV (u ++ wordOf x) L
      case neg => rw [show wval (u ++ wordOf x) L = false from Bool.eq_false_iff.2 (fun h => v3 (wval_iff.1 h)), Bool.not_false, cond_true]
      rw [wval_iff.2 v3, Bool.not_true, cond_false, if_pos (by omega), semigroupref01_Valid_ok _ _ (by omega), ob]
      by_cases v4 : WV (v ++ wordOf x) L
      case neg => rw [show wval (v ++ wordOf x) L = false from Bool.eq_false_iff.2 (fun h => v4 (wval_iff.1 h)), Bool.not_false, cond_true]
      rw [wval_iff.2 v4, Bool.not_true, cond_false, if_pos (by omega), dfa_Accepts_ok H _ (by omega), ob, if_pos (by omega), dfa_Accepts_ok H _ (by omega), ob, accE_eq h v3, accE_eq h v4, hlx, beq_eq_false_iff_ne.2 x3, Bool.not_false, cond_true]
    · exact absurd (h.red _ _ r1.1 r1.2 r2.1 r2.2 hq) hpq

theorem Pure.MinimizeMyhill (a0_0 : Int) (a0_1 : Int) (a0_2 : List Bool) (a0_3 : List (List Int)) (a1 : ByteArray) (a2 : ByteArray) (a3 : ByteArray) (h0 : ((Lit.int .i64 (a0_0 : Int)).wf = true ∧ ((Lit.int .i64 (a0_1 : Int)).wf = true ∧ ((List.length a0_2 * 1 ≤ 140737488351232 ∧ ∀ y0_ ∈ a0_2, True) ∧ ((List.length a0_3 * 24 ≤ 140737488351232 ∧ ∀ y0_ ∈ a0_3, (List.length y0_ * 8 ≤ 140737488351232 ∧ ∀ y1_ ∈ y0_, (Lit.int .i64 (y1_ : Int)).wf = true)) ∧ True))))) (h1 : ByteArray.size a1 ≤ 140737488351232) (h2 : ByteArray.size a2 ≤ 140737488351232) (h3 : ByteArray.size a3 ≤ 140737488351232) : ∃ k, semigrouplaw08_MinimizeMyhill.f k a0_0 a0_1 a0_2 a0_3 a1 a2 a3 = some true := MinimizeMyhill_law _ _ _ _ _ _ _ h1 h2 h3
end Go.Proofs.Yteblfhhhbfodgaa.Sim
