/- The transformations of the letters of any automaton, as the reference has them, or the error. -/
import Derived.Test.YtimepajbnongoaaPTransLettersx
import Derived.Test.YtimepajbnongoaaBase
namespace Go.Proofs.Ytimepajbnongoaa.Pure
open Go.RowKit Go.Proofs.Ytimepajbnongoaa.PTransLetters Go.Proofs.YtimepajbnongoaaW.PrintWords Go.Proofs.YtimepajbnongoaaW.PrintLast Go.Proofs.Ytimepajbnongoaa.Base

/-! dfa_Validate: what is wrong with an automaton: the loops over rows -/
theorem dfa_Validate_row (n : Int) (N : List (List Int)) (nN i : Int) (r : List Int) (L s : Int) (F : List Bool) (res : Int) (hr : r.length ≤ 9223372036854775806) (hres : Ev (fun k => dfa_Validate.l0 k n N nN (wrap64 (i + 1)) L s F N) res) (d : Nat) : ∀ j : Nat, j + d = r.length →
    Ev (fun k => dfa_Validate.l1 k n N nN i r (r.length : Int) (j : Int) L s F N) (if (r.drop j).all (fun q => decide (0 ≤ q) && decide (q < n)) = true then res else 4) := by
  induction d with
  | zero =>
    intro j hd
    refine Ev.step (fun _ => dfa_Validate.l1.eq_2 ..) (ev_neg (by omega) ?_)
    rw [List.drop_eq_nil_of_le (by omega)]; exact hres
  | succ d ih =>
    intro j hd
    refine Ev.step (fun _ => dfa_Validate.l1.eq_2 ..) (ev_pos (by omega) (ev_pos (by omega) (ev_pos (by omega) ?_)))
    rw [List.drop_eq_getElem_cons (show j < r.length by omega), List.all_cons, rd_lt (show j < r.length by omega)]
    refine ev_ite (fun h => ev_some ?_) (fun h => ev_ite (fun h2 => ev_some ?_) (fun h2 => ?_))
    · rw [decide_eq_false (show ¬ (0 ≤ r[j]) by omega)]; rfl
    · rw [decide_eq_false (show ¬ (r[j] < n) by omega), Bool.and_false]; rfl
    · rw [decide_eq_true (show 0 ≤ r[j] by omega), decide_eq_true (show r[j] < n by omega), wrap64_nat (by omega) (by omega)]
      exact ih (j + 1) (by omega)
theorem dfa_Validate_rows (n : Int) (N : List (List Int)) (L s : Int) (F : List Bool) (hN : N.length ≤ 9223372036854775806) (hL : L ≤ 6) (d : Nat) : ∀ i : Nat, i + d = N.length →
    Ev (fun k => dfa_Validate.l0 k n N (N.length : Int) (i : Int) L s F N) (if (N.drop i).all (rowOk n L) = true then 0 else 4) := by
  induction d with
  | zero =>
    intro i hd
    refine Ev.step (fun _ => dfa_Validate.l0.eq_2 ..) (ev_neg (by omega) (ev_some ?_))
    rw [List.drop_eq_nil_of_le (by omega)]; rfl
  | succ d ih =>
    intro i hd
    have hi : i < N.length := by omega
    refine Ev.step (fun _ => dfa_Validate.l0.eq_2 ..) (ev_pos (by omega) (ev_pos (by omega) (ev_pos (by omega) ?_)))
    rw [List.drop_eq_getElem_cons hi, List.all_cons, show rd_L1 N (i : Int) = N[i] from rdR_lt hi]
    refine ev_ite (fun h => ?_) (fun h => ev_some (by simp [rowOk, h]))
    have h2 := dfa_Validate_row n N (N.length : Int) (i : Int) N[i] L s F _ (by omega) (by rw [wrap64_nat (by omega) (by omega)]; exact ih (i + 1) (by omega)) N[i].length 0 (by omega)
    rw [List.drop_zero] at h2
    refine ev_to h2 ?_
    simp only [rowOk, h, decide_true, Bool.true_and, Bool.and_eq_true]
    by_cases h3 : N[i].all (fun q => decide (0 ≤ q) && decide (q < n)) = true
    · simp [h3]
    · simp [h3]
theorem dfa_Validate_ev (L s : Int) (F : List Bool) (N : List (List Int)) (hN : N.length ≤ 9223372036854775806) : Ev (fun k => dfa_Validate.f k L s F N) (dfaE L s F N) := by
  unfold dfa_Validate.f dfaE
  have bad : ∀ L' : Int, Ev (fun k => dfa_Validate.j0 k (F.length : Int) true L' s F N) 1 := fun _ => Ev.step (fun _ => dfa_Validate.j0.eq_2 ..) (ev_pos rfl (ev_some rfl))
  refine ev_ite (fun h => ?_) (fun h => ?_)
  · rw [if_pos (.inl h)]; exact bad L
  · by_cases h2 : L > 6
    · rw [if_pos (.inr h2), decide_eq_true h2]; exact bad L
    · rw [if_neg (by omega), decide_eq_false h2]
      refine Ev.step (fun _ => dfa_Validate.j0.eq_2 ..) (ev_neg (by decide) (ev_ite (fun h3 => ev_some (by rw [if_pos h3])) (fun h3 => ?_)))
      rw [if_neg h3]
      refine ev_ite (fun h4 => ev_some (by rw [if_pos (.inl (by omega))])) (fun h4 => ev_ite (fun h5 => ?_) (fun h5 => ev_some (by rw [if_pos (.inr (.inl (by omega)))])))
      refine ev_ite (fun h6 => ev_some (by rw [if_pos (.inr (.inr (.inl h6)))])) (fun h6 => ev_ite (fun h7 => ev_some (by rw [if_pos (.inr (.inr (.inr h7)))])) (fun h7 => ?_))
      rw [if_neg (by omega)]
      exact dfa_Validate_rows (F.length : Int) N L s F hN (by omega) N.length 0 (by omega)
theorem trans_OfDFA_row (L s : Int) (F : List Bool) (N : List (List Int)) (h : DfaOk L s F N) (h32 : F.length ≤ 32) (a : Nat) (ha : (a : Int) < L) (R : List (List Int)) (hR : R = ofDfa L F.length N) (res : List (List Int) × Int)
    (hres : Ev (fun k => trans_OfDFA.l0 k (fillAt R [] (a + 1)) (R.length : Int) ((a : Int) + 1) L s F N) res) (d : Nat) : ∀ q : Nat, q + d = F.length →
    Ev (fun k => trans_OfDFA.l1 k ((fillAt R [] a).set a (fillAt ((iota F.length).map (fun q => rd (rdR N q) (a : Int))) 0 q)) (a : Int) (R.length : Int) (a : Int) (F.length : Int) (q : Int) L s F N) res := by
  have hRl : R.length = L.toNat := by rw [hR, ofDfa_length]
  have hl1 := h.l1
  have hl2 := h.l2
  have haR : a < R.length := by omega
  have hRa : R[a] = (iota F.length).map (fun q => rd (rdR N q) (a : Int)) := by
    subst hR
    simp only [ofDfa, List.getElem_map, iota_get]
  have hfl : (fillAt R [] a).length = R.length := fillAt_length _ _ (by omega)
  have hrow : ((iota F.length).map (fun q => rd (rdR N q) (a : Int))).length = F.length := by rw [List.length_map, iota_length]
  have hN := h.len
  induction d with
  | zero =>
    intro q hd
    refine Ev.step (fun _ => trans_OfDFA.l1.eq_2 ..) (ev_neg (by omega) ?_)
    rw [show q = ((iota F.length).map (fun q => rd (rdR N q) (a : Int))).length by omega, fillAt_all, ← hRa, fillAt_set _ _ haR, wrap64_nat (by omega) (by omega)]
    exact hres
  | succ d ih =>
    intro q hd
    have hq : q < N.length := by omega
    have hk := h.row (q := (q : Int)) (by omega) (by omega)
    refine Ev.step (fun _ => trans_OfDFA.l1.eq_2 ..) (ev_pos (by omega) (ev_pos (by omega) (ev_pos (by rw [List.length_set, hfl]; omega) (ev_pos (by omega) (ev_pos (by omega) (ev_pos ?_ (ev_pos ?_ ?_)))))))
    · rw [show rd_L1 N (q : Int) = rdR N (q : Int) from rfl]; omega
    · rw [show rd_L1 ((fillAt R [] a).set a (fillAt ((iota F.length).map (fun q => rd (rdR N q) (a : Int))) 0 q)) (a : Int) = _ from rdR_lt (by rw [List.length_set, hfl]; exact haR), List.getElem_set_self, fillAt_length _ _ (by omega)]
      omega
    · rw [show rd_L1 ((fillAt R [] a).set a (fillAt ((iota F.length).map (fun q => rd (rdR N q) (a : Int))) 0 q)) (a : Int) = _ from rdR_lt (by rw [List.length_set, hfl]; exact haR), List.getElem_set_self, Int.toNat_natCast, Int.toNat_natCast, List.set_set,
        show rd (rd_L1 N (q : Int)) (a : Int) = ((iota F.length).map (fun q => rd (rdR N q) (a : Int)))[q]'(by omega) by simp only [List.getElem_map, iota_get]; rfl,
        fillAt_set _ _ (by omega), wrap64_nat (by omega) (by omega)]
      exact ih (q + 1) (by omega)
theorem trans_OfDFA_rows (L s : Int) (F : List Bool) (N : List (List Int)) (h : DfaOk L s F N) (h32 : F.length ≤ 32) (R : List (List Int)) (hR : R = ofDfa L F.length N) (d : Nat) : ∀ a : Nat, a + d = R.length →
    Ev (fun k => trans_OfDFA.l0 k (fillAt R [] a) (R.length : Int) (a : Int) L s F N) (R, 0) := by
  have hRl : R.length = L.toNat := by rw [hR, ofDfa_length]
  have hl1 := h.l1
  have hl2 := h.l2
  induction d with
  | zero =>
    intro a hd
    refine Ev.step (fun _ => trans_OfDFA.l0.eq_2 ..) (ev_neg (by omega) (ev_some ?_))
    rw [show a = R.length by omega, fillAt_all]
  | succ d ih =>
    intro a hd
    refine Ev.step (fun _ => trans_OfDFA.l0.eq_2 ..) (ev_pos (by omega) (ev_pos (by omega) (ev_pos (by omega) (ev_pos (by omega) (ev_pos (by rw [fillAt_length _ _ (by omega)]; omega) ?_)))))
    have := trans_OfDFA_row L s F N h h32 a (by omega) R hR (R, 0) (by have := ih (a + 1) (by omega); exact this) F.length 0 (by omega)
    rw [fillAt_zero, List.length_map, iota_length] at this
    exact this
/-- trans_OfDFA -/
def ofT (L s : Int) (F : List Bool) (N : List (List Int)) : List (List Int) × Int := if dfaE L s F N = 0 then if F.length > 32 then ([], 3) else (ofDfa L F.length N, 0) else ([], dfaE L s F N)
theorem trans_OfDFA_ev (L s : Int) (F : List Bool) (N : List (List Int)) (hN : N.length ≤ 9223372036854775806) : Ev (fun k => trans_OfDFA.f k L s F N) (ofT L s F N) := by
  unfold trans_OfDFA.f ofT
  refine ev_bind _ (dfa_Validate_ev L s F N hN) (ev_ite (fun h0 => ?_) (fun h0 => ev_some (by rw [if_neg h0])))
  rw [if_pos h0]
  have h := dfaE_ok.1 h0
  have hl1 := h.l1
  have hl2 := h.l2
  refine ev_ite (fun h1 => ev_some (by rw [if_pos (by omega)])) (fun h1 => ?_)
  rw [if_neg (by omega)]
  refine ev_pos (by omega) (ev_pos (by omega) (ev_bind1 ?_))
  have := trans_OfDFA_rows L s F N h (by omega) _ rfl (ofDfa L F.length N).length 0 (by omega)
  rw [fillAt_zero, ofDfa_length] at this
  rw [List.length_replicate]
  exact this
/-! semigroupref07_Validate: what is wrong with an automaton: the loops over rows -/
theorem semigroupref07_Validate_row (n : Int) (N : List (List Int)) (nN i : Int) (r : List Int) (L s : Int) (F : List Bool) (res : Int) (hr : r.length ≤ 9223372036854775806) (hres : Ev (fun k => semigroupref07_Validate.l0 k n N nN (wrap64 (i + 1)) L s F N) res) (d : Nat) : ∀ j : Nat, j + d = r.length →
    Ev (fun k => semigroupref07_Validate.l1 k n N nN i r (r.length : Int) (j : Int) L s F N) (if (r.drop j).all (fun q => decide (0 ≤ q) && decide (q < n)) = true then res else 4) := by
  induction d with
  | zero =>
    intro j hd
    refine Ev.step (fun _ => semigroupref07_Validate.l1.eq_2 ..) (ev_neg (by omega) ?_)
    rw [List.drop_eq_nil_of_le (by omega)]; exact hres
  | succ d ih =>
    intro j hd
    refine Ev.step (fun _ => semigroupref07_Validate.l1.eq_2 ..) (ev_pos (by omega) (ev_pos (by omega) (ev_pos (by omega) ?_)))
    rw [List.drop_eq_getElem_cons (show j < r.length by omega), List.all_cons, rd_lt (show j < r.length by omega)]
    refine ev_ite (fun h => ev_some ?_) (fun h => ev_ite (fun h2 => ev_some ?_) (fun h2 => ?_))
    · rw [decide_eq_false (show ¬ (0 ≤ r[j]) by omega)]; rfl
    · rw [decide_eq_false (show ¬ (r[j] < n) by omega), Bool.and_false]; rfl
    · rw [decide_eq_true (show 0 ≤ r[j] by omega), decide_eq_true (show r[j] < n by omega), wrap64_nat (by omega) (by omega)]
      exact ih (j + 1) (by omega)
theorem semigroupref07_Validate_rows (n : Int) (N : List (List Int)) (L s : Int) (F : List Bool) (hN : N.length ≤ 9223372036854775806) (hL : L ≤ 6) (d : Nat) : ∀ i : Nat, i + d = N.length →
    Ev (fun k => semigroupref07_Validate.l0 k n N (N.length : Int) (i : Int) L s F N) (if (N.drop i).all (rowOk n L) = true then 0 else 4) := by
  induction d with
  | zero =>
    intro i hd
    refine Ev.step (fun _ => semigroupref07_Validate.l0.eq_2 ..) (ev_neg (by omega) (ev_some ?_))
    rw [List.drop_eq_nil_of_le (by omega)]; rfl
  | succ d ih =>
    intro i hd
    have hi : i < N.length := by omega
    refine Ev.step (fun _ => semigroupref07_Validate.l0.eq_2 ..) (ev_pos (by omega) (ev_pos (by omega) (ev_pos (by omega) ?_)))
    rw [List.drop_eq_getElem_cons hi, List.all_cons, show rd_L1 N (i : Int) = N[i] from rdR_lt hi]
    refine ev_ite (fun h => ?_) (fun h => ev_some (by simp [rowOk, h]))
    have h2 := semigroupref07_Validate_row n N (N.length : Int) (i : Int) N[i] L s F _ (by omega) (by rw [wrap64_nat (by omega) (by omega)]; exact ih (i + 1) (by omega)) N[i].length 0 (by omega)
    rw [List.drop_zero] at h2
    refine ev_to h2 ?_
    simp only [rowOk, h, decide_true, Bool.true_and, Bool.and_eq_true]
    by_cases h3 : N[i].all (fun q => decide (0 ≤ q) && decide (q < n)) = true
    · simp [h3]
    · simp [h3]
theorem semigroupref07_Validate_ev (L s : Int) (F : List Bool) (N : List (List Int)) (hN : N.length ≤ 9223372036854775806) : Ev (fun k => semigroupref07_Validate.f k L s F N) (dfaE L s F N) := by
  unfold semigroupref07_Validate.f dfaE
  have bad : Ev (fun k => semigroupref07_Validate.j0 k (F.length : Int) true L s F N) 4 := Ev.step (fun _ => semigroupref07_Validate.j0.eq_2 ..) (ev_pos rfl (ev_some rfl))
  have hm : Ev (fun (_ : Nat) => semigroupref01_MayLetters.f L) (decide (1 ≤ L) && decide (L ≤ 6)) := by
    unfold semigroupref01_MayLetters.f
    exact ev_ite (fun h => ev_some (by rw [decide_eq_true (show 1 ≤ L from h)]; rfl)) (fun h => ev_some (by rw [decide_eq_false (show ¬ 1 ≤ L from h)]; rfl))
  refine ev_bind _ hm (ev_ite (fun h => ?_) (fun h => ev_some ?_))
  · have h1 : 1 ≤ L ∧ L ≤ 6 := by simpa using h
    rw [if_neg (by omega)]
    refine ev_ite (fun h3 => ev_some (by rw [if_pos h3])) (fun h3 => ?_)
    rw [if_neg h3]
    refine ev_ite (fun h4 => ev_to bad (by rw [if_pos (.inl (by omega))])) (fun h4 => ev_ite (fun h5 => ?_) (fun h5 => ev_to bad (by rw [if_pos (.inr (.inl (by omega)))])))
    refine ev_ite (fun h6 => ev_to bad (by rw [if_pos (.inr (.inr (.inl h6)))])) (fun h6 => ?_)
    by_cases h7 : s ≥ F.length
    · rw [if_pos (.inr (.inr (.inr h7))), decide_eq_true h7]; exact bad
    · rw [if_neg (by omega), decide_eq_false h7]
      refine Ev.step (fun _ => semigroupref07_Validate.j0.eq_2 ..) (ev_neg (by decide) ?_)
      exact semigroupref07_Validate_rows (F.length : Int) N L s F hN (by omega) N.length 0 (by omega)
  · rw [if_pos ?_]
    have : ¬ (1 ≤ L ∧ L ≤ 6) := by simpa using h
    omega
theorem semigroupref11_OfDFA_row (L s : Int) (F : List Bool) (N : List (List Int)) (h : DfaOk L s F N) (a : Nat) (ha : (a : Int) < L) (X : List (List Int)) (hX : X.length < 100) (res : List (List Int))
    (hres : Ev (fun k => semigroupref11_OfDFA.l0 k (X ++ [(iota F.length).map (fun q => rd (rdR N q) (a : Int))]) ((a : Int) + 1) L s F N) res) (d : Nat) : ∀ q : Nat, q + d = F.length →
    Ev (fun k => semigroupref11_OfDFA.l1 k X (a : Int) ((iota q).map (fun q => rd (rdR N q) (a : Int))) (N.length : Int) (q : Int) L s F N) res := by
  have hl2 := h.l2
  have hN := h.len
  have hn2 := h.n2
  induction d with
  | zero =>
    intro q hd
    refine Ev.step (fun _ => semigroupref11_OfDFA.l1.eq_2 ..) (ev_neg (by omega) (ev_pos (by omega) ?_))
    rw [show q = F.length by omega, wrap64_nat (by omega) (by omega)]
    exact hres
  | succ d ih =>
    intro q hd
    have hk := h.row (q := (q : Int)) (by omega) (by omega)
    refine Ev.step (fun _ => semigroupref11_OfDFA.l1.eq_2 ..) (ev_pos (by omega) (ev_pos (by omega) (ev_pos (by omega) (ev_pos (by omega) (ev_pos ?_ (ev_pos (by rw [List.length_map, iota_length]; omega) ?_))))))
    · rw [show rd_L1 N (q : Int) = rdR N (q : Int) from rfl]; omega
    · have := ih (q + 1) (by omega)
      rw [iota_succ, List.map_append, List.map_singleton] at this
      rw [wrap64_nat (by omega) (by omega)]
      exact this
theorem semigroupref11_OfDFA_rows (L s : Int) (F : List Bool) (N : List (List Int)) (h : DfaOk L s F N) (d : Nat) : ∀ a : Nat, a + d = L.toNat →
    Ev (fun k => semigroupref11_OfDFA.l0 k ((iota a).map (fun a => (iota F.length).map (fun q => rd (rdR N q) a))) (a : Int) L s F N) (ofDfa L F.length N) := by
  have hl1 := h.l1
  have hl2 := h.l2
  induction d with
  | zero =>
    intro a hd
    refine Ev.step (fun _ => semigroupref11_OfDFA.l0.eq_2 ..) (ev_neg (by omega) (ev_some ?_))
    rw [show a = L.toNat by omega]; rfl
  | succ d ih =>
    intro a hd
    refine Ev.step (fun _ => semigroupref11_OfDFA.l0.eq_2 ..) (ev_pos (by omega) ?_)
    have := ih (a + 1) (by omega)
    rw [iota_succ, List.map_append, List.map_singleton] at this
    exact semigroupref11_OfDFA_row L s F N h a (by omega) _ (by rw [List.length_map, iota_length]; omega) _ this F.length 0 (by omega)
theorem semigroupref11_OfDFA_ev (L s : Int) (F : List Bool) (N : List (List Int)) (h : DfaOk L s F N) : Ev (fun k => semigroupref11_OfDFA.f k L s F N) (ofDfa L F.length N) :=
  semigroupref11_OfDFA_rows L s F N h L.toNat 0 (by omega)
/-! semigroupref03_Same: equal lists of numbers -/
theorem semigroupref03_Same_loop (a b : List Int) (hl : a.length ≤ 9223372036854775806) (he : a.length = b.length) (d : Nat) : ∀ i : Nat, i + d = a.length → Ev (fun k => semigroupref03_Same.l0 k a b (a.length : Int) (i : Int)) (decide (a.drop i = b.drop i)) := by
  induction d with
  | zero =>
    intro i hd
    refine Ev.step (fun _ => semigroupref03_Same.l0.eq_2 ..) (ev_neg (by omega) (ev_some ?_))
    rw [List.drop_eq_nil_of_le (by omega), List.drop_eq_nil_of_le (by omega)]; rfl
  | succ d ih =>
    intro i hd
    refine Ev.step (fun _ => semigroupref03_Same.l0.eq_2 ..) (ev_pos (by omega) (ev_pos (by omega) (ev_pos (by omega) (ev_pos (by omega) ?_))))
    rw [List.drop_eq_getElem_cons (show i < a.length by omega), List.drop_eq_getElem_cons (show i < b.length by omega), rd_lt (show i < a.length by omega), rd_lt (show i < b.length by omega)]
    refine ev_ite (fun h => ?_) (fun h => ev_some (decide_eq_false (fun e => h (List.cons.inj e).1)).symm)
    rw [wrap64_nat (by omega) (by omega)]
    refine ev_to (ih (i + 1) (by omega)) (decide_eq_decide.2 ⟨fun e => by rw [h, e], fun e => (List.cons.inj e).2⟩)
theorem semigroupref03_Same_ev (a b : List Int) (hl : a.length ≤ 9223372036854775806) : Ev (fun k => semigroupref03_Same.f k a b) (decide (a = b)) := by
  unfold semigroupref03_Same.f
  refine ev_ite (fun h => ?_) (fun h => ev_some ?_)
  · have := semigroupref03_Same_loop a b hl (by omega) a.length 0 (by omega)
    simpa using this
  · rw [decide_eq_false]
    rintro rfl
    exact h rfl
theorem semigroupref03_SameRows_loop (a b : List (List Int)) (hl : a.length ≤ 9223372036854775806) (he : a.length = b.length) (hr : ∀ x ∈ a, x.length ≤ 9223372036854775806) (d : Nat) : ∀ i : Nat, i + d = a.length → Ev (fun k => semigroupref03_SameRows.l0 k a b (a.length : Int) (i : Int)) (decide (a.drop i = b.drop i)) := by
  induction d with
  | zero =>
    intro i hd
    refine Ev.step (fun _ => semigroupref03_SameRows.l0.eq_2 ..) (ev_neg (by omega) (ev_some ?_))
    rw [List.drop_eq_nil_of_le (by omega), List.drop_eq_nil_of_le (by omega)]; rfl
  | succ d ih =>
    intro i hd
    have ha : i < a.length := by omega
    have hb : i < b.length := by omega
    refine Ev.step (fun _ => semigroupref03_SameRows.l0.eq_2 ..) (ev_pos (by omega) (ev_pos (by omega) (ev_pos (by omega) (ev_pos (by omega) ?_))))
    rw [List.drop_eq_getElem_cons ha, List.drop_eq_getElem_cons hb, show rd_L1 a (i : Int) = a[i] from rdR_lt ha, show rd_L1 b (i : Int) = b[i] from rdR_lt hb]
    refine ev_bind _ (semigroupref03_Same_ev a[i] b[i] (hr _ (List.getElem_mem ha))) (ev_ite (fun h => ?_) (fun h => ev_some (decide_eq_false (fun e => h (decide_eq_true (List.cons.inj e).1))).symm))
    rw [wrap64_nat (by omega) (by omega)]
    have h' := of_decide_eq_true h
    refine ev_to (ih (i + 1) (by omega)) (decide_eq_decide.2 ⟨fun e => by rw [h', e], fun e => (List.cons.inj e).2⟩)
theorem semigroupref03_SameRows_ev (a b : List (List Int)) (hl : a.length ≤ 9223372036854775806) (hr : ∀ x ∈ a, x.length ≤ 9223372036854775806) : Ev (fun k => semigroupref03_SameRows.f k a b) (decide (a = b)) := by
  unfold semigroupref03_SameRows.f
  refine ev_ite (fun h => ?_) (fun h => ev_some ?_)
  · have := semigroupref03_SameRows_loop a b hl (by omega) hr a.length 0 (by omega)
    simpa using this
  · rw [decide_eq_false]
    rintro rfl
    exact h rfl
theorem awake_ev : Ev (fun k => semigrouplaw11_awake.f k) true := Ev.of (fun k => semigrouplaw11_awake.mono k) (k := 8) (by decide +kernel)
theorem TransLetters : semigrouplaw11_TransLetters.Pure := by
  intro L s F N ⟨_, _, _, hN, _⟩
  apply Ev.rounds
  unfold semigrouplaw11_TransLetters.f
  have hN' : N.length ≤ 9223372036854775806 := by omega
  refine ev_bind _ (trans_OfDFA_ev L s F N hN') (ev_bind _ (semigroupref07_Validate_ev L s F N hN') (ev_ite (fun h0 => ?_) (fun h0 => ?_)))
  · by_cases h32 : F.length > 32
    · rw [decide_eq_true (by omega : (F.length : Int) > 32)]
      refine Ev.step (fun _ => semigrouplaw11_TransLetters.j0.eq_2 ..) (ev_pos rfl (Ev.step (fun _ => semigrouplaw11_TransLetters.j1.eq_2 ..) (ev_neg (by decide) (ev_pos ?_ (ev_pos ?_ (ev_bind _ awake_ev (ev_some rfl)))))))
      · simp [ofT, h0, h32]
      · simp [ofT, h0, h32]
    · rw [decide_eq_false (by omega : ¬ (F.length : Int) > 32)]
      have hd := dfaE_ok.1 h0
      have hl2 := hd.l2
      have hn2 := hd.n2
      have e : ofT L s F N = (ofDfa L F.length N, 0) := by rw [ofT, if_pos h0, if_neg h32]
      rw [e]
      refine Ev.step (fun _ => semigrouplaw11_TransLetters.j0.eq_2 ..) (ev_neg (by decide) (Ev.step (fun _ => semigrouplaw11_TransLetters.j1.eq_2 ..) (ev_pos h0 (ev_pos rfl ?_))))
      refine ev_bind _ (semigroupref11_OfDFA_ev L s F N hd) (ev_bind _ (semigroupref03_SameRows_ev _ _ (by rw [ofDfa_length]; omega) (fun x hx => ?_)) (ev_pos (by simp) (ev_bind _ awake_ev (ev_some rfl))))
      obtain ⟨y, _, rfl⟩ := List.mem_map.1 hx
      rw [List.length_map, iota_length]; omega
  · refine Ev.step (fun _ => semigrouplaw11_TransLetters.j0.eq_2 ..) (ev_neg (by decide) (Ev.step (fun _ => semigrouplaw11_TransLetters.j1.eq_2 ..) (ev_neg h0 (ev_pos ?_ (ev_pos ?_ (ev_bind _ awake_ev (ev_some rfl)))))))
    · simp [ofT, h0]
    · simp [ofT, h0]

end Go.Proofs.Ytimepajbnongoaa.Pure
