-- Plain proofs over the functions (texts of wip/sim/pure, expanded by macros.py).
import Derived.Test.YteblfhhhbfodgaaF7
import Derived.Test.YteblfhhhbfodgaaPW
set_option linter.unusedVariables false
set_option linter.unusedSimpArgs false
namespace Go.Proofs.Yteblfhhhbfodgaa.Sim
open Go
/-! ### Validate -/
def okRow (n L : Int) (r : List Int) : Bool := decide ((r.length : Int) = L) && r.all fun x => decide (0 ≤ x ∧ x < n)
def dfaE (L s : Int) (F : List Bool) (N : List (List Int)) : Int :=
  if L < 1 ∨ L > 6 then 1 else if F.length > 512 then 3 else if F.length = 0 ∨ N.length ≠ F.length ∨ s < 0 ∨ s ≥ F.length then 4 else if N.all (okRow F.length L) then 0 else 4
theorem dfaE_zero {L s : Int} {F : List Bool} {N : List (List Int)} : dfaE L s F N = 0 ↔ DV L s F N := by
  unfold dfaE
  constructor
  · intro h
    split at h
    · cases h
    split at h
    · cases h
    split at h
    · cases h
    split at h
    · rename_i h1 h2 h3 h4
      refine ⟨by omega, by omega, by omega, by omega, by omega, by omega, by omega, fun r hr => ?_⟩
      have := List.all_eq_true.1 h4 r hr
      unfold okRow at this
      rw [Bool.and_eq_true, decide_eq_true_eq, List.all_eq_true] at this
      exact ⟨this.1, fun x hx => by have := this.2 x hx; rwa [decide_eq_true_eq] at this⟩
    · cases h
  · intro H
    have h1 := H.l1; have h2 := H.l6; have h3 := H.n1; have h4 := H.n5; have h5 := H.nn; have h6 := H.s0; have h7 := H.s1
    rw [if_neg (by omega), if_neg (by omega), if_neg (by omega), if_pos]
    rw [List.all_eq_true]
    intro r hr
    unfold okRow
    rw [Bool.and_eq_true, decide_eq_true_eq, List.all_eq_true]
    exact ⟨(H.row r hr).1, fun x hx => by rw [decide_eq_true_eq]; exact (H.row r hr).2 x hx⟩
theorem dfa_Validate_l1 {L s : Int} {F : List Bool} {N : List (List Int)} {k n0 : Nat} {v3 v46 i : Int} {row : List Int} (hr : row.length ≤ 100) : ∀ n, row.length < n →
    dfa_Validate.l1 k n0 n v3 N v46 i row (row.length : Int) 0 L s F N = cond (row.all fun x => decide (0 ≤ x ∧ x < v3)) (dfa_Validate.l0 k n0 v3 N v46 (IntKind.i64.wrap (i + 1)) L s F N) (some 4) := by
  intro n hn
  have := up (f := fun n j => dfa_Validate.l1 k n0 n v3 N v46 i row (row.length : Int) (j : Int) L s F N) (len := row.length)
    (g := fun j => cond ((row.drop j).all fun x => decide (0 ≤ x ∧ x < v3)) (dfa_Validate.l0 k n0 v3 N v46 (IntKind.i64.wrap (i + 1)) L s F N) (some 4))
    (fun n => by
      rw [dfa_Validate.l1_succ, decide_eq_false (by omega), cond_false, dfa_Validate.j1_eq, List.drop_length]; rfl)
    (fun j hj n ih => by
      rw [dfa_Validate.l1_succ, getD_nat, getD_lt hj, List.drop_eq_getElem_cons hj, List.all_cons]
      (repeat (first | rw [if_pos (by omega)] | rw [decide_eq_true (by omega), cond_true] | rw [decide_eq_false (by omega), cond_false]))
      by_cases h1 : row[j] < 0
      · rw [decide_eq_true h1, cond_true, decide_eq_false (by omega)]; rfl
      by_cases h2 : row[j] ≥ v3
      · rw [decide_eq_false h1, cond_false, decide_eq_true h2, cond_true, decide_eq_false (by omega)]; rfl
      rw [decide_eq_false h1, cond_false, decide_eq_false h2, cond_false, decide_eq_true (by omega), Bool.true_and, wrap_succ (by omega)]
      exact ih) n 0 (by omega) (by omega)
  exact this
theorem dfa_Validate_l0 {L s : Int} {F : List Bool} {N : List (List Int)} {k : Nat} {v3 : Int} (hL : L ≤ 6) (hN : N.length ≤ 512) (hk : 600 < k) : ∀ n, N.length < n →
    dfa_Validate.l0 k n v3 N (N.length : Int) 0 L s F N = some (if N.all (okRow v3 L) then 0 else 4) := by
  intro n hn
  have := up (f := fun n j => dfa_Validate.l0 k n v3 N (N.length : Int) (j : Int) L s F N) (len := N.length)
    (g := fun j => some (if (N.drop j).all (okRow v3 L) then 0 else 4))
    (fun n => by
      rw [dfa_Validate.l0_succ, decide_eq_false (by omega), cond_false, dfa_Validate.j0_eq, List.drop_length]; rfl)
    (fun j hj n ih => by
      rw [dfa_Validate.l0_succ, getD_nat, getD_lt hj, List.drop_eq_getElem_cons hj, List.all_cons]
      (repeat (first | rw [if_pos (by omega)] | rw [decide_eq_true (by omega), cond_true] | rw [decide_eq_false (by omega), cond_false]))
      by_cases h1 : (N[j].length : Int) = L
      · rw [show ((N[j].length : Int) != L) = false by simp [h1], cond_false, dfa_Validate_l1 (by omega) k (by omega), wrap_succ (by omega), ih]
        unfold okRow
        rw [decide_eq_true h1, Bool.true_and]
        cases N[j].all (fun x => decide (0 ≤ x ∧ x < v3)) <;> rfl
      · rw [show ((N[j].length : Int) != L) = true by simp [h1], cond_true]
        unfold okRow
        rw [decide_eq_false h1]; rfl) n 0 (by omega) (by omega)
  exact this
theorem dfa_Validate_ok (L s : Int) (F : List Bool) (N : List (List Int)) {k : Nat} (hk : 600 < k) : dfa_Validate.f k L s F N = some (dfaE L s F N) := by
  rw [dfa_Validate.f_eq]
  unfold dfaE
  by_cases h1 : L < 1
  · rw [decide_eq_true h1, cond_true, if_pos (.inl h1)]
  rw [decide_eq_false h1, cond_false]
  by_cases h2 : L > 6
  · rw [decide_eq_true h2, cond_true, if_pos (.inr h2)]
  rw [decide_eq_false h2, cond_false, if_neg (by omega)]
  by_cases h3 : F.length > 512
  · rw [decide_eq_true (by omega), cond_true, if_pos h3]
  rw [decide_eq_false (by omega), cond_false, if_neg h3]
  by_cases h4 : F.length = 0
  · rw [show ((F.length : Int) == 0) = true from beq_iff_eq.2 (by omega), cond_true, if_pos (.inl h4)]
  rw [show ((F.length : Int) == 0) = false from beq_eq_false_iff_ne.2 (by omega), cond_false]
  by_cases h5 : N.length = F.length
  · rw [show ((N.length : Int) != (F.length : Int)) = false by simp; omega, cond_false]
    by_cases h6 : s < 0
    · rw [decide_eq_true h6, cond_true, if_pos (.inr (.inr (.inl h6)))]
    rw [decide_eq_false h6, cond_false]
    by_cases h7 : s ≥ F.length
    · rw [decide_eq_true h7, cond_true, if_pos (.inr (.inr (.inr h7)))]
    rw [decide_eq_false h7, cond_false, if_neg (by omega)]
    exact dfa_Validate_l0 (by omega) (by omega) hk k (by omega)
  · rw [show ((N.length : Int) != (F.length : Int)) = true by simp; omega, cond_true, if_pos (.inr (.inl h5))]

/-! ### semigroupref07.Validate -/
theorem semigroupref07_Validate_l1 {L s : Int} {F : List Bool} {N : List (List Int)} {k n0 : Nat} {v3 v46 i : Int} {row : List Int} (hr : row.length ≤ 100) : ∀ n, row.length < n →
    semigroupref07_Validate.l1 k n0 n v3 N v46 i row (row.length : Int) 0 L s F N = cond (row.all fun x => decide (0 ≤ x ∧ x < v3)) (semigroupref07_Validate.l0 k n0 v3 N v46 (IntKind.i64.wrap (i + 1)) L s F N) (some 4) := by
  intro n hn
  have := up (f := fun n j => semigroupref07_Validate.l1 k n0 n v3 N v46 i row (row.length : Int) (j : Int) L s F N) (len := row.length)
    (g := fun j => cond ((row.drop j).all fun x => decide (0 ≤ x ∧ x < v3)) (semigroupref07_Validate.l0 k n0 v3 N v46 (IntKind.i64.wrap (i + 1)) L s F N) (some 4))
    (fun n => by
      rw [semigroupref07_Validate.l1_succ, decide_eq_false (by omega), cond_false, semigroupref07_Validate.j1_eq, List.drop_length]; rfl)
    (fun j hj n ih => by
      rw [semigroupref07_Validate.l1_succ, getD_nat, getD_lt hj, List.drop_eq_getElem_cons hj, List.all_cons]
      (repeat (first | rw [if_pos (by omega)] | rw [decide_eq_true (by omega), cond_true] | rw [decide_eq_false (by omega), cond_false]))
      by_cases h1 : row[j] < 0
      · rw [decide_eq_true h1, cond_true, decide_eq_false (by omega)]; rfl
      by_cases h2 : row[j] ≥ v3
      · rw [decide_eq_false h1, cond_false, decide_eq_true h2, cond_true, decide_eq_false (by omega)]; rfl
      rw [decide_eq_false h1, cond_false, decide_eq_false h2, cond_false, decide_eq_true (by omega), Bool.true_and, wrap_succ (by omega)]
      exact ih) n 0 (by omega) (by omega)
  exact this
theorem semigroupref07_Validate_l0 {L s : Int} {F : List Bool} {N : List (List Int)} {k : Nat} {v3 : Int} (hL : L ≤ 6) (hN : N.length ≤ 512) (hk : 600 < k) : ∀ n, N.length < n →
    semigroupref07_Validate.l0 k n v3 N (N.length : Int) 0 L s F N = some (if N.all (okRow v3 L) then 0 else 4) := by
  intro n hn
  have := up (f := fun n j => semigroupref07_Validate.l0 k n v3 N (N.length : Int) (j : Int) L s F N) (len := N.length)
    (g := fun j => some (if (N.drop j).all (okRow v3 L) then 0 else 4))
    (fun n => by
      rw [semigroupref07_Validate.l0_succ, decide_eq_false (by omega), cond_false, semigroupref07_Validate.j0_eq, List.drop_length]; rfl)
    (fun j hj n ih => by
      rw [semigroupref07_Validate.l0_succ, getD_nat, getD_lt hj, List.drop_eq_getElem_cons hj, List.all_cons]
      (repeat (first | rw [if_pos (by omega)] | rw [decide_eq_true (by omega), cond_true] | rw [decide_eq_false (by omega), cond_false]))
      by_cases h1 : (N[j].length : Int) = L
      · rw [show ((N[j].length : Int) != L) = false by simp [h1], cond_false, semigroupref07_Validate_l1 (by omega) k (by omega), wrap_succ (by omega), ih]
        unfold okRow
        rw [decide_eq_true h1, Bool.true_and]
        cases N[j].all (fun x => decide (0 ≤ x ∧ x < v3)) <;> rfl
      · rw [show ((N[j].length : Int) != L) = true by simp [h1], cond_true]
        unfold okRow
        rw [decide_eq_false h1]; rfl) n 0 (by omega) (by omega)
  exact this
theorem semigroupref07_Validate_ok (L s : Int) (F : List Bool) (N : List (List Int)) {k : Nat} (hk : 600 < k) : semigroupref07_Validate.f k L s F N = some (dfaE L s F N) := by
  rw [semigroupref07_Validate.f_eq]
  unfold dfaE
  have hm : semigroupref01_MayLetters.f k L = some (decide (1 ≤ L ∧ L ≤ 6)) := by
    rw [semigroupref01_MayLetters.f_eq]
    by_cases h1 : 1 ≤ L
    · rw [decide_eq_true (by omega), cond_true]; simp [h1]
    · rw [decide_eq_false (by omega), cond_false, decide_eq_false (by omega)]
  rw [hm, Option.bind_some]
  by_cases h1 : 1 ≤ L ∧ L ≤ 6
  · rw [decide_eq_true h1, Bool.not_true, cond_false, if_neg (by omega)]
    by_cases h3 : F.length > 512
    · rw [decide_eq_true (by omega), cond_true, if_pos h3]
    rw [decide_eq_false (by omega), cond_false, if_neg h3]
    by_cases h4 : F.length = 0
    · rw [show ((F.length : Int) == 0) = true from beq_iff_eq.2 (by omega), cond_true, if_pos (.inl h4)]
    rw [show ((F.length : Int) == 0) = false from beq_eq_false_iff_ne.2 (by omega), cond_false]
    by_cases h5 : N.length = F.length
    · rw [show ((N.length : Int) != (F.length : Int)) = false by simp; omega, cond_false]
      by_cases h6 : s < 0
      · rw [decide_eq_true h6, cond_true, if_pos (.inr (.inr (.inl h6)))]
      rw [decide_eq_false h6, cond_false]
      by_cases h7 : s ≥ F.length
      · rw [decide_eq_true h7, cond_true, if_pos (.inr (.inr (.inr h7)))]
      rw [decide_eq_false h7, cond_false, if_neg (by omega)]
      exact semigroupref07_Validate_l0 (by omega) (by omega) hk k (by omega)
    · rw [show ((N.length : Int) != (F.length : Int)) = true by simp; omega, cond_true, if_pos (.inr (.inl h5))]
  · rw [decide_eq_false h1, Bool.not_false, cond_true, if_pos (by omega)]

/-! ### semigroupref07.Same of one automaton and itself -/
theorem semigroupref07_Same_refl {L s : Int} {F : List Bool} {N : List (List Int)} (hF : F.length ≤ 100000) (hN : N.length ≤ 100000) (hr : ∀ r ∈ N, r.length ≤ 100000) {k : Nat} (hk : 100001 < k) : semigroupref07_Same.f k L s F N L s F N = some true := by
  have h2 : ∀ (n0 i : Nat), (hi : i < N.length) → ∀ v58 v59 n, N[i].length < n → semigroupref07_Same.l2 k n0 n (i : Int) v58 v59 (N[i].length : Int) 0 L s F N L s F N = semigroupref07_Same.l1 k n0 v58 (IntKind.i64.wrap (v59 + 1)) L s F N L s F N := by
    intro n0 i hi v58 v59 n hn
    have hrl := hr _ (List.getElem_mem hi)
    have e : N.getD ((i : Int)).toNat ([] : List Int) = N[i] := by rw [getD_nat, getD_lt hi]
    exact upc (f := fun n j => semigroupref07_Same.l2 k n0 n (i : Int) v58 v59 (N[i].length : Int) (j : Int) L s F N L s F N) (len := N[i].length)
      (fun n => by rw [semigroupref07_Same.l2_succ, decide_eq_false (by omega), cond_false, semigroupref07_Same.j2_eq])
      (fun j hj n => by
        rw [semigroupref07_Same.l2_succ, e]
        (repeat (first | rw [if_pos (by omega)] | rw [decide_eq_true (by omega), cond_true] | rw [decide_eq_false (by omega), cond_false]))
        rw [bne_self_eq_false, cond_false, wrap_succ (by omega)]) n hn
  have h1 : ∀ n, N.length < n → semigroupref07_Same.l1 k n (N.length : Int) 0 L s F N L s F N = some true := fun n hn =>
    upc (f := fun n i => semigroupref07_Same.l1 k n (N.length : Int) (i : Int) L s F N L s F N) (len := N.length)
      (fun n => by rw [semigroupref07_Same.l1_succ, decide_eq_false (by omega), cond_false, semigroupref07_Same.j1_eq])
      (fun i hi n => by
        have hrl := hr _ (List.getElem_mem hi)
        rw [semigroupref07_Same.l1_succ, getD_nat, getD_lt hi]
        (repeat (first | rw [if_pos (by omega)] | rw [decide_eq_true (by omega), cond_true] | rw [decide_eq_false (by omega), cond_false]))
        rw [bne_self_eq_false, cond_false]
        (repeat (first | rw [if_pos (by omega)] | rw [decide_eq_true (by omega), cond_true] | rw [decide_eq_false (by omega), cond_false]))
        rw [h2 _ _ hi _ _ k (by omega), wrap_succ (by omega)]) n hn
  have h0 : ∀ n, F.length < n → semigroupref07_Same.l0 k n (F.length : Int) 0 L s F N L s F N = some true := fun n hn =>
    upc (f := fun n i => semigroupref07_Same.l0 k n (F.length : Int) (i : Int) L s F N L s F N) (len := F.length)
      (fun n => by rw [semigroupref07_Same.l0_succ, decide_eq_false (by omega), cond_false, semigroupref07_Same.j0_eq, h1 k (by omega)])
      (fun i hi n => by
        rw [semigroupref07_Same.l0_succ]
        (repeat (first | rw [if_pos (by omega)] | rw [decide_eq_true (by omega), cond_true] | rw [decide_eq_false (by omega), cond_false]))
        rw [beq_self_eq_true, Bool.not_true, cond_false, wrap_succ (by omega)]) n hn
  rw [semigroupref07_Same.f_eq, bne_self_eq_false, cond_false, bne_self_eq_false, cond_false, bne_self_eq_false, cond_false, bne_self_eq_false, cond_false, h0 k (by omega)]
/-! ### semigroupref03.Same -/
theorem semigroupref03_Same_ok (a b : List Int) (hl : a.length ≤ 100000) {k : Nat} (hk : 100001 < k) : semigroupref03_Same.f k a b = some (decide (a = b)) := by
  rw [semigroupref03_Same.f_eq]
  by_cases h : a.length = b.length
  · rw [show ((a.length : Int) != (b.length : Int)) = false by simp [h], cond_false]
    have := up (f := fun n i => semigroupref03_Same.l0 k n a b (a.length : Int) (i : Int)) (len := a.length) (g := fun i => some (decide (a.drop i = b.drop i)))
      (fun n => by rw [semigroupref03_Same.l0_succ, decide_eq_false (by omega), cond_false, semigroupref03_Same.j0_eq, List.drop_length, h, List.drop_length]; rfl)
      (fun i hi n ih => by
        have hb : i < b.length := by omega
        rw [semigroupref03_Same.l0_succ, getD_nat, getD_nat, getD_lt hi, getD_lt hb, List.drop_eq_getElem_cons hi, List.drop_eq_getElem_cons hb]
        (repeat (first | rw [if_pos (by omega)] | rw [decide_eq_true (by omega), cond_true] | rw [decide_eq_false (by omega), cond_false]))
        by_cases e : a[i] = b[i]
        · rw [e, bne_self_eq_false, cond_false, wrap_succ (by omega), ih]; simp only [List.cons.injEq, true_and]
        · rw [show (a[i] != b[i]) = true by simp [e], cond_true, decide_eq_false (fun h => e (List.cons.inj h).1)]) k 0 (by omega) (by omega)
    simpa using this
  · rw [show ((a.length : Int) != (b.length : Int)) = true by simp; omega, cond_true, decide_eq_false (fun e => h (by rw [e]))]
/-! ### partition.Canonical -/
theorem num_fill {K : Type} [DecidableEq K] (l : List K) (i : Nat) (hi : i < l.length) (v : Int) (h : (canL l)[i]'(by rw [canL_length]; exact hi) = v) : (fillAt (canL l) 0 i).set i v = fillAt (canL l) 0 (i + 1) := by
  subst h; exact fillAt_set _ _ (by rw [canL_length]; exact hi)
theorem fill_len {K : Type} [DecidableEq K] (l : List K) {i : Nat} (h : i ≤ l.length) : (fillAt (canL l) 0 i).length = l.length := by
  rw [fillAt_length _ _ (by rw [canL_length]; exact h), canL_length]
theorem partition_Canonical_ok (l : List Int) (hl : l.length ≤ 4096) {k : Nat} (hk : 5000 < k) : partition_Canonical.f k l = some (canL l) := by
  have h := upc (f := fun n i => partition_Canonical.l0 k n l (l.length : Int) (i : Int) (numE (ordA [] (l.take i))) (fillAt (canL l) 0 i)) (len := l.length) (r := some (canL l))
    (fun n => by rw [partition_Canonical.l0_succ, decide_eq_false (by omega), cond_false, partition_Canonical.j1_eq]; conv => lhs; rw [← canL_length l, fillAt_all])
    (fun i hi n => by
      have hf := fill_len l (i := i) (by omega)
      rw [partition_Canonical.l0_succ, getD_nat, getD_lt hi]
      (repeat (first | rw [if_pos (by omega)] | rw [decide_eq_true (by omega), cond_true] | rw [decide_eq_false (by omega), cond_false]))
      by_cases hm : l[i] ∈ ordA [] (l.take i)
      · obtain ⟨e1, e2⟩ := num_old hi hm
        rw [mhas_numE hm, Bool.not_true, cond_false, mgetD_numE hm, partition_Canonical.j0_eq]
        (repeat (first | rw [if_pos (by omega)] | rw [decide_eq_true (by omega), cond_true] | rw [decide_eq_false (by omega), cond_false]))
        rw [wrap_succ (by omega), set_nat, num_fill l i hi _ e2, e1]
      · obtain ⟨e1, e2⟩ := num_new hi hm
        rw [mhas_numE' hm, Bool.not_false, cond_true, numE_length, mput_numE hm, partition_Canonical.j0_eq]
        (repeat (first | rw [if_pos (by omega)] | rw [decide_eq_true (by omega), cond_true] | rw [decide_eq_false (by omega), cond_false]))
        rw [wrap_succ (by omega), set_nat, num_fill l i hi _ e2, e1]) k (by omega)
  rw [partition_Canonical.f_eq]
  (repeat (first | rw [if_pos (by omega)] | rw [decide_eq_true (by omega), cond_true] | rw [decide_eq_false (by omega), cond_false]))
  rw [Int.toNat_natCast]
  rw [← h, show fillAt (canL l) 0 0 = List.replicate l.length (0 : Int) by rw [fillAt_zero, canL_length]]
  rfl
/-! ### semigroupref08.number -/
theorem semigroupref08_number_ok (l : List Int) (hl : l.length ≤ 4096) {k : Nat} (hk : 5000 < k) : semigroupref08_number.f k l = some (canL l) := by
  have h := upc (f := fun n i => semigroupref08_number.l0 k n l (l.length : Int) (i : Int) (numE (ordA [] (l.take i))) (fillAt (canL l) 0 i)) (len := l.length) (r := some (canL l))
    (fun n => by rw [semigroupref08_number.l0_succ, decide_eq_false (by omega), cond_false, semigroupref08_number.j1_eq]; conv => lhs; rw [← canL_length l, fillAt_all])
    (fun i hi n => by
      have hf := fill_len l (i := i) (by omega)
      rw [semigroupref08_number.l0_succ, getD_nat, getD_lt hi]
      (repeat (first | rw [if_pos (by omega)] | rw [decide_eq_true (by omega), cond_true] | rw [decide_eq_false (by omega), cond_false]))
      by_cases hm : l[i] ∈ ordA [] (l.take i)
      · obtain ⟨e1, e2⟩ := num_old hi hm
        rw [mhas_numE hm, Bool.not_true, cond_false, mgetD_numE hm, semigroupref08_number.j0_eq]
        (repeat (first | rw [if_pos (by omega)] | rw [decide_eq_true (by omega), cond_true] | rw [decide_eq_false (by omega), cond_false]))
        rw [wrap_succ (by omega), set_nat, num_fill l i hi _ e2, e1]
      · obtain ⟨e1, e2⟩ := num_new hi hm
        rw [mhas_numE' hm, Bool.not_false, cond_true, numE_length, mput_numE hm, semigroupref08_number.j0_eq]
        (repeat (first | rw [if_pos (by omega)] | rw [decide_eq_true (by omega), cond_true] | rw [decide_eq_false (by omega), cond_false]))
        rw [wrap_succ (by omega), set_nat, num_fill l i hi _ e2, e1]) k (by omega)
  rw [semigroupref08_number.f_eq]
  (repeat (first | rw [if_pos (by omega)] | rw [decide_eq_true (by omega), cond_true] | rw [decide_eq_false (by omega), cond_false]))
  rw [Int.toNat_natCast]
  rw [← h, show fillAt (canL l) 0 0 = List.replicate l.length (0 : Int) by rw [fillAt_zero, canL_length]]
  rfl
/-! ### partition.Valid, partition.Count of a numbering -/
theorem ordA_take_le {K : Type} [DecidableEq K] (l : List K) (i : Nat) : (ordA [] (l.take i)).length ≤ i := by
  have := ordA_length (l.take i) []
  simp at this; omega
theorem partition_Valid_ok (l : List Int) (hl : l.length ≤ 4096) (hc : canL l = l) {k : Nat} (hk : 5000 < k) : partition_Valid.f k l = some true := by
  have h := upc (f := fun n i => partition_Valid.l0 k n ((ordA [] (l.take i)).length : Int) l (l.length : Int) (i : Int)) (len := l.length) (r := some true)
    (fun n => by rw [partition_Valid.l0_succ, decide_eq_false (by omega), cond_false, partition_Valid.j0_eq])
    (fun i hi n => by
      have hle := ordA_take_le l i
      rw [partition_Valid.l0_succ, getD_nat, getD_lt hi]
      (repeat (first | rw [if_pos (by omega)] | rw [decide_eq_true (by omega), cond_true] | rw [decide_eq_false (by omega), cond_false]))
      by_cases hm : l[i] ∈ ordA [] (l.take i)
      · obtain ⟨e1, e2⟩ := num_old hi hm
        have hlt := List.idxOf_lt_length_of_mem hm
        simp only [hc] at e2
        rw [decide_eq_false (by omega), cond_false, decide_eq_false (by omega), cond_false, show (l[i] == ((ordA [] (l.take i)).length : Int)) = false from beq_eq_false_iff_ne.2 (by omega), cond_false, e1, wrap_succ (by omega)]
      · obtain ⟨e1, e2⟩ := num_new hi hm
        simp only [hc] at e2
        rw [decide_eq_false (by omega), cond_false, decide_eq_false (by omega), cond_false, show (l[i] == ((ordA [] (l.take i)).length : Int)) = true from beq_iff_eq.2 e2, cond_true, e1, wrap_succ (by omega), wrap_succ (by omega)]
        simp) k (by omega)
  rw [partition_Valid.f_eq, decide_eq_false (by omega), cond_false]
  exact h
theorem partition_Count_ok (l : List Int) (hl : l.length ≤ 4096) (hc : canL l = l) {k : Nat} (hk : 5000 < k) : partition_Count.f k l = some (ncl l : Int) := by
  have h := upc (f := fun n i => partition_Count.l0 k n ((ordA [] (l.take i)).length : Int) l (l.length : Int) (i : Int)) (len := l.length) (r := some (ncl l : Int))
    (fun n => by rw [partition_Count.l0_succ, decide_eq_false (by omega), cond_false, partition_Count.j0_eq, List.take_length]; rfl)
    (fun i hi n => by
      have hle := ordA_take_le l i
      rw [partition_Count.l0_succ, getD_nat, getD_lt hi]
      (repeat (first | rw [if_pos (by omega)] | rw [decide_eq_true (by omega), cond_true] | rw [decide_eq_false (by omega), cond_false]))
      by_cases hm : l[i] ∈ ordA [] (l.take i)
      · obtain ⟨e1, e2⟩ := num_old hi hm
        have hlt := List.idxOf_lt_length_of_mem hm
        simp only [hc] at e2
        rw [wrap_i64 (n := l[i] + 1) (by omega) (by omega), if_neg (by omega), e1, wrap_succ (by omega)]
      · obtain ⟨e1, e2⟩ := num_new hi hm
        simp only [hc] at e2
        rw [e2, wrap_succ (by omega), if_pos (by omega), e1, wrap_succ (by omega)]
        simp) k (by omega)
  rw [partition_Count.f_eq, partition_Valid_ok l hl hc hk, Option.bind_some, Bool.not_true, cond_false]
  exact h

/-! ### semigroupref08.both -/
theorem semigroupref08_both_ok (p q : List Int) (hl : p.length ≤ 512) (hq : q.length = p.length) (hp : ∀ x ∈ p, 0 ≤ x ∧ x < 512) (hqr : ∀ x ∈ q, 0 ≤ x ∧ x < 512) {k : Nat} (hk : 5000 < k) :
    semigroupref08_both.f k p q = some (canL ((List.range p.length).map fun i => p.getD i 0 * ((p.length : Int) + 1) + q.getD i 0)) := by
  have h := upc (f := fun n i => semigroupref08_both.l0 k n p q (p.length : Int) (i : Int) (fillAt ((List.range p.length).map fun i => p.getD i 0 * ((p.length : Int) + 1) + q.getD i 0) 0 i)) (len := p.length)
    (r := some (canL ((List.range p.length).map fun i => p.getD i 0 * ((p.length : Int) + 1) + q.getD i 0)))
    (fun n => by
      rw [semigroupref08_both.l0_succ, decide_eq_false (by omega), cond_false, semigroupref08_both.j0_eq]
      have e := fillAt_all ((List.range p.length).map fun i => p.getD i 0 * ((p.length : Int) + 1) + q.getD i 0) 0
      rw [List.length_map, List.length_range] at e
      rw [e, semigroupref08_number_ok _ (by simp; omega) hk, Option.bind_some])
    (fun i hi n => by
      have hf := fillAt_length ((List.range p.length).map fun i => p.getD i 0 * ((p.length : Int) + 1) + q.getD i 0) 0 (i := i) (by simp; omega)
      have hs := fillAt_set ((List.range p.length).map fun i => p.getD i 0 * ((p.length : Int) + 1) + q.getD i 0) 0 (i := i) (by simp; omega)
      rw [List.length_map, List.length_range] at hf
      have h1 := hp _ (List.getElem_mem hi)
      have h2 := hqr _ (List.getElem_mem (show i < q.length by omega))
      rw [List.getElem_map, List.getElem_range, getD_lt hi, getD_lt (show i < q.length by omega)] at hs
      have hm : 0 ≤ p[i] * ((p.length : Int) + 1) := Int.mul_nonneg h1.1 (by omega)
      have hm2 : p[i] * ((p.length : Int) + 1) ≤ 512 * 513 := Int.mul_le_mul (by omega) (by omega) (by omega) (by omega)
      rw [semigroupref08_both.l0_succ, getD_nat, getD_nat, getD_lt hi, getD_lt (show i < q.length by omega), set_nat]
      (repeat (first | rw [if_pos (by omega)] | rw [decide_eq_true (by omega), cond_true] | rw [decide_eq_false (by omega), cond_false]))
      rw [wrap_i64 (n := (p.length : Int) + 1) (by omega) (by omega), wrap_i64 (n := p[i] * ((p.length : Int) + 1)) (by omega) (by omega), wrap_i64 (n := p[i] * ((p.length : Int) + 1) + _) (by omega) (by omega), wrap_succ (by omega), hs]) k (by omega)
  rw [semigroupref08_both.f_eq]
  (repeat (first | rw [if_pos (by omega)] | rw [decide_eq_true (by omega), cond_true] | rw [decide_eq_false (by omega), cond_false]))
  rw [Int.toNat_natCast, ← h]
  simp [fillAt_zero]

/-! ### Numbers of the states that a search has met -/
theorem NumOk.push {n : Nat} {q : List (Ent Int)} {ν : List Int} (V : NumOk n q ν) {e : Ent Int} (hr : InR n e.x) (hq : ∀ f ∈ q, InR n f.x) (hn : ∀ f ∈ q, f.x ≠ e.x) : NumOk n (q ++ [e]) (ν.set e.x.toNat (q.length : Int)) where
  len := by rw [List.length_set, V.len]
  at_ := fun j f hf => by
    have h1 := hr.1; have h2 := hr.2; have hl := V.len
    rw [getD_set]
    by_cases hj : j < q.length
    · rw [List.getElem?_append_left hj] at hf
      have hm := List.mem_iff_getElem?.2 ⟨j, hf⟩
      have a1 := (hq f hm).1; have a2 := hn f hm
      rw [if_neg (by omega)]; exact V.at_ j f hf
    · rw [List.getElem?_append_right (by omega)] at hf
      have := (List.getElem?_eq_some_iff.1 hf).1
      simp at this
      obtain rfl : j = q.length := by omega
      simp at hf; subst hf
      rw [if_pos ⟨rfl, by omega⟩]
  no := fun x h0 h1 h => by
    have a1 := hr.1; have a2 := hr.2
    have := h e (by simp)
    rw [getD_set, if_neg (by omega)]
    exact V.no x h0 h1 (fun f hf => h f (by simp [hf]))
theorem NumOk.has {n : Nat} {q : List (Ent Int)} {ν : List Int} (V : NumOk n q ν) {f : Ent Int} (hf : f ∈ q) : 0 ≤ ν.getD f.x.toNat 0 := by
  obtain ⟨j, hj⟩ := List.mem_iff_getElem?.1 hf
  rw [V.at_ j f hj]; omega
theorem NumOk.start {n : Nat} {e0 : Ent Int} (h : InR n e0.x) : NumOk n [e0] ((List.replicate n (-1 : Int)).set e0.x.toNat 0) where
  len := by simp
  at_ := fun j e he => by
    have h1 := h.1; have h2 := h.2
    have := (List.getElem?_eq_some_iff.1 he).1
    simp at this; subst this; simp at he; subst he
    rw [getD_set, if_pos ⟨rfl, by simp; omega⟩]; rfl
  no := fun x h0 h1 hn => by
    have := hn e0 (by simp); have h3 := h.1
    rw [getD_set, if_neg (by omega), getD_lt (by simp; omega)]; simp
theorem repl_set {α : Type} (a b : α) {i n : Nat} (h : i < n) : (List.replicate i a ++ List.replicate (n - i) b).set i a = List.replicate (i + 1) a ++ List.replicate (n - (i + 1)) b := by
  obtain ⟨m, rfl⟩ : ∃ m, n = i + (m + 1) := ⟨n - i - 1, by omega⟩
  rw [show i + (m + 1) - i = m + 1 by omega, show i + (m + 1) - (i + 1) = m by omega, List.set_append, if_neg (by simp), List.length_replicate, Nat.sub_self, List.replicate_succ, List.set_cons_zero, List.replicate_succ', List.append_assoc]; rfl
/-! ### dfa.search -/
theorem dfa_search_l0 {L s : Int} {F : List Bool} {N : List (List Int)} (h5 : F.length ≤ 512) {k : Nat} : ∀ n, F.length < n →
    dfa_search.l0 k n (F.length : Int) 0 L s F N (List.replicate F.length (0 : Int)) = dfa_search.j0 k L s F N (List.replicate F.length (-1)) := by
  intro n hn
  have := upc (f := fun n i => dfa_search.l0 k n (F.length : Int) (i : Int) L s F N (List.replicate i (-1) ++ List.replicate (F.length - i) 0)) (len := F.length) (r := dfa_search.j0 k L s F N (List.replicate F.length (-1)))
    (fun n => by rw [dfa_search.l0_succ, decide_eq_false (by omega), cond_false, Nat.sub_self]; simp)
    (fun i hi n => by
      rw [dfa_search.l0_succ, decide_eq_true (by omega), cond_true, if_pos (by omega), if_pos (by simp; omega), wrap_succ (by omega), set_nat, repl_set _ _ hi]) n hn
  simpa using this
theorem dfa_search_l2 {L s : Int} {F : List Bool} {N : List (List Int)} (H : DV L s F N) {k n0 i : Nat} {e0 e : Ent Int} (hs : e0.x = s) :
    ∀ (n1 : Nat) (st : Nat × List (Ent Int) × List Int), L.toNat - st.1 < n1 → (BInv (dl N) L.toNat e0 st.2.1 i st.1 ∧ NumOk F.length st.2.1 st.2.2 ∧ st.1 ≤ L.toNat ∧ st.2.1[i]? = some e) →
    ∃ q' ν', dfa_search.l2 k n0 n1 i (N.getD e.x.toNat []) ((N.getD e.x.toNat []).length : Int) (st.1 : Int) L s F N (st.2.1.map (·.x)) (st.2.1.map (·.p)) (st.2.1.map (·.a)) st.2.2 =
      dfa_search.l1 k n0 ((i + 1 : Nat) : Int) L s F N (q'.map (·.x)) (q'.map (·.p)) (q'.map (·.a)) ν' ∧ BInv (dl N) L.toNat e0 q' (i + 1) 0 ∧ NumOk F.length q' ν' := by
  refine wh (f := fun n (st : Nat × List (Ent Int) × List Int) => dfa_search.l2 k n0 n i (N.getD e.x.toNat []) ((N.getD e.x.toNat []).length : Int) (st.1 : Int) L s F N (st.2.1.map (·.x)) (st.2.1.map (·.p)) (st.2.1.map (·.a)) st.2.2)
    (fun st => BInv (dl N) L.toNat e0 st.2.1 i st.1 ∧ NumOk F.length st.2.1 st.2.2 ∧ st.1 ≤ L.toNat ∧ st.2.1[i]? = some e) (fun st => L.toNat - st.1)
    (fun x => ∃ q' ν', x = dfa_search.l1 k n0 ((i + 1 : Nat) : Int) L s F N (q'.map (·.x)) (q'.map (·.p)) (q'.map (·.a)) ν' ∧ BInv (dl N) L.toNat e0 q' (i + 1) 0 ∧ NumOk F.length q' ν') ?_
  rintro n ⟨a, q, ν⟩ ⟨B, V, ha, he⟩
  dsimp only at *
  have h6 := H.l6; have h5 := H.n5; have h1 := H.l1
  have hc := ent_count H hs B
  have hr := ent_range H hs B he
  have hrl := H.rowlen hr.1 hr.2
  have hil := (List.getElem?_eq_some_iff.1 he).1
  by_cases h : a < L.toNat
  · right
    have hz := H.dl_range hr.1 hr.2 h
    have ez : (N.getD e.x.toNat []).getD a 0 = dl N e.x a := rfl
    have hVl := V.len
    by_cases hm : ∃ f ∈ q, f.x = dl N e.x a
    · obtain ⟨f, hf, hx⟩ := hm
      have hp := V.has hf
      rw [hx] at hp
      refine ⟨(a + 1, q, ν), ⟨B.old he hf hx, V, by dsimp only; omega, he⟩, by dsimp only; omega, ?_⟩
      rw [dfa_search.l2_succ, getD_nat, ez]
      (repeat (first | rw [if_pos (by omega)] | rw [decide_eq_true (by omega), cond_true] | rw [decide_eq_false (by omega), cond_false]))
      rw [wrap_succ (by omega)]
    · have hn : ∀ f ∈ q, f.x ≠ dl N e.x a := fun f hf hx => hm ⟨f, hf, hx⟩
      have hno := V.no _ hz.1 hz.2 hn
      refine ⟨(a + 1, q ++ [⟨dl N e.x a, e.w ++ [a], i, a⟩], ν.set (dl N e.x a).toNat q.length), ⟨B.new he h hn, V.push (e := ⟨dl N e.x a, e.w ++ [a], i, a⟩) hz (fun f hf => by obtain ⟨j, hj⟩ := List.mem_iff_getElem?.1 hf; exact ent_range H hs B hj) hn, by dsimp only; omega, ?_⟩, by dsimp only; omega, ?_⟩
      · dsimp only; rw [List.getElem?_append_left hil]; exact he
      rw [dfa_search.l2_succ, getD_nat, ez]
      simp only [List.length_map, List.length_singleton, List.map_append, List.map_cons, List.map_nil]
      (repeat (first | rw [if_pos (by omega)] | rw [decide_eq_true (by omega), cond_true] | rw [decide_eq_false (by omega), cond_false]))
      rw [wrap_succ (by omega)]
  · left
    obtain rfl : a = L.toNat := by omega
    refine ⟨q, ν, ?_, B.next hil, V⟩
    rw [dfa_search.l2_succ, decide_eq_false (by omega), cond_false, dfa_search.j2_eq, wrap_succ (by omega)]
theorem dfa_search_l1 {L s : Int} {F : List Bool} {N : List (List Int)} (H : DV L s F N) {k : Nat} (hk : 6 < k) {e0 : Ent Int} (hs : e0.x = s) :
    ∀ (n : Nat) (st : Nat × List (Ent Int) × List Int), F.length - st.1 < n → (BInv (dl N) L.toNat e0 st.2.1 st.1 0 ∧ NumOk F.length st.2.1 st.2.2) →
    ∃ q' ν', dfa_search.l1 k n (st.1 : Int) L s F N (st.2.1.map (·.x)) (st.2.1.map (·.p)) (st.2.1.map (·.a)) st.2.2 = some (q'.map (·.x), q'.map (·.p), q'.map (·.a), ν') ∧ BInv (dl N) L.toNat e0 q' q'.length 0 ∧ NumOk F.length q' ν' := by
  refine wh (f := fun n (st : Nat × List (Ent Int) × List Int) => dfa_search.l1 k n (st.1 : Int) L s F N (st.2.1.map (·.x)) (st.2.1.map (·.p)) (st.2.1.map (·.a)) st.2.2)
    (fun st => BInv (dl N) L.toNat e0 st.2.1 st.1 0 ∧ NumOk F.length st.2.1 st.2.2) (fun st => F.length - st.1)
    (fun x => ∃ q' ν', x = some (q'.map (·.x), q'.map (·.p), q'.map (·.a), ν') ∧ BInv (dl N) L.toNat e0 q' q'.length 0 ∧ NumOk F.length q' ν') ?_
  rintro n ⟨i, q, ν⟩ ⟨B, V⟩
  dsimp only at *
  have h6 := H.l6; have h5 := H.n5; have h1 := H.l1
  have hc := ent_count H hs B
  have hi := B.hi
  by_cases h : i < q.length
  · right
    have he : q[i]? = some q[i] := List.getElem?_eq_getElem h
    have hr := ent_range H hs B he
    have hnn := H.nn
    have eo : (q.map (·.x)).getD i 0 = q[i].x := by simp [h]
    obtain ⟨q', ν', h1, h2, h3⟩ := dfa_search_l2 H (n0 := n) (k := k) (e := q[i]) hs k (0, q, ν) (by dsimp only; omega) ⟨B, V, by dsimp only; omega, he⟩
    refine ⟨(i + 1, q', ν'), ⟨h2, h3⟩, by dsimp only; omega, ?_⟩
    rw [dfa_search.l1_succ, getD_nat, eo, List.length_map]
    (repeat (first | rw [if_pos (by omega)] | rw [decide_eq_true (by omega), cond_true] | rw [decide_eq_false (by omega), cond_false]))
    exact h1
  · left
    obtain rfl : i = q.length := by omega
    refine ⟨q, ν, ?_, B, V⟩
    rw [dfa_search.l1_succ, List.length_map, decide_eq_false (by omega), cond_false, dfa_search.j1_eq]
theorem dfa_search_ok {L s : Int} {F : List Bool} {N : List (List Int)} (H : DV L s F N) {k : Nat} (hk : 600 < k) :
    ∃ q ν, dfa_search.f k L s F N = some (q.map (·.x), q.map (·.p), q.map (·.a), ν) ∧ BInv (dl N) L.toNat ⟨s, [], -1, -1⟩ q q.length 0 ∧ NumOk F.length q ν := by
  have h5 := H.n5; have h0 := H.s0; have h1 := H.s1
  obtain ⟨q, ν, h, h'⟩ := dfa_search_l1 (e0 := ⟨s, [], -1, -1⟩) H (k := k) (by omega) rfl k (0, [⟨s, [], -1, -1⟩], (List.replicate F.length (-1 : Int)).set s.toNat 0) (by dsimp only; omega) ⟨BInv.init rfl, NumOk.start ⟨h0, h1⟩⟩
  refine ⟨q, ν, ?_, h'⟩
  rw [dfa_search.f_eq, List.length_replicate, Int.toNat_natCast]
  (repeat (first | rw [if_pos (by omega)] | rw [decide_eq_true (by omega), cond_true] | rw [decide_eq_false (by omega), cond_false]))
  rw [dfa_search_l0 h5 k (by omega), dfa_search.j0_eq, List.length_replicate]
  (repeat (first | rw [if_pos (by omega)] | rw [decide_eq_true (by omega), cond_true] | rw [decide_eq_false (by omega), cond_false]))
  exact h

/-! ### Words as strings -/
theorem strOf_append (xs ys : List Int) : strOf (xs ++ ys) = strOf xs ++ strOf ys := by
  apply ByteArray.ext
  rw [ByteArray.data_append]
  simp [strOf]
theorem strOf_size (xs : List Int) : (strOf xs).size = xs.length := by simp [strOf, ByteArray.size]
def wordOf (w : List Nat) : ByteArray := strOf (w.map fun (a : Nat) => 97 + (a : Int))
theorem wordOf_nil : wordOf [] = ByteArray.empty := rfl
theorem wordOf_size (w : List Nat) : (wordOf w).size = w.length := by simp [wordOf, strOf_size]
theorem wordOf_snoc (w : List Nat) (a : Nat) : wordOf (w ++ [a]) = wordOf w ++ strOf [97 + (a : Int)] := by
  unfold wordOf; rw [List.map_append, strOf_append]; rfl
theorem wrap_u8 {n : Int} (h0 : 0 ≤ n) (h1 : n < 256) : IntKind.u8.wrap n = n := by
  have e : IntKind.u8.wrap n = n % 256 := by simp [IntKind.wrap, IntKind.signed, IntKind.bits]
  rw [e]; omega
theorem BInv.wlen {α : Type} {δ : α → Nat → α} {L : Nat} {e0 : Ent α} {q : List (Ent α)} {i a : Nat} (B : BInv δ L e0 q i a) : ∀ (j : Nat) e, q[j]? = some e → e.w.length ≤ j := by
  intro j
  induction j using Nat.strongRecOn with
  | _ j ih =>
    intro e he
    by_cases h0 : j = 0
    · subst h0; rw [B.hd] at he; cases he; rw [B.hw]; simp
    · obtain ⟨p, b, f, hp, hb, hf, rfl, _⟩ := B.tl j e (by omega) he
      have := ih p hp f hf
      simp; omega

/-! ### dfa.Trim -/
theorem fill_step {α : Type} (ys : List α) (z v : α) {i : Nat} (h : i < ys.length) (e : ys[i] = v) : (fillAt ys z i).set i v = fillAt ys z (i + 1) := by subst e; exact fillAt_set ys z h
theorem trimF_snoc (F : List Bool) (o : List Int) {i : Nat} (h : i < o.length) : trimF F (o.take (i + 1)) = trimF F (o.take i) ++ [fin F o[i]] := by
  rw [List.take_succ_eq_append_getElem h]; unfold trimF; rw [List.map_append]; rfl
theorem trimN_snoc (L : Int) (N : List (List Int)) (ν o : List Int) {i : Nat} (h : i < o.length) : trimN L N ν (o.take (i + 1)) = trimN L N ν (o.take i) ++ [(List.range L.toNat).map fun a => ν.getD (dl N o[i] a).toNat 0] := by
  rw [List.take_succ_eq_append_getElem h]; unfold trimN; rw [List.map_append]; rfl
theorem dfa_Trim_ok {L s : Int} {F : List Bool} {N : List (List Int)} (H : DV L s F N) {k : Nat} (hk : 600 < k) :
    ∃ q ν, dfa_Trim.f k L s F N = some ((L, 0, trimF F (q.map (·.x)), trimN L N ν (q.map (·.x))), ν) ∧ dfa_search.f k L s F N = some (q.map (·.x), q.map (·.p), q.map (·.a), ν) ∧
      BInv (dl N) L.toNat ⟨s, [], -1, -1⟩ q q.length 0 ∧ NumOk F.length q ν := by
  obtain ⟨q, ν, h, B, V⟩ := dfa_search_ok H hk
  refine ⟨q, ν, ?_, h, B, V⟩
  have h5 := H.n5; have h6 := H.l6; have h1 := H.l1; have hnn := H.nn
  have hc := ent_count H rfl B
  have hVl := V.len
  rw [dfa_Trim.f_eq, dfa_Validate_ok _ _ _ _ hk, dfaE_zero.2 H, Option.bind_some, show ((0 : Int) != 0) = false from rfl, cond_false, h, Option.bind_some]
  dsimp only
  generalize ho : q.map (·.x) = o
  have hol : o.length = q.length := by rw [← ho, List.length_map]
  have hor : ∀ i (hi : i < o.length), 0 ≤ o[i] ∧ o[i] < F.length := fun i hi => by
    have e : q[i]? = some q[i] := List.getElem?_eq_getElem (by omega)
    have := ent_range H rfl B e
    subst ho; simpa using this
  have inner : ∀ n0 i (hi : i < o.length) v28 v29 a b c d o5 o6 o7 o8 n, L.toNat < n → dfa_Trim.l1 k n0 n o[i] v28 v29 L 0 L s F N a b ν c d (List.replicate L.toNat (0 : Int)) o o5 o6 o7 o8 =
      dfa_Trim.j1 k n0 o[i] v28 v29 L s F N a b ν c d ((List.range L.toNat).map fun a => ν.getD (dl N o[i] a).toNat 0) o o5 o6 o7 o8 := by
    intro n0 i hi v28 v29 aa b c d o5 o6 o7 o8 n hn
    have hr := hor i hi
    have hrl := H.rowlen hr.1 hr.2
    generalize hys : ((List.range L.toNat).map fun a => ν.getD (dl N o[i] a).toNat 0) = ys
    have hyl : ys.length = L.toNat := by subst hys; simp
    have := upc (f := fun n j => dfa_Trim.l1 k n0 n o[i] v28 v29 L (j : Int) L s F N aa b ν c d (fillAt ys 0 j) o o5 o6 o7 o8) (len := L.toNat) (r := dfa_Trim.j1 k n0 o[i] v28 v29 L s F N aa b ν c d ys o o5 o6 o7 o8)
      (fun n => by rw [dfa_Trim.l1_succ, decide_eq_false (by omega), cond_false, ← hyl, fillAt_all])
      (fun j hj n => by
        have hf := fillAt_length ys 0 (i := j) (by omega)
        have hz := H.dl_range hr.1 hr.2 hj
        have ez : (N.getD o[i].toNat []).getD j 0 = dl N o[i] j := rfl
        rw [dfa_Trim.l1_succ, getD_nat, ez]
        (repeat (first | rw [if_pos (by omega)] | rw [decide_eq_true (by omega), cond_true] | rw [decide_eq_false (by omega), cond_false]))
        rw [wrap_succ (by omega), set_nat, fill_step ys 0 _ (by omega) (by subst hys; simp)]) n hn
    rw [fillAt_zero, hyl] at this
    exact this
  have := upc (f := fun n i => dfa_Trim.l0 k n (o.length : Int) (i : Int) L s F N 0 0 ν L 0 o [] [] (trimF F (o.take i)) (trimN L N ν (o.take i))) (len := o.length) (r := some ((L, 0, trimF F o, trimN L N ν o), ν))
    (fun n => by rw [dfa_Trim.l0_succ, decide_eq_false (by omega), cond_false, dfa_Trim.j0_eq, List.take_length])
    (fun i hi n => by
      have hr := hor i hi
      rw [dfa_Trim.l0_succ, getD_nat, getD_lt hi, List.length_replicate, show ((L.toNat : Nat) : Int) = L by omega]
      (repeat (first | rw [if_pos (by omega)] | rw [decide_eq_true (by omega), cond_true] | rw [decide_eq_false (by omega), cond_false]))
      rw [inner n i hi _ _ _ _ _ _ _ _ _ _ k (by omega), dfa_Trim.j1_eq]
      have z1 : (trimF F (o.take i)).length = i := by simp [trimF]; omega
      have z2 : (trimN L N ν (o.take i)).length = i := by simp [trimN]; omega
      simp only [z1, z2, List.length_singleton]
      (repeat (first | rw [if_pos (by omega)] | rw [decide_eq_true (by omega), cond_true] | rw [decide_eq_false (by omega), cond_false]))
      rw [dfa_Trim.j2_eq, wrap_succ (by omega), trimF_snoc F o hi, trimN_snoc L N ν o hi]; rfl) k (by omega)
  exact this
theorem dfa_Trim_bad {L s : Int} {F : List Bool} {N : List (List Int)} (H : ¬ DV L s F N) {k : Nat} (hk : 600 < k) : dfa_Trim.f k L s F N = some ((0, 0, [], []), []) := by
  rw [dfa_Trim.f_eq, dfa_Validate_ok _ _ _ _ hk, Option.bind_some, show (dfaE L s F N != 0) = true from bne_iff_ne.2 (fun h => H (dfaE_zero.1 h)), cond_true]

/-! ### semigroupref07.Access, semigroupref07.Trim -/
structure MetOk (n : Nat) (q : List (Ent Int)) (μ : List Bool) : Prop where
  len : μ.length = n
  yes : ∀ e ∈ q, μ.getD e.x.toNat false = true
  no : ∀ x : Int, 0 ≤ x → x < n → (∀ e ∈ q, e.x ≠ x) → μ.getD x.toNat false = false
theorem MetOk.push {n : Nat} {q : List (Ent Int)} {μ : List Bool} (V : MetOk n q μ) {e : Ent Int} (hr : InR n e.x) : MetOk n (q ++ [e]) (μ.set e.x.toNat true) where
  len := by rw [List.length_set, V.len]
  yes := fun f hf => by
    have h1 := hr.1; have h2 := hr.2; have hl := V.len
    rw [getD_set]
    split
    · rfl
    · rename_i hne
      rcases List.mem_append.1 hf with hf | hf
      · exact V.yes f hf
      · rw [List.mem_singleton.1 hf] at hne
        exact absurd ⟨rfl, by omega⟩ hne
  no := fun x h0 h1 h => by
    have a1 := hr.1
    have := h e (by simp)
    rw [getD_set, if_neg (by omega)]
    exact V.no x h0 h1 (fun f hf => h f (by simp [hf]))
theorem MetOk.start {n : Nat} {e0 : Ent Int} (h : InR n e0.x) : MetOk n [e0] ((List.replicate n false).set e0.x.toNat true) where
  len := by simp
  yes := fun e he => by
    have h1 := h.1; have h2 := h.2
    rw [List.mem_singleton.1 he, getD_set, if_pos ⟨rfl, by simp; omega⟩]
  no := fun x h0 h1 hn => by
    have := hn e0 (by simp); have h3 := h.1
    rw [getD_set, if_neg (by omega), getD_lt (by simp; omega)]; simp
theorem semigroupref07_Access_l1 {L s : Int} {F : List Bool} {N : List (List Int)} (H : DV L s F N) {k n0 i : Nat} {e0 e : Ent Int} (hs : e0.x = s) :
    ∀ (n1 : Nat) (st : Nat × List (Ent Int) × List Bool), L.toNat - st.1 < n1 → (BInv (dl N) L.toNat e0 st.2.1 i st.1 ∧ MetOk F.length st.2.1 st.2.2 ∧ st.1 ≤ L.toNat ∧ st.2.1[i]? = some e) →
    ∃ q' μ', semigroupref07_Access.l1 k n0 n1 i (st.1 : Int) L s F N (st.2.1.map (·.x)) (st.2.1.map fun e => wordOf e.w) st.2.2 =
      semigroupref07_Access.l0 k n0 ((i + 1 : Nat) : Int) L s F N (q'.map (·.x)) (q'.map fun e => wordOf e.w) μ' ∧ BInv (dl N) L.toNat e0 q' (i + 1) 0 ∧ MetOk F.length q' μ' := by
  refine wh (f := fun n (st : Nat × List (Ent Int) × List Bool) => semigroupref07_Access.l1 k n0 n i (st.1 : Int) L s F N (st.2.1.map (·.x)) (st.2.1.map fun e => wordOf e.w) st.2.2)
    (fun st => BInv (dl N) L.toNat e0 st.2.1 i st.1 ∧ MetOk F.length st.2.1 st.2.2 ∧ st.1 ≤ L.toNat ∧ st.2.1[i]? = some e) (fun st => L.toNat - st.1)
    (fun x => ∃ q' μ', x = semigroupref07_Access.l0 k n0 ((i + 1 : Nat) : Int) L s F N (q'.map (·.x)) (q'.map fun e => wordOf e.w) μ' ∧ BInv (dl N) L.toNat e0 q' (i + 1) 0 ∧ MetOk F.length q' μ') ?_
  rintro n ⟨a, q, μ⟩ ⟨B, V, ha, he⟩
  dsimp only at *
  have h6 := H.l6; have h5 := H.n5; have h1 := H.l1; have hnn := H.nn
  have hc := ent_count H hs B
  have hr := ent_range H hs B he
  have hrl := H.rowlen hr.1 hr.2
  have hil := (List.getElem?_eq_some_iff.1 he).1
  have hwl := B.wlen i e he
  have eo : (q.map (·.x)).getD i 0 = e.x := by simp [he]
  have ew : (q.map fun e => wordOf e.w).getD i ByteArray.empty = wordOf e.w := by simp [he]
  by_cases h : a < L.toNat
  · right
    have hz := H.dl_range hr.1 hr.2 h
    have ez : (N.getD e.x.toNat []).getD a 0 = dl N e.x a := rfl
    have hVl := V.len
    by_cases hm : ∃ f ∈ q, f.x = dl N e.x a
    · obtain ⟨f, hf, hx⟩ := hm
      have hp := V.yes f hf
      rw [hx] at hp
      refine ⟨(a + 1, q, μ), ⟨B.old he hf hx, V, by dsimp only; omega, he⟩, by dsimp only; omega, ?_⟩
      rw [semigroupref07_Access.l1_succ, getD_nat, eo, getD_nat, ez, List.length_map]
      (repeat (first | rw [if_pos (by omega)] | rw [decide_eq_true (by omega), cond_true] | rw [decide_eq_false (by omega), cond_false]))
      rw [hp, Bool.not_true, cond_false, wrap_succ (by omega)]
    · have hn : ∀ f ∈ q, f.x ≠ dl N e.x a := fun f hf hx => hm ⟨f, hf, hx⟩
      have hno := V.no _ hz.1 hz.2 hn
      refine ⟨(a + 1, q ++ [⟨dl N e.x a, e.w ++ [a], i, a⟩], μ.set (dl N e.x a).toNat true), ⟨B.new he h hn, V.push (e := ⟨dl N e.x a, e.w ++ [a], i, a⟩) hz, by dsimp only; omega, ?_⟩, by dsimp only; omega, ?_⟩
      · dsimp only; rw [List.getElem?_append_left hil]; exact he
      rw [semigroupref07_Access.l1_succ, getD_nat, eo, getD_nat, ez, getD_nat, ew, wrap_i64 (n := 97 + (a : Int)) (by omega) (by omega), wrap_u8 (by omega) (by omega)]
      simp only [List.length_map, List.length_singleton, List.map_append, List.map_cons, List.map_nil, wordOf_size, strOf_size]
      (repeat (first | rw [if_pos (by omega)] | rw [decide_eq_true (by omega), cond_true] | rw [decide_eq_false (by omega), cond_false]))
      rw [hno, Bool.not_false, cond_true]
      (repeat (first | rw [if_pos (by omega)] | rw [decide_eq_true (by omega), cond_true] | rw [decide_eq_false (by omega), cond_false]))
      rw [wrap_succ (by omega), wordOf_snoc]
  · left
    obtain rfl : a = L.toNat := by omega
    refine ⟨q, μ, ?_, B.next hil, V⟩
    rw [semigroupref07_Access.l1_succ, decide_eq_false (by omega), cond_false, semigroupref07_Access.j1_eq, wrap_succ (by omega)]
theorem semigroupref07_Access_ok {L s : Int} {F : List Bool} {N : List (List Int)} (H : DV L s F N) {k : Nat} (hk : 600 < k) :
    ∃ q, semigroupref07_Access.f k L s F N = some (q.map (·.x), q.map fun e => wordOf e.w) ∧ BInv (dl N) L.toNat ⟨s, [], -1, -1⟩ q q.length 0 := by
  have h5 := H.n5; have h6 := H.l6; have h0 := H.s0; have h1 := H.s1; have hnn := H.nn
  have key := wh (f := fun n (st : Nat × List (Ent Int) × List Bool) => semigroupref07_Access.l0 k n (st.1 : Int) L s F N (st.2.1.map (·.x)) (st.2.1.map fun e => wordOf e.w) st.2.2)
    (fun st => BInv (dl N) L.toNat ⟨s, [], -1, -1⟩ st.2.1 st.1 0 ∧ MetOk F.length st.2.1 st.2.2) (fun st => F.length - st.1)
    (fun x => ∃ q', x = some (q'.map (·.x), q'.map fun e => wordOf e.w) ∧ BInv (dl N) L.toNat ⟨s, [], -1, -1⟩ q' q'.length 0) (by
      rintro n ⟨i, q, μ⟩ ⟨B, V⟩
      dsimp only at *
      have hc := ent_count H rfl B
      have hi := B.hi
      by_cases h : i < q.length
      · right
        have he : q[i]? = some q[i] := List.getElem?_eq_getElem h
        obtain ⟨q', μ', h1, h2, h3⟩ := semigroupref07_Access_l1 H (n0 := n) (k := k) (e := q[i]) rfl k (0, q, μ) (by dsimp only; omega) ⟨B, V, by dsimp only; omega, he⟩
        refine ⟨(i + 1, q', μ'), ⟨h2, h3⟩, by dsimp only; omega, ?_⟩
        rw [semigroupref07_Access.l0_succ, List.length_map, decide_eq_true (by omega), cond_true]
        exact h1
      · left
        obtain rfl : i = q.length := by omega
        refine ⟨q, ?_, B⟩
        rw [semigroupref07_Access.l0_succ, List.length_map, decide_eq_false (by omega), cond_false, semigroupref07_Access.j0_eq])
    k (0, [⟨s, [], -1, -1⟩], (List.replicate F.length false).set s.toNat true) (by dsimp only; omega) ⟨BInv.init rfl, MetOk.start ⟨h0, h1⟩⟩
  obtain ⟨q, h, B⟩ := key
  refine ⟨q, ?_, B⟩
  rw [semigroupref07_Access.f_eq, Int.toNat_natCast, List.length_replicate]
  (repeat (first | rw [if_pos (by omega)] | rw [decide_eq_true (by omega), cond_true] | rw [decide_eq_false (by omega), cond_false]))
  exact h
theorem semigroupref07_Trim_ok {L s : Int} {F : List Bool} {N : List (List Int)} (H : DV L s F N) {k : Nat} (hk : 600 < k) :
    ∃ q ν, semigroupref07_Trim.f k L s F N = some ((L, 0, trimF F (q.map (·.x)), trimN L N ν (q.map (·.x))), ν) ∧
      BInv (dl N) L.toNat ⟨s, [], -1, -1⟩ q q.length 0 ∧ NumOk F.length q ν := by
  obtain ⟨q, h, B⟩ := semigroupref07_Access_ok H hk
  have h5 := H.n5; have h6 := H.l6; have h1 := H.l1; have hnn := H.nn
  have hc := ent_count H rfl B
  have hqr : ∀ f ∈ q, InR F.length f.x := fun f hf => by obtain ⟨j, hj⟩ := List.mem_iff_getElem?.1 hf; exact ent_range H rfl B hj
  -- the numbers
  have num : ∀ n i ν, q.length - i < n → i ≤ q.length → NumOk F.length (q.take i) ν → ∃ ν', semigroupref07_Trim.l1 k n (q.length : Int) (i : Int) L s F N 0 0 (q.map (·.x)) ν [] [] =
      semigroupref07_Trim.j1 k L s F N 0 0 (q.map (·.x)) ν' [] [] ∧ NumOk F.length q ν' := by
    intro n
    induction n with
    | zero => intro i ν h; omega
    | succ n ih =>
      intro i ν hn hi V
      have hVl := V.len
      by_cases hlt : i < q.length
      · have he : q[i]? = some q[i] := List.getElem?_eq_getElem hlt
        have hr := hqr q[i] (List.getElem_mem hlt)
        have hr1 := hr.1; have hr2 := hr.2
        have V' := V.push hr (fun f hf => hqr f (List.mem_of_mem_take hf)) (fun f hf e => by
          obtain ⟨j, hj⟩ := List.mem_iff_getElem?.1 hf
          rw [List.getElem?_take] at hj
          split at hj
          · have := B.nd j i f q[i] hj he e; omega
          · cases hj)
        rw [← List.take_succ_eq_append_getElem hlt, List.length_take, Nat.min_eq_left (by omega)] at V'
        obtain ⟨ν', e1, e2⟩ := ih (i + 1) _ (by omega) (by omega) V'
        refine ⟨ν', ?_, e2⟩
        rw [semigroupref07_Trim.l1_succ, getD_nat, show (q.map (·.x)).getD i 0 = q[i].x by simp [hlt], List.length_map]
        (repeat (first | rw [if_pos (by omega)] | rw [decide_eq_true (by omega), cond_true] | rw [decide_eq_false (by omega), cond_false]))
        rw [wrap_succ (by omega)]; exact e1
      · obtain rfl : i = q.length := by omega
        rw [List.take_length] at V
        exact ⟨ν, by rw [semigroupref07_Trim.l1_succ, decide_eq_false (by omega), cond_false], V⟩
  obtain ⟨ν, hν, V⟩ := num k 0 (List.replicate F.length (-1)) (by omega) (by omega) ⟨by simp, fun j e he => by simp at he, fun x h0 h1 _ => by rw [getD_lt (by simp; omega)]; simp⟩
  refine ⟨q, ν, ?_, B, V⟩
  have fill := upc (f := fun n i => semigroupref07_Trim.l0 k n (F.length : Int) (i : Int) L s F N 0 0 (q.map (·.x)) (List.replicate i (-1) ++ List.replicate (F.length - i) 0) [] []) (len := F.length) (r := semigroupref07_Trim.j0 k L s F N 0 0 (q.map (·.x)) (List.replicate F.length (-1)) [] [])
    (fun n => by rw [semigroupref07_Trim.l0_succ, decide_eq_false (by omega), cond_false, Nat.sub_self]; simp)
    (fun i hi n => by
      rw [semigroupref07_Trim.l0_succ, decide_eq_true (by omega), cond_true, if_pos (by omega), if_pos (by simp; omega), wrap_succ (by omega), set_nat, repl_set _ _ hi]) k (by omega)
  have hVl := V.len
  rw [semigroupref07_Trim.f_eq, h, Option.bind_some]
  (repeat (first | rw [if_pos (by omega)] | rw [decide_eq_true (by omega), cond_true] | rw [decide_eq_false (by omega), cond_false]))
  rw [Int.toNat_natCast, List.length_replicate]
  simp only [List.replicate_zero, List.nil_append, Nat.sub_zero] at fill
  refine Eq.trans fill ?_
  rw [semigroupref07_Trim.j0_eq, List.length_map]
  refine Eq.trans hν ?_
  rw [semigroupref07_Trim.j1_eq]
  generalize ho : q.map (·.x) = o
  have hol : o.length = q.length := by rw [← ho, List.length_map]
  have hor : ∀ i (hi : i < o.length), 0 ≤ o[i] ∧ o[i] < F.length := fun i hi => by
    have e : q[i]? = some q[i] := List.getElem?_eq_getElem (by omega)
    have := ent_range H rfl B e
    subst ho; simpa using this
  have inner : ∀ n0 i (hi : i < o.length) v50 v51 a b c d o6 o7 o8 o9 n, L.toNat < n → semigroupref07_Trim.l3 k n0 n o[i] v50 v51 (N.getD o[i].toNat []) ((N.getD o[i].toNat []).length : Int) 0 L s F N a b ν c d [] o o6 o7 o8 o9 =
      semigroupref07_Trim.j3 k n0 o[i] v50 v51 L s F N a b ν c d ((List.range L.toNat).map fun a => ν.getD (dl N o[i] a).toNat 0) o o6 o7 o8 o9 := by
    intro n0 i hi v50 v51 aa b c d o6 o7 o8 o9 n hn
    have hr := hor i hi
    have hrl := H.rowlen hr.1 hr.2
    have := upc (f := fun n j => semigroupref07_Trim.l3 k n0 n o[i] v50 v51 (N.getD o[i].toNat []) ((N.getD o[i].toNat []).length : Int) (j : Int) L s F N aa b ν c d ((List.range j).map fun a => ν.getD (dl N o[i] a).toNat 0) o o6 o7 o8 o9) (len := L.toNat)
      (r := semigroupref07_Trim.j3 k n0 o[i] v50 v51 L s F N aa b ν c d ((List.range L.toNat).map fun a => ν.getD (dl N o[i] a).toNat 0) o o6 o7 o8 o9)
      (fun n => by rw [semigroupref07_Trim.l3_succ, decide_eq_false (by omega), cond_false])
      (fun j hj n => by
        have hz := H.dl_range hr.1 hr.2 hj
        have ez : (N.getD o[i].toNat []).getD j 0 = dl N o[i] j := rfl
        rw [semigroupref07_Trim.l3_succ, getD_nat, ez]
        simp only [List.length_map, List.length_range, List.length_singleton]
        (repeat (first | rw [if_pos (by omega)] | rw [decide_eq_true (by omega), cond_true] | rw [decide_eq_false (by omega), cond_false]))
        rw [wrap_succ (by omega), List.range_succ, List.map_append]; rfl) n hn
    exact this
  have := upc (f := fun n i => semigroupref07_Trim.l2 k n (o.length : Int) (i : Int) L s F N 0 0 ν L 0 o [] [] (trimF F (o.take i)) (trimN L N ν (o.take i))) (len := o.length) (r := some ((L, 0, trimF F o, trimN L N ν o), ν))
    (fun n => by rw [semigroupref07_Trim.l2_succ, decide_eq_false (by omega), cond_false, semigroupref07_Trim.j2_eq, List.take_length])
    (fun i hi n => by
      have hr := hor i hi
      rw [semigroupref07_Trim.l2_succ, getD_nat, getD_lt hi]
      (repeat (first | rw [if_pos (by omega)] | rw [decide_eq_true (by omega), cond_true] | rw [decide_eq_false (by omega), cond_false]))
      rw [inner n i hi _ _ _ _ _ _ _ _ _ _ k (by omega), semigroupref07_Trim.j3_eq]
      have z1 : (trimF F (o.take i)).length = i := by simp [trimF]; omega
      have z2 : (trimN L N ν (o.take i)).length = i := by simp [trimN]; omega
      simp only [z1, z2, List.length_singleton]
      (repeat (first | rw [if_pos (by omega)] | rw [decide_eq_true (by omega), cond_true] | rw [decide_eq_false (by omega), cond_false]))
      rw [semigroupref07_Trim.j4_eq, wrap_succ (by omega), trimF_snoc F o hi, trimN_snoc L N ν o hi]; rfl) k (by omega)
  exact this

end Go.Proofs.Yteblfhhhbfodgaa.Sim
