/- The transformation of a word maps each state to the state that the word leads to. -/
import Derived.Test.YtimepajbnongoaaPTransRunsx
import Derived.Test.YtimepajbnongoaaBase
namespace Go.Proofs.Ytimepajbnongoaa.Pure
open Go.RowKit Go.Proofs.Ytimepajbnongoaa.PTransRuns Go.Proofs.YtimepajbnongoaaW.PrintWords Go.Proofs.YtimepajbnongoaaW.PrintLast Go.Proofs.YtimepajbnongoaaW.PrintMore Go.Proofs.Ytimepajbnongoaa.Base

/-! dfa_Validate: what is wrong with an automaton: the loops over rows -/
theorem dfa_Validate_row (n : Int) (N : List (List Int)) (nN i : Int) (r : List Int) (L s : Int) (F : List Bool) (res : Int) (hr : r.length ≤ 9223372036854775806) (hres : Ev (fun k => dfa_Validate.l0 k n N nN (wrap64 (i + 1)) L s F N) res) (d : Nat) : ∀ j : Nat, j + d = r.length →
    Ev (fun k => dfa_Validate.l1 k n N nN i r (r.length : Int) (j : Int) L s F N) (if (r.drop j).all (fun q => decide (0 ≤ q) && decide (q < n)) = true then res else 4) := by
  induction d with
  | zero =>
    intro j hd
    refine Ev.step (fun _ => dfa_Validate.l1.eq_2 ..) (ev_neg (by omega) ?_)
    rw [List.drop_eq_nil_of_le (by omega)]; exact hres
  | succ d ih =>
    intro j hd
    refine Ev.step (fun _ => dfa_Validate.l1.eq_2 ..) (ev_pos (by omega) (ev_pos (by omega) (ev_pos (by omega) ?_)))
    rw [List.drop_eq_getElem_cons (show j < r.length by omega), List.all_cons, rd_lt (show j < r.length by omega)]
    refine ev_ite (fun h => ev_some ?_) (fun h => ev_ite (fun h2 => ev_some ?_) (fun h2 => ?_))
    · rw [decide_eq_false (show ¬ (0 ≤ r[j]) by omega)]; rfl
    · rw [decide_eq_false (show ¬ (r[j] < n) by omega), Bool.and_false]; rfl
    · rw [decide_eq_true (show 0 ≤ r[j] by omega), decide_eq_true (show r[j] < n by omega), wrap64_nat (by omega) (by omega)]
      exact ih (j + 1) (by omega)
theorem dfa_Validate_rows (n : Int) (N : List (List Int)) (L s : Int) (F : List Bool) (hN : N.length ≤ 9223372036854775806) (hL : L ≤ 6) (d : Nat) : ∀ i : Nat, i + d = N.length →
    Ev (fun k => dfa_Validate.l0 k n N (N.length : Int) (i : Int) L s F N) (if (N.drop i).all (rowOk n L) = true then 0 else 4) := by
  induction d with
  | zero =>
    intro i hd
    refine Ev.step (fun _ => dfa_Validate.l0.eq_2 ..) (ev_neg (by omega) (ev_some ?_))
    rw [List.drop_eq_nil_of_le (by omega)]; rfl
  | succ d ih =>
    intro i hd
    have hi : i < N.length := by omega
    refine Ev.step (fun _ => dfa_Validate.l0.eq_2 ..) (ev_pos (by omega) (ev_pos (by omega) (ev_pos (by omega) ?_)))
    rw [List.drop_eq_getElem_cons hi, List.all_cons, show rd_L1 N (i : Int) = N[i] from rdR_lt hi]
    refine ev_ite (fun h => ?_) (fun h => ev_some (by simp [rowOk, h]))
    have h2 := dfa_Validate_row n N (N.length : Int) (i : Int) N[i] L s F _ (by omega) (by rw [wrap64_nat (by omega) (by omega)]; exact ih (i + 1) (by omega)) N[i].length 0 (by omega)
    rw [List.drop_zero] at h2
    refine ev_to h2 ?_
    simp only [rowOk, h, decide_true, Bool.true_and, Bool.and_eq_true]
    by_cases h3 : N[i].all (fun q => decide (0 ≤ q) && decide (q < n)) = true
    · simp [h3]
    · simp [h3]
theorem dfa_Validate_ev (L s : Int) (F : List Bool) (N : List (List Int)) (hN : N.length ≤ 9223372036854775806) : Ev (fun k => dfa_Validate.f k L s F N) (dfaE L s F N) := by
  unfold dfa_Validate.f dfaE
  have bad : ∀ L' : Int, Ev (fun k => dfa_Validate.j0 k (F.length : Int) true L' s F N) 1 := fun _ => Ev.step (fun _ => dfa_Validate.j0.eq_2 ..) (ev_pos rfl (ev_some rfl))
  refine ev_ite (fun h => ?_) (fun h => ?_)
  · rw [if_pos (.inl h)]; exact bad L
  · by_cases h2 : L > 6
    · rw [if_pos (.inr h2), decide_eq_true h2]; exact bad L
    · rw [if_neg (by omega), decide_eq_false h2]
      refine Ev.step (fun _ => dfa_Validate.j0.eq_2 ..) (ev_neg (by decide) (ev_ite (fun h3 => ev_some (by rw [if_pos h3])) (fun h3 => ?_)))
      rw [if_neg h3]
      refine ev_ite (fun h4 => ev_some (by rw [if_pos (.inl (by omega))])) (fun h4 => ev_ite (fun h5 => ?_) (fun h5 => ev_some (by rw [if_pos (.inr (.inl (by omega)))])))
      refine ev_ite (fun h6 => ev_some (by rw [if_pos (.inr (.inr (.inl h6)))])) (fun h6 => ev_ite (fun h7 => ev_some (by rw [if_pos (.inr (.inr (.inr h7)))])) (fun h7 => ?_))
      rw [if_neg (by omega)]
      exact dfa_Validate_rows (F.length : Int) N L s F hN (by omega) N.length 0 (by omega)
theorem trans_OfDFA_row (L s : Int) (F : List Bool) (N : List (List Int)) (h : DfaOk L s F N) (h32 : F.length ≤ 32) (a : Nat) (ha : (a : Int) < L) (R : List (List Int)) (hR : R = ofDfa L F.length N) (res : List (List Int) × Int)
    (hres : Ev (fun k => trans_OfDFA.l0 k (fillAt R [] (a + 1)) (R.length : Int) ((a : Int) + 1) L s F N) res) (d : Nat) : ∀ q : Nat, q + d = F.length →
    Ev (fun k => trans_OfDFA.l1 k ((fillAt R [] a).set a (fillAt ((iota F.length).map (fun q => rd (rdR N q) (a : Int))) 0 q)) (a : Int) (R.length : Int) (a : Int) (F.length : Int) (q : Int) L s F N) res := by
  have hRl : R.length = L.toNat := by rw [hR, ofDfa_length]
  have hl1 := h.l1
  have hl2 := h.l2
  have haR : a < R.length := by omega
  have hRa : R[a] = (iota F.length).map (fun q => rd (rdR N q) (a : Int)) := by
    subst hR
    simp only [ofDfa, List.getElem_map, iota_get]
  have hfl : (fillAt R [] a).length = R.length := fillAt_length _ _ (by omega)
  have hrow : ((iota F.length).map (fun q => rd (rdR N q) (a : Int))).length = F.length := by rw [List.length_map, iota_length]
  have hN := h.len
  induction d with
  | zero =>
    intro q hd
    refine Ev.step (fun _ => trans_OfDFA.l1.eq_2 ..) (ev_neg (by omega) ?_)
    rw [show q = ((iota F.length).map (fun q => rd (rdR N q) (a : Int))).length by omega, fillAt_all, ← hRa, fillAt_set _ _ haR, wrap64_nat (by omega) (by omega)]
    exact hres
  | succ d ih =>
    intro q hd
    have hq : q < N.length := by omega
    have hk := h.row (q := (q : Int)) (by omega) (by omega)
    refine Ev.step (fun _ => trans_OfDFA.l1.eq_2 ..) (ev_pos (by omega) (ev_pos (by omega) (ev_pos (by rw [List.length_set, hfl]; omega) (ev_pos (by omega) (ev_pos (by omega) (ev_pos ?_ (ev_pos ?_ ?_)))))))
    · rw [show rd_L1 N (q : Int) = rdR N (q : Int) from rfl]; omega
    · rw [show rd_L1 ((fillAt R [] a).set a (fillAt ((iota F.length).map (fun q => rd (rdR N q) (a : Int))) 0 q)) (a : Int) = _ from rdR_lt (by rw [List.length_set, hfl]; exact haR), List.getElem_set_self, fillAt_length _ _ (by omega)]
      omega
    · rw [show rd_L1 ((fillAt R [] a).set a (fillAt ((iota F.length).map (fun q => rd (rdR N q) (a : Int))) 0 q)) (a : Int) = _ from rdR_lt (by rw [List.length_set, hfl]; exact haR), List.getElem_set_self, Int.toNat_natCast, Int.toNat_natCast, List.set_set,
        show rd (rd_L1 N (q : Int)) (a : Int) = ((iota F.length).map (fun q => rd (rdR N q) (a : Int)))[q]'(by omega) by simp only [List.getElem_map, iota_get]; rfl,
        fillAt_set _ _ (by omega), wrap64_nat (by omega) (by omega)]
      exact ih (q + 1) (by omega)
theorem trans_OfDFA_rows (L s : Int) (F : List Bool) (N : List (List Int)) (h : DfaOk L s F N) (h32 : F.length ≤ 32) (R : List (List Int)) (hR : R = ofDfa L F.length N) (d : Nat) : ∀ a : Nat, a + d = R.length →
    Ev (fun k => trans_OfDFA.l0 k (fillAt R [] a) (R.length : Int) (a : Int) L s F N) (R, 0) := by
  have hRl : R.length = L.toNat := by rw [hR, ofDfa_length]
  have hl1 := h.l1
  have hl2 := h.l2
  induction d with
  | zero =>
    intro a hd
    refine Ev.step (fun _ => trans_OfDFA.l0.eq_2 ..) (ev_neg (by omega) (ev_some ?_))
    rw [show a = R.length by omega, fillAt_all]
  | succ d ih =>
    intro a hd
    refine Ev.step (fun _ => trans_OfDFA.l0.eq_2 ..) (ev_pos (by omega) (ev_pos (by omega) (ev_pos (by omega) (ev_pos (by omega) (ev_pos (by rw [fillAt_length _ _ (by omega)]; omega) ?_)))))
    have := trans_OfDFA_row L s F N h h32 a (by omega) R hR (R, 0) (by have := ih (a + 1) (by omega); exact this) F.length 0 (by omega)
    rw [fillAt_zero, List.length_map, iota_length] at this
    exact this
/-- trans_OfDFA -/
def ofT (L s : Int) (F : List Bool) (N : List (List Int)) : List (List Int) × Int := if dfaE L s F N = 0 then if F.length > 32 then ([], 3) else (ofDfa L F.length N, 0) else ([], dfaE L s F N)
theorem trans_OfDFA_ev (L s : Int) (F : List Bool) (N : List (List Int)) (hN : N.length ≤ 9223372036854775806) : Ev (fun k => trans_OfDFA.f k L s F N) (ofT L s F N) := by
  unfold trans_OfDFA.f ofT
  refine ev_bind _ (dfa_Validate_ev L s F N hN) (ev_ite (fun h0 => ?_) (fun h0 => ev_some (by rw [if_neg h0])))
  rw [if_pos h0]
  have h := dfaE_ok.1 h0
  have hl1 := h.l1
  have hl2 := h.l2
  refine ev_ite (fun h1 => ev_some (by rw [if_pos (by omega)])) (fun h1 => ?_)
  rw [if_neg (by omega)]
  refine ev_pos (by omega) (ev_pos (by omega) (ev_bind1 ?_))
  have := trans_OfDFA_rows L s F N h (by omega) _ rfl (ofDfa L F.length N).length 0 (by omega)
  rw [fillAt_zero, ofDfa_length] at this
  rw [List.length_replicate]
  exact this
/-! Words: strings of small letters, as lists of the letters' numbers. -/
/-- The letters of a string, from 'a' on. -/
def wlet (s : ByteArray) : List Int := s.data.toList.map (fun b => (b.toNat : Int) - 97)
theorem wlet_length (s : ByteArray) : (wlet s).length = s.size := by
  rw [wlet, List.length_map, Array.length_toList]; rfl
theorem wlet_get (s : ByteArray) {i : Nat} (h : i < (wlet s).length) : (wlet s)[i] = bt s (i : Int) - 97 := by
  have hs : i < s.size := by rwa [wlet_length] at h
  have := bt_at s (i : Int) (by simpa using hs)
  rw [← this]
  simp [wlet]; rfl
theorem wlet_append (s t : ByteArray) : wlet (s ++ t) = wlet s ++ wlet t := by
  simp [wlet, ByteArray.data_append]
/-- Words over the first L letters. -/
def isW (s : ByteArray) (L : Int) : Bool := decide (1 ≤ L) && decide (L ≤ 6) && decide (s.size ≤ 2048) && (wlet s).all (fun x => decide (0 ≤ x) && decide (x < L))
theorem isW_iff {s : ByteArray} {L : Int} : isW s L = true ↔ 1 ≤ L ∧ L ≤ 6 ∧ s.size ≤ 2048 ∧ ∀ x ∈ wlet s, 0 ≤ x ∧ x < L := by simp [isW, and_assoc]
theorem isW_left {s t : ByteArray} {L : Int} (h : isW (s ++ t) L = true) : isW s L = true := by
  obtain ⟨h1, h2, h3, h4⟩ := isW_iff.1 h
  rw [wlet_append] at h4
  rw [ByteArray.size_append] at h3
  exact isW_iff.2 ⟨h1, h2, by omega, fun x hx => h4 x (List.mem_append_left _ hx)⟩
theorem isW_bt {s : ByteArray} {L : Int} (h : isW s L = true) {i : Nat} (hi : i < s.size) : 97 ≤ bt s (i : Int) ∧ bt s (i : Int) - 97 < L ∧ bt s (i : Int) - 97 = (wlet s)[i]'(by rw [wlet_length]; exact hi) := by
  obtain ⟨_, _, _, h4⟩ := isW_iff.1 h
  have e := wlet_get s (i := i) (by rw [wlet_length]; exact hi)
  have := h4 _ (List.getElem_mem (by rw [wlet_length]; exact hi : i < (wlet s).length))
  rw [e] at this
  exact ⟨by omega, this.2, e.symm⟩
/-- Generators: transformations of the same points. -/
def isG (gens : List (List Int)) : Bool := decide (1 ≤ gens.length) && decide (gens.length ≤ 6) && gens.all (fun g => isT g && decide (g.length = (rdR gens 0).length))
theorem isG_iff {gens : List (List Int)} : isG gens = true ↔ 1 ≤ gens.length ∧ gens.length ≤ 6 ∧ ∀ g ∈ gens, isT g = true ∧ g.length = (rdR gens 0).length := by simp [isG, and_assoc]
/-- The transformation of a list of letters, behind another one. -/
def wTo (gens : List (List Int)) (xs : List Int) (a : List Int) : List Int := xs.foldl (fun acc x => cmp acc (rdR gens x)) a
/-- The transformation of a list of letters. -/
def wT (gens : List (List Int)) (xs : List Int) : List Int := wTo gens xs (iota (rdR gens 0).length)
theorem wTo_isTr {gens : List (List Int)} {n : Nat} (hg : ∀ g ∈ gens, isTr n g) : ∀ (xs : List Int) (a : List Int), (∀ x ∈ xs, 0 ≤ x ∧ x < gens.length) → isTr n a → isTr n (wTo gens xs a)
  | [], _, _, ha => ha
  | x :: xs, a, hx, ha => by
    have h1 := hx x List.mem_cons_self
    exact wTo_isTr hg xs _ (fun y hy => hx y (List.mem_cons_of_mem _ hy)) (isTr_cmp ha (hg _ (rdR_mem h1.1 h1.2)))
theorem wTo_cmp {gens : List (List Int)} {n : Nat} (hg : ∀ g ∈ gens, isTr n g) : ∀ (xs : List Int) (a b : List Int), (∀ x ∈ xs, 0 ≤ x ∧ x < gens.length) → isTr n a → isTr n b → wTo gens xs (cmp a b) = cmp a (wTo gens xs b)
  | [], _, _, _, _, _ => rfl
  | x :: xs, a, b, hx, ha, hb => by
    have h1 := hx x List.mem_cons_self
    have hgx := hg _ (rdR_mem h1.1 h1.2)
    show wTo gens xs (cmp (cmp a b) (rdR gens x)) = cmp a (wTo gens xs (cmp b (rdR gens x)))
    rw [cmp_assoc (by rw [hb.1]; exact ha.2)]
    exact wTo_cmp hg xs a _ (fun y hy => hx y (List.mem_cons_of_mem _ hy)) ha (isTr_cmp hb hgx)
theorem wT_append {gens : List (List Int)} {n : Nat} (hn : (rdR gens 0).length = n) (hg : ∀ g ∈ gens, isTr n g) {xs ys : List Int} (hx : ∀ x ∈ xs, 0 ≤ x ∧ x < gens.length) (hy : ∀ x ∈ ys, 0 ≤ x ∧ x < gens.length) : wT gens (xs ++ ys) = cmp (wT gens xs) (wT gens ys) := by
  have ht := wTo_isTr hg xs (iota n) hx (isTr_iota n)
  have := wTo_cmp hg ys (wTo gens xs (iota n)) (iota n) hy ht (isTr_iota n)
  rw [cmp_iota (n := n) ht.2] at this
  unfold wT
  rw [hn, ← this]
  unfold wTo
  rw [List.foldl_append]
theorem isG_tr {gens : List (List Int)} (h : isG gens = true) : 1 ≤ (rdR gens 0).length ∧ (rdR gens 0).length ≤ 32 ∧ ∀ g ∈ gens, isTr (rdR gens 0).length g := by
  obtain ⟨h1, _, h3⟩ := isG_iff.1 h
  have h0 := h3 (rdR gens 0) (rdR_mem (by omega) (by omega))
  obtain ⟨a, b, _⟩ := isT_iff.1 h0.1
  exact ⟨a, b, fun g hg => by have := h3 g hg; rw [← this.2]; exact isTr_of this.1⟩
theorem word_Valid_loop (s : ByteArray) (L : Int) (hs : s.size ≤ 2048) (d : Nat) : ∀ i : Nat, i + d = s.size → Ev (fun k => word_Valid.l0 k s L (i : Int)) (((wlet s).drop i).all (fun x => decide (0 ≤ x) && decide (x < L))) := by
  have hw := wlet_length s
  induction d with
  | zero =>
    intro i hd
    refine Ev.step (fun _ => word_Valid.l0.eq_2 ..) (ev_neg (by omega) (ev_some ?_))
    rw [List.drop_eq_nil_of_le (by omega)]; rfl
  | succ d ih =>
    intro i hd
    have hi : i < (wlet s).length := by omega
    have hb := bt_range s (i : Int)
    have hg := wlet_get s hi
    refine Ev.step (fun _ => word_Valid.l0.eq_2 ..) (ev_pos (by omega) (ev_pos (by omega) ?_))
    rw [List.drop_eq_getElem_cons hi, List.all_cons]
    refine ev_ite (fun h => ev_some ?_) (fun h => ev_ite (fun h2 => ev_some ?_) (fun h2 => ?_))
    · rw [decide_eq_false (show ¬ (0 ≤ (wlet s)[i]) by omega)]; rfl
    · rw [decide_eq_false (show ¬ ((wlet s)[i] < L) by omega), Bool.and_false]; rfl
    · rw [decide_eq_true (show 0 ≤ (wlet s)[i] by omega), decide_eq_true (show (wlet s)[i] < L by omega), wrap64_nat (by omega) (by omega)]
      exact ih (i + 1) (by omega)
theorem word_Valid_ev (s : ByteArray) (L : Int) : Ev (fun k => word_Valid.f k s L) (isW s L) := by
  have no : ∀ b : Bool, b = true → isW s L = false → Ev (fun k => word_Valid.j0 k s L b) (isW s L) := by
    intro b hb hn
    refine Ev.step (fun _ => word_Valid.j0.eq_2 ..) (ev_pos hb (ev_some hn.symm))
  have nw : ¬ (1 ≤ L ∧ L ≤ 6 ∧ s.size ≤ 2048) → isW s L = false := by
    intro h
    rw [← Bool.not_eq_true, isW_iff]
    exact fun h2 => h ⟨h2.1, h2.2.1, h2.2.2.1⟩
  unfold word_Valid.f
  refine ev_ite (fun h => no _ rfl (nw (by omega))) (fun h => ev_ite (fun h2 => no _ rfl (nw (by omega))) (fun h2 => ?_))
  by_cases h3 : (s.size : Int) > 2048
  · exact no _ (decide_eq_true h3) (nw (by omega))
  · refine Ev.step (fun _ => word_Valid.j0.eq_2 ..) (ev_neg (by simpa using h3) ?_)
    have := word_Valid_loop s L (by omega) s.size 0 (by omega)
    refine ev_to this ?_
    rw [List.drop_zero, isW, decide_eq_true (show 1 ≤ L by omega), decide_eq_true (show L ≤ 6 by omega), decide_eq_true (show s.size ≤ 2048 by omega)]; rfl
/-! partition_Discrete: 0, 1, .. -/
theorem partition_Discrete_loop (n : Nat) (hl : n ≤ 35184372088832) (d : Nat) : ∀ i : Nat, i + d = n → Ev (fun k => partition_Discrete.l0 k (fillAt (iota n) 0 i) (n : Int) (i : Int)) (iota n) := by
  have hn := iota_length n
  induction d with
  | zero =>
    intro i hd
    refine Ev.step (fun _ => partition_Discrete.l0.eq_2 ..) (ev_neg (by omega) (ev_some ?_))
    rw [show i = (iota n).length by omega, fillAt_all]
  | succ d ih =>
    intro i hd
    refine Ev.step (fun _ => partition_Discrete.l0.eq_2 ..) (ev_pos (by omega) (ev_pos (by omega) (ev_pos (by rw [fillAt_length _ _ (by omega)]; omega) ?_)))
    have hi : i < (iota n).length := by omega
    have e : (i : Int) = (iota n)[i] := (iota_get hi).symm
    have h := ih (i + 1) (by omega)
    rw [← fillAt_set _ _ hi, ← e] at h
    rw [wrap64_nat (by omega) (by omega), Int.toNat_natCast]
    exact h
theorem partition_Discrete_ev (n : Int) (h0 : 0 ≤ n) (h1 : n ≤ 4096) : Ev (fun k => partition_Discrete.f k n) (iota n.toNat) := by
  unfold partition_Discrete.f
  refine ev_neg (by omega) (Ev.step (fun _ => partition_Discrete.j0.eq_2 ..) (ev_neg (by simp; omega) (ev_pos h0 (ev_pos (by omega) (ev_bind1 ?_)))))
  have h := partition_Discrete_loop n.toNat (by omega) n.toNat 0 (by omega)
  rw [fillAt_zero, iota_length] at h
  rw [List.length_replicate]
  exact h
/-- trans_Identity -/
def idT (n : Int) : List Int := if 1 ≤ n ∧ n ≤ 32 then iota n.toNat else []
theorem trans_Identity_ev (n : Int) : Ev (fun k => trans_Identity.f k n) (idT n) := by
  unfold trans_Identity.f idT
  refine ev_ite (fun h => ev_some (by rw [if_neg (by omega)])) (fun h => ev_ite (fun h2 => ev_some (by rw [if_neg (by omega)])) (fun h2 => ?_))
  rw [if_pos (by omega)]
  exact ev_bind _ (partition_Discrete_ev n (by omega) (by omega)) (ev_some rfl)
/-! trans_Valid: is it a transformation -/

theorem trans_Valid_loop (l : List Int) (hl : l.length ≤ 32) (d : Nat) : ∀ i : Nat, i + d = l.length → Ev (fun k => trans_Valid.l0 k l l (l.length : Int) (i : Int)) ((l.drop i).all (fun x => decide (0 ≤ x) && decide (x < l.length))) := by
  induction d with
  | zero =>
    intro i hd
    refine Ev.step (fun _ => trans_Valid.l0.eq_2 ..) (ev_neg (by omega) (ev_some ?_))
    rw [List.drop_eq_nil_of_le (by omega)]; rfl
  | succ d ih =>
    intro i hd
    refine Ev.step (fun _ => trans_Valid.l0.eq_2 ..) (ev_pos (by omega) (ev_pos (by omega) (ev_pos (by omega) ?_)))
    rw [List.drop_eq_getElem_cons (show i < l.length by omega), List.all_cons, rd_lt (show i < l.length by omega)]
    refine ev_ite (fun h => ev_some ?_) (fun h => ev_ite (fun h2 => ev_some ?_) (fun h2 => ?_))
    · rw [decide_eq_false (show ¬ (0 ≤ l[i]) by omega)]; rfl
    · rw [decide_eq_false (show ¬ (l[i] < l.length) by omega), Bool.and_false]; rfl
    · rw [decide_eq_true (show 0 ≤ l[i] by omega), decide_eq_true (show l[i] < l.length by omega), wrap64_nat (by omega) (by omega)]
      exact ih (i + 1) (by omega)
theorem trans_Valid_ev (l : List Int) : Ev (fun k => trans_Valid.f k l) (isT l) := by
  unfold trans_Valid.f isT
  refine ev_ite (fun h => ?_) (fun h => ?_)
  · refine Ev.step (fun _ => trans_Valid.j0.eq_2 ..) (ev_pos rfl (ev_some ?_))
    rw [decide_eq_false (show ¬ (1 ≤ l.length) by omega)]; rfl
  · refine Ev.step (fun _ => trans_Valid.j0.eq_2 ..) (ev_ite (fun h2 => ev_some ?_) (fun h2 => ?_))
    · rw [decide_eq_false (show ¬ (l.length ≤ 32) by simp at h2; omega)]; simp
    · have h3 : l.length ≤ 32 := by simp at h2; omega
      rw [decide_eq_true h3, decide_eq_true (show 1 ≤ l.length by omega)]
      exact trans_Valid_loop l h3 l.length 0 (by omega)
/-! trans_compose: the product -/
theorem trans_compose_loop (f g : List Int) (hl : f.length ≤ 35184372088832) (h : ∀ x ∈ f, 0 ≤ x ∧ x < g.length) (d : Nat) : ∀ i : Nat, i + d = f.length → Ev (fun k => trans_compose.l0 k g (fillAt (cmp f g) 0 i) f (f.length : Int) (i : Int)) (cmp f g) := by
  have hc : (cmp f g).length = f.length := cmp_length f g
  induction d with
  | zero =>
    intro i hd
    refine Ev.step (fun _ => trans_compose.l0.eq_2 ..) (ev_neg (by omega) (ev_some ?_))
    rw [show i = (cmp f g).length by omega, fillAt_all]
  | succ d ih =>
    intro i hd
    have hi : i < f.length := by omega
    have hx := h f[i] (List.getElem_mem hi)
    refine Ev.step (fun _ => trans_compose.l0.eq_2 ..) (ev_pos (by omega) (ev_pos (by omega) (ev_pos (by omega) ?_)))
    rw [rd_lt hi]
    refine ev_pos hx.1 (ev_pos hx.2 (ev_pos (by rw [fillAt_length _ _ (by omega)]; omega) ?_))
    have e : rd g f[i] = (cmp f g)[i] := by simp [cmp]
    rw [wrap64_nat (by omega) (by omega), e, Int.toNat_natCast, fillAt_set _ _ (by omega)]
    exact ih (i + 1) (by omega)
theorem trans_compose_ev (f g : List Int) (hl : f.length ≤ 35184372088832) (h : ∀ x ∈ f, 0 ≤ x ∧ x < g.length) : Ev (fun k => trans_compose.f k f g) (cmp f g) := by
  unfold trans_compose.f
  refine ev_pos (by omega) (ev_pos (by omega) ?_)
  have := trans_compose_loop f g hl h f.length 0 (by omega)
  rwa [fillAt_zero, cmp_length] at this
theorem decode_w {s : ByteArray} {L : Int} (h : isW s L = true) {i : Nat} (hi : i < s.size) : Utf8.decode s i = ((bt s (i : Int)).toNat, 1) := by
  obtain ⟨h1, h2, _⟩ := isW_bt h hi
  have hL := (isW_iff.1 h).2.1
  have e := bt_at s (i : Int) (by simpa using hi)
  have e' : ((s[i]'hi).toNat : Int) = bt s (i : Int) := e
  rw [decode_ascii s i hi (by omega)]
  congr 1
  omega
theorem trans_OfWord_run {gens : List (List Int)} {n : Nat} (hn : n ≤ 32) (hg : ∀ g ∈ gens, isTr n g) {s : ByteArray} (hw : isW s gens.length = true) (d : Nat) : ∀ (i : Nat) (a : List Int), i + d = s.size → isTr n a → Ev (fun k => trans_OfWord.l1 k gens a s i) (wTo gens ((wlet s).drop i) a) := by
  have hwl := wlet_length s
  induction d with
  | zero =>
    intro i a hd _
    refine Ev.step (fun _ => trans_OfWord.l1.eq_2 ..) (ev_neg (by omega) (ev_some ?_))
    rw [List.drop_eq_nil_of_le (by omega)]; rfl
  | succ d ih =>
    intro i a hd ha
    have hi : i < s.size := by omega
    obtain ⟨h1, h2, h3⟩ := isW_bt hw hi
    have hL := (isW_iff.1 hw).2.1
    have e : wrap32 (((Utf8.decode s i).1 : Int) - 97) = (wlet s)[i]'(by omega) := by
      rw [decode_w hw hi, ← h3]
      show wrap32 (((bt s (i : Int)).toNat : Int) - 97) = _
      rw [Int.toNat_of_nonneg (by omega)]
      unfold wrap32; omega
    have e2 : (Utf8.decode s i).2 = 1 := by rw [decode_w hw hi]
    have hx : 0 ≤ (wlet s)[i]'(by omega) ∧ (wlet s)[i]'(by omega) < gens.length := by omega
    have hgx : isTr n (rdR gens ((wlet s)[i]'(by omega))) := hg _ (rdR_mem hx.1 hx.2)
    refine Ev.step (fun _ => trans_OfWord.l1.eq_2 ..) (ev_pos hi ?_)
    rw [e, e2, List.drop_eq_getElem_cons (show i < (wlet s).length by omega)]
    refine ev_pos hx.1 (ev_pos hx.2 (ev_bind _ (trans_compose_ev a _ (by rw [ha.1]; omega) ?_) (ih (i + 1) _ (by omega) (isTr_cmp ha hgx))))
    show ∀ x ∈ a, 0 ≤ x ∧ x < (rdR gens ((wlet s)[i]'(by omega))).length
    rw [hgx.1]; exact ha.2
/-- trans_OfWord -/
def ofW (gens : List (List Int)) (s : ByteArray) : List Int := if isG gens = true ∧ isW s gens.length = true then wT gens (wlet s) else []
theorem trans_OfWord_gens {gens : List (List Int)} {s : ByteArray} (hw : isW s gens.length = true) (d : Nat) : ∀ i : Nat, i + d = gens.length → (∀ g ∈ gens.take i, isT g = true ∧ g.length = (rdR gens 0).length) → Ev (fun k => trans_OfWord.l0 k gens s gens (gens.length : Int) (i : Int)) (ofW gens s) := by
  obtain ⟨w1, w2, _, _⟩ := isW_iff.1 hw
  have hno : ∀ i (h : i < gens.length), ¬ (isT gens[i] = true ∧ gens[i].length = (rdR gens 0).length) → ofW gens s = [] := by
    intro i h hn
    rw [ofW, if_neg]
    rintro ⟨h1, _⟩
    exact hn ((isG_iff.1 h1).2.2 _ (List.getElem_mem h))
  induction d with
  | zero =>
    intro i hd hall
    obtain rfl : i = gens.length := by omega
    rw [List.take_length] at hall
    have hG : isG gens = true := isG_iff.2 ⟨by omega, by omega, hall⟩
    obtain ⟨g1, g2, g3⟩ := isG_tr hG
    refine Ev.step (fun _ => trans_OfWord.l0.eq_2 ..) (ev_neg (by omega) (ev_pos (by omega) ?_))
    have hi := trans_Identity_ev ((rdR gens 0).length : Int)
    rw [idT, if_pos (by omega), Int.toNat_natCast] at hi
    have hr := trans_OfWord_run g2 g3 hw s.size 0 (iota (rdR gens 0).length) (by omega) (isTr_iota _)
    rw [ofW, if_pos ⟨hG, hw⟩]
    exact ev_bind _ hi hr
  | succ d ih =>
    intro i hd hall
    have hi : i < gens.length := by omega
    have er : rd_L1 gens (i : Int) = gens[i] := rdR_lt hi
    refine Ev.step (fun _ => trans_OfWord.l0.eq_2 ..) (ev_pos (by omega) (ev_pos (by omega) (ev_pos (by omega) ?_)))
    rw [er, wrap64_nat (by omega) (by omega)]
    refine ev_bind _ (trans_Valid_ev _) (ev_ite (fun h => ev_pos (by omega) (ev_ite (fun h2 => ?_) (fun h2 => ev_some ?_))) (fun h => ev_some ?_))
    · refine ih (i + 1) (by omega) (fun g hg => ?_)
      rw [List.take_succ_eq_append_getElem hi] at hg
      rcases List.mem_append.1 hg with hg | hg
      · exact hall g hg
      · rw [List.mem_singleton.1 hg]
        have h2' : (gens[i].length : Int) = ((rdR gens 0).length : Int) := h2
        exact ⟨h, by omega⟩
    · refine (hno i hi (fun h3 => h2 ?_)).symm
      show (gens[i].length : Int) = ((rdR gens 0).length : Int)
      omega
    · exact (hno i hi (fun h3 => h h3.1)).symm
theorem trans_OfWord_ev (gens : List (List Int)) (s : ByteArray) : Ev (fun k => trans_OfWord.f k gens s) (ofW gens s) := by
  have no : ∀ b : Bool, b = true → ofW gens s = [] → Ev (fun k => trans_OfWord.j0 k gens s b) (ofW gens s) := by
    intro b hb hn
    exact Ev.step (fun _ => trans_OfWord.j0.eq_2 ..) (ev_pos hb (ev_some hn.symm))
  unfold trans_OfWord.f
  refine ev_ite (fun h => no _ rfl ?_) (fun h => ev_ite (fun h2 => no _ rfl ?_) (fun h2 => ev_bind _ (word_Valid_ev s _) ?_))
  · rw [ofW, if_neg]; rintro ⟨h1, _⟩; have := (isG_iff.1 h1).1; omega
  · rw [ofW, if_neg]; rintro ⟨h1, _⟩; have := (isG_iff.1 h1).2.1; omega
  · by_cases hw : isW s gens.length = true
    · rw [hw]
      exact Ev.step (fun _ => trans_OfWord.j0.eq_2 ..) (ev_neg (by simp) (trans_OfWord_gens hw gens.length 0 (by omega) (by simp)))
    · exact no _ (by simp [hw]) (by rw [ofW, if_neg]; exact fun h => hw h.2)
theorem semigroupref01_Valid_loop (s : ByteArray) (L : Int) (hs : s.size ≤ 2048) (d : Nat) : ∀ i : Nat, i + d = s.size → Ev (fun k => semigroupref01_Valid.l0 k s L (i : Int)) (((wlet s).drop i).all (fun x => decide (0 ≤ x) && decide (x < L))) := by
  have hw := wlet_length s
  induction d with
  | zero =>
    intro i hd
    refine Ev.step (fun _ => semigroupref01_Valid.l0.eq_2 ..) (ev_neg (by omega) (ev_some ?_))
    rw [List.drop_eq_nil_of_le (by omega)]; rfl
  | succ d ih =>
    intro i hd
    have hi : i < (wlet s).length := by omega
    have hb := bt_range s (i : Int)
    have hg := wlet_get s hi
    refine Ev.step (fun _ => semigroupref01_Valid.l0.eq_2 ..) (ev_pos (by omega) (ev_pos (by omega) ?_))
    rw [List.drop_eq_getElem_cons hi, List.all_cons]
    refine ev_ite (fun h => ev_some ?_) (fun h => ev_ite (fun h2 => ev_some ?_) (fun h2 => ?_))
    · rw [decide_eq_false (show ¬ (0 ≤ (wlet s)[i]) by omega)]; rfl
    · rw [decide_eq_false (show ¬ ((wlet s)[i] < L) by omega), Bool.and_false]; rfl
    · rw [decide_eq_true (show 0 ≤ (wlet s)[i] by omega), decide_eq_true (show (wlet s)[i] < L by omega), wrap64_nat (by omega) (by omega)]
      exact ih (i + 1) (by omega)
theorem semigroupref01_Valid_ev (s : ByteArray) (L : Int) : Ev (fun k => semigroupref01_Valid.f k s L) (isW s L) := by
  have no : ∀ b : Bool, b = true → isW s L = false → Ev (fun k => semigroupref01_Valid.j0 k s L b) (isW s L) := by
    intro b hb hn
    refine Ev.step (fun _ => semigroupref01_Valid.j0.eq_2 ..) (ev_pos hb (ev_some hn.symm))
  have nw : ¬ (1 ≤ L ∧ L ≤ 6 ∧ s.size ≤ 2048) → isW s L = false := by
    intro h
    rw [← Bool.not_eq_true, isW_iff]
    exact fun h2 => h ⟨h2.1, h2.2.1, h2.2.2.1⟩
  have hml : Ev (fun _ => semigroupref01_MayLetters.f L) (decide (1 ≤ L ∧ L ≤ 6)) := by
    unfold semigroupref01_MayLetters.f
    refine ev_ite (fun h => ev_some ?_) (fun h => ev_some ?_)
    · exact decide_eq_decide.2 ⟨fun h2 => ⟨by omega, h2⟩, fun h2 => h2.2⟩
    · exact (decide_eq_false (by omega)).symm
  unfold semigroupref01_Valid.f
  refine ev_bind _ hml (ev_ite (fun h => ?_) (fun h => no _ rfl (nw (fun h2 => h (decide_eq_true ⟨h2.1, h2.2.1⟩)))))
  have h := of_decide_eq_true h
  by_cases h3 : (s.size : Int) > 2048
  · exact no _ (decide_eq_true h3) (nw (by omega))
  · refine Ev.step (fun _ => semigroupref01_Valid.j0.eq_2 ..) (ev_neg (by simpa using h3) ?_)
    have := semigroupref01_Valid_loop s L (by omega) s.size 0 (by omega)
    refine ev_to this ?_
    rw [List.drop_zero, isW, decide_eq_true h.1, decide_eq_true h.2, decide_eq_true (show s.size ≤ 2048 by omega)]; rfl
/-- The state that a list of letters leads to. -/
def runL (N : List (List Int)) (xs : List Int) (q : Int) : Int := xs.foldl (fun q x => rd (rdR N q) x) q
theorem runL_range {L s : Int} {F : List Bool} {N : List (List Int)} (h : DfaOk L s F N) : ∀ (xs : List Int) (q : Int), (∀ x ∈ xs, 0 ≤ x ∧ x < L) → 0 ≤ q → q < F.length → 0 ≤ runL N xs q ∧ runL N xs q < F.length
  | [], _, _, h0, h1 => ⟨h0, h1⟩
  | x :: xs, q, hx, h0, h1 => by
    have hx0 := hx x List.mem_cons_self
    have := h.next h0 h1 hx0.1 hx0.2
    exact runL_range h xs _ (fun y hy => hx y (List.mem_cons_of_mem _ hy)) this.1 this.2
theorem dfa_run_loop {L s : Int} {F : List Bool} {N : List (List Int)} (h : DfaOk L s F N) {w : ByteArray} (hw : isW w L = true) (d : Nat) : ∀ (i : Nat) (q : Int), i + d = w.size → 0 ≤ q → q < F.length → Ev (fun k => dfa_run.l0 k q w (i : Int) L s F N) (runL N ((wlet w).drop i) q) := by
  have hwl := wlet_length w
  have hsz := (isW_iff.1 hw).2.2.1
  have hlen := h.len
  induction d with
  | zero =>
    intro i q hd _ _
    refine Ev.step (fun _ => dfa_run.l0.eq_2 ..) (ev_neg (by omega) (ev_some ?_))
    rw [List.drop_eq_nil_of_le (by omega)]; rfl
  | succ d ih =>
    intro i q hd h0 h1
    have hi : i < w.size := by omega
    obtain ⟨b1, b2, b3⟩ := isW_bt hw hi
    have hL := (isW_iff.1 hw).2.1
    have e : ((bt w (i : Int)) - 97) % 256 = (wlet w)[i]'(by omega) := by rw [← b3]; omega
    have hx : 0 ≤ (wlet w)[i]'(by omega) ∧ (wlet w)[i]'(by omega) < L := by omega
    have hrow := h.row h0 h1
    have hn := h.next h0 h1 hx.1 hx.2
    refine Ev.step (fun _ => dfa_run.l0.eq_2 ..) (ev_pos (by omega) (ev_pos h0 (ev_pos (by omega) (ev_pos (by omega) ?_))))
    rw [e, wrap64_nat (by omega) (by omega), List.drop_eq_getElem_cons (show i < (wlet w).length by omega)]
    exact ev_pos hx.1 (ev_pos (by show (wlet w)[i]'(by omega) < ((rdR N q).length : Int); omega) (ih (i + 1) _ (by omega) hn.1 hn.2))
theorem dfa_Run_ev {L s : Int} {F : List Bool} {N : List (List Int)} (h : DfaOk L s F N) {w : ByteArray} (hw : isW w L = true) {q : Int} (h0 : 0 ≤ q) (h1 : q < F.length) : Ev (fun k => dfa_Run.f k L s F N q w) (runL N (wlet w) q) := by
  unfold dfa_Run.f
  have hN := h.len
  have hn2 := h.n2
  refine ev_bind _ (dfa_Validate_ev L s F N (by omega)) (ev_pos (dfaE_ok.2 h) (ev_neg (by omega) (ev_neg (by omega) (ev_bind _ (word_Valid_ev w L) (ev_pos hw (ev_bind _ ?_ (ev_some rfl)))))))
  unfold dfa_run.f
  exact dfa_run_loop h hw w.size 0 q (by omega) h0 h1
theorem awake_ev : Ev (fun k => semigrouplaw11_awake.f k) true := Ev.of (fun k => semigrouplaw11_awake.mono k) (k := 8) (by decide +kernel)
theorem rd_wTo {L : Int} {n : Nat} {N : List (List Int)} (hL : (ofDfa L n N).length = L) : ∀ (xs : List Int) (a : List Int) (q : Int), (∀ x ∈ xs, 0 ≤ x ∧ x < L) → isTr n a → 0 ≤ q → q < n → (∀ g ∈ ofDfa L n N, isTr n g) → rd (wTo (ofDfa L n N) xs a) q = runL N xs (rd a q)
  | [], _, _, _, _, _, _, _ => rfl
  | x :: xs, a, q, hx, ha, h0, h1, hg => by
    have hx0 := hx x List.mem_cons_self
    have hgx := hg _ (rdR_mem (xs := ofDfa L n N) hx0.1 (by omega))
    show rd (wTo (ofDfa L n N) xs (cmp a (rdR (ofDfa L n N) x))) q = runL N xs (rd (rdR N (rd a q)) x)
    rw [rd_wTo hL xs _ q (fun y hy => hx y (List.mem_cons_of_mem _ hy)) (isTr_cmp ha hgx) h0 h1 hg, rd_cmp h0 (by rw [ha.1]; exact h1)]
    congr 1
    have hr := ha.2 _ (rd_mem (f := a) h0 (by rw [ha.1]; exact h1))
    obtain ⟨x, rfl⟩ : ∃ m : Nat, x = (m : Int) := ⟨x.toNat, by omega⟩
    rw [rdR_lt (show x < (ofDfa L n N).length by omega)]
    generalize rd a q = y at hr
    obtain ⟨y, rfl⟩ : ∃ m : Nat, y = (m : Int) := ⟨y.toNat, by omega⟩
    have hy : y < ((iota n).map (fun q => rd (rdR N q) (x : Int))).length := by rw [List.length_map, iota_length]; omega
    simp only [ofDfa, List.getElem_map, iota_get]
    rw [rd_lt hy, List.getElem_map, iota_get]
theorem TransRuns : semigrouplaw11_TransRuns.Pure := by
  intro L s F N q w ⟨_, _, _, hN, _⟩ _ _
  apply Ev.rounds
  unfold semigrouplaw11_TransRuns.f
  have hN' : N.length ≤ 9223372036854775806 := by omega
  have no : ∀ (t : List (List Int)) (b : Bool), b = true → Ev (fun k => semigrouplaw11_TransRuns.j0 k q w t b L s F N) true := by
    intro t b hb
    exact Ev.step (fun _ => semigrouplaw11_TransRuns.j0.eq_2 ..) (ev_pos hb (ev_bind _ awake_ev (ev_some rfl)))
  refine ev_bind _ (trans_OfDFA_ev L s F N hN') (ev_ite (fun h0 => ev_ite (fun _ => no _ _ rfl) (fun h1 => ev_ite (fun _ => no _ _ rfl) (fun h2 => ev_bind _ (semigroupref01_Valid_ev w L) ?_))) (fun _ => no _ _ rfl))
  by_cases hw : isW w L = true
  · have h0' : (ofT L s F N).2 = 0 := h0
    have hd : DfaOk L s F N ∧ F.length ≤ 32 := by
      unfold ofT at h0'
      split at h0'
      · rename_i e
        split at h0'
        · cases h0'
        · exact ⟨dfaE_ok.1 e, by omega⟩
      · rename_i e; exact absurd h0' e
    have e : ofT L s F N = (ofDfa L F.length N, 0) := by rw [ofT, if_pos (dfaE_ok.2 hd.1), if_neg (by omega)]
    rw [e, hw]
    obtain ⟨hd, h32⟩ := hd
    have hl1 := hd.l1
    have hl2 := hd.l2
    have hn1 := hd.n1
    have hlen : ((ofDfa L F.length N).length : Int) = L := by rw [ofDfa_length]; omega
    have hg : ∀ g ∈ ofDfa L F.length N, isTr F.length g := by
      intro g hg
      obtain ⟨a, ha, rfl⟩ := List.mem_map.1 hg
      have ha := mem_iota.1 ha
      refine ⟨by rw [List.length_map, iota_length], fun y hy => ?_⟩
      obtain ⟨p, hp, rfl⟩ := List.mem_map.1 hy
      have hp := mem_iota.1 hp
      exact hd.next hp.1 hp.2 ha.1 (by omega)
    have hg0 := hg _ (rdR_mem (xs := ofDfa L F.length N) (x := 0) (by omega) (by omega))
    have hG : isG (ofDfa L F.length N) = true := isG_iff.2 ⟨by omega, by omega, fun g hgm => by
      have := hg g hgm
      exact ⟨isT_of this hn1 h32, by rw [this.1, hg0.1]⟩⟩
    have hx := (isW_iff.1 hw).2.2.2
    have ht : isTr F.length (wT (ofDfa L F.length N) (wlet w)) := by
      unfold wT
      rw [hg0.1]
      exact wTo_isTr hg _ _ (fun x h => by have := hx x h; omega) (isTr_iota _)
    have hr : rd (wT (ofDfa L F.length N) (wlet w)) q = runL N (wlet w) q := by
      unfold wT
      rw [hg0.1, rd_wTo hlen _ _ q hx (isTr_iota _) (by omega) (by omega) hg, rd_iota (by omega) (by omega)]
    have eo : ofW (ofDfa L F.length N) w = wT (ofDfa L F.length N) (wlet w) := by rw [ofW, if_pos ⟨hG, by rw [hlen]; exact hw⟩]
    have ho := trans_OfWord_ev (ofDfa L F.length N) w
    rw [eo] at ho
    refine Ev.step (fun _ => semigrouplaw11_TransRuns.j0.eq_2 ..) (ev_neg (by simp) (ev_bind _ ho (ev_pos (by rw [ht.1]) (ev_pos (by omega) (ev_pos (by rw [ht.1]; omega) (ev_bind _ (dfa_Run_ev hd hw (by omega) (by omega)) (ev_pos hr (ev_bind _ awake_ev (ev_some rfl)))))))))
  · exact no _ _ (by simp [hw])

end Go.Proofs.Ytimepajbnongoaa.Pure
