-- Plain proofs over the functions (texts of wip/sim/pure, expanded by macros.py).
import Derived.Test.YteblfhhhbfodgaaP4
set_option linter.unusedVariables false
set_option linter.unusedSimpArgs false
namespace Go.Proofs.Yteblfhhhbfodgaa.Sim
open Go
/-! ### minimize.Check, semigroupref08.Check -/
def bMap (n : Nat) (m : List Int) : Bool := m.all fun x => decide (-1 ≤ x ∧ x < n)
def bStep (L : Int) (F : List Bool) (N : List (List Int)) (G : List Bool) (M : List (List Int)) (m : List Int) (x : Int) : Bool :=
  decide (cls m x < 0) || ((fin F x == fin G (cls m x)) && (List.range L.toNat).all fun a => cls m (dl N x a) == dl M (cls m x) a)
def bSteps (L : Int) (F : List Bool) (N : List (List Int)) (G : List Bool) (M : List (List Int)) (m : List Int) : Bool := (List.range F.length).all fun (x : Nat) => bStep L F N G M m (x : Int)
def bAcc (L s : Int) (G : List Bool) (M : List (List Int)) (acc : List ByteArray) : Bool := (List.range acc.length).all fun (i : Nat) => runE L s G M s (acc.getD i ByteArray.empty) == (i : Int)
def bVal (L : Int) (ts : List ByteArray) : Bool := ts.all fun w => wval w L
/-- Told apart by the tests. -/
def Same8 (G : List Bool) (M : List (List Int)) (ts : List ByteArray) (x y : Int) : Prop := ∀ w ∈ ts, fin G (rn (dl M) x (lets w)) = fin G (rn (dl M) y (lets w))
def Dst (G : List Bool) (M : List (List Int)) (ts : List ByteArray) : Prop := ∀ x y, InR G.length x → InR G.length y → Same8 G M ts x y → x = y
theorem all_drop {α : Type} {l : List α} {p : α → Bool} {i : Nat} (h : i < l.length) : (l.drop i).all p = (p l[i] && (l.drop (i + 1)).all p) := by rw [List.drop_eq_getElem_cons h, List.all_cons]
theorem range_drop {n i : Nat} {p : Nat → Bool} (h : i < n) : ((List.range n).drop i).all p = (p i && ((List.range n).drop (i + 1)).all p) := by rw [all_drop (by simp; exact h), List.getElem_range]
theorem range_end {n : Nat} {p : Nat → Bool} : ((List.range n).drop n).all p = true := by rw [List.drop_of_length_le (by simp)]; rfl
theorem bMap_at {n : Nat} {m : List Int} (h : bMap n m = true) {x : Int} (hx : InR m.length x) : -1 ≤ cls m x ∧ cls m x < n := by
  have h1 := hx.1; have h2 := hx.2
  have hlt : x.toNat < m.length := by omega
  have e : cls m x = m[x.toNat] := by unfold cls; rw [getD_lt hlt]
  have := List.all_eq_true.1 h m[x.toNat] (List.getElem_mem hlt)
  rw [decide_eq_true_eq] at this
  rw [e]; exact this
theorem minimize_Check_l0 {L s L' s' : Int} {F G : List Bool} {N M : List (List Int)} {m : List Int} {acc ts : List ByteArray} (hm : m.length ≤ 512) {n : Nat} {k : Nat} (hk : 600 < k) :
    minimize_Check.l0 k k (n : Int) m (m.length : Int) 0 L s F N L' s' G M m acc ts = cond (bMap n m) (minimize_Check.j0 k (n : Int) L s F N L' s' G M m acc ts) (some false) := by
  have := up (f := fun r i => minimize_Check.l0 k r (n : Int) m (m.length : Int) (i : Int) L s F N L' s' G M m acc ts) (len := m.length) (g := fun i => cond ((m.drop i).all fun x => decide (-1 ≤ x ∧ x < n)) (minimize_Check.j0 k (n : Int) L s F N L' s' G M m acc ts) (some false))
    (fun r => by rw [minimize_Check.l0_succ, decide_eq_false (by omega), cond_false, List.drop_length, List.all_nil, cond_true])
    (fun i hi r ih => by
      rw [minimize_Check.l0_succ, getD_nat, getD_lt hi, all_drop hi]
      (repeat (first | rw [if_pos (by omega)] | rw [decide_eq_true (by omega), cond_true] | rw [decide_eq_false (by omega), cond_false]))
      by_cases h1 : m[i] < -1
      · rw [decide_eq_true h1, cond_true, decide_eq_false (by omega), Bool.false_and, cond_false]
      by_cases h2 : m[i] ≥ n
      · rw [decide_eq_false h1, cond_false, decide_eq_true h2, cond_true, decide_eq_false (by omega), Bool.false_and, cond_false]
      rw [decide_eq_false h1, cond_false, decide_eq_false h2, cond_false, decide_eq_true (by omega), Bool.true_and, wrap_succ (by omega)]
      exact ih) k 0 (by omega) (by omega)
  exact this
theorem minimize_Check_l2 {L s s' : Int} {F G : List Bool} {N M : List (List Int)} {m : List Int} {acc ts : List ByteArray} (H : DV L s F N) (H' : DV L s' G M) (hml : m.length = F.length) (hb : bMap G.length m = true) {n v89 : Int} {i : Nat} (hi : i < F.length) (hx : 0 ≤ cls m i) {k n0 : Nat} (hk : 600 < k) :
    minimize_Check.l2 k n0 k n (cls m i) m v89 (i : Int) (N.getD i []) L 0 L s F N L s' G M m acc ts = cond ((List.range L.toNat).all fun a => cls m (dl N i a) == dl M (cls m i) a) (minimize_Check.j1 k n0 n m v89 (i : Int) L s F N L s' G M m acc ts) (some false) := by
  have h6 := H.l6; have h1 := H.l1; have h5 := H.n5; have hnn := H.nn; have hnn' := H'.nn
  have hrl := H.rowlen (q := i) (by omega) (by omega)
  rw [Int.toNat_natCast] at hrl
  have hb1 := bMap_at hb (x := i) ⟨by omega, by omega⟩
  have hrl' := H'.rowlen hx hb1.2
  have := up (f := fun r a => minimize_Check.l2 k n0 r n (cls m i) m v89 (i : Int) (N.getD i []) L (a : Int) L s F N L s' G M m acc ts) (len := L.toNat) (g := fun a => cond (((List.range L.toNat).drop a).all fun a => cls m (dl N i a) == dl M (cls m i) a) (minimize_Check.j1 k n0 n m v89 (i : Int) L s F N L s' G M m acc ts) (some false))
    (fun r => by rw [minimize_Check.l2_succ, decide_eq_false (by omega), cond_false, range_end, cond_true])
    (fun a ha r ih => by
      have hz := H.dl_range (q := i) (by omega) (by omega) ha
      have ez : (N.getD i []).getD a 0 = dl N i a := by simp [dl]
      have ez' : (M.getD (cls m i).toNat []).getD a 0 = dl M (cls m i) a := rfl
      rw [minimize_Check.l2_succ, getD_nat, getD_nat, ez, ez', range_drop ha, hrl', show m.getD (dl N (i : Int) a).toNat 0 = cls m (dl N i a) from rfl]
      (repeat (first | rw [if_pos (by omega)] | rw [decide_eq_true (by omega), cond_true] | rw [decide_eq_false (by omega), cond_false]))
      by_cases h : cls m (dl N i a) = dl M (cls m i) a
      · rw [h, bne_self_eq_false, cond_false, beq_self_eq_true, Bool.true_and, wrap_succ (by omega)]; exact ih
      · rw [bne_iff_ne.2 h, cond_true, beq_eq_false_iff_ne.2 h, Bool.false_and, cond_false]) k 0 (by omega) (by omega)
  exact this
theorem minimize_Check_l1 {L s s' : Int} {F G : List Bool} {N M : List (List Int)} {m : List Int} {acc ts : List ByteArray} (H : DV L s F N) (H' : DV L s' G M) (hml : m.length = F.length) (hb : bMap G.length m = true) {n : Int} {k : Nat} (hk : 600 < k) :
    minimize_Check.l1 k k n m (m.length : Int) 0 L s F N L s' G M m acc ts = cond (bSteps L F N G M m) (minimize_Check.j2 k n L s' G M m acc ts) (some false) := by
  have h6 := H.l6; have h1 := H.l1; have h5 := H.n5; have hnn := H.nn
  have := up (f := fun r i => minimize_Check.l1 k r n m (m.length : Int) (i : Int) L s F N L s' G M m acc ts) (len := F.length) (g := fun i => cond (((List.range F.length).drop i).all fun (x : Nat) => bStep L F N G M m (x : Int)) (minimize_Check.j2 k n L s' G M m acc ts) (some false))
    (fun r => by rw [minimize_Check.l1_succ, decide_eq_false (by omega), cond_false, range_end, cond_true])
    (fun i hi r ih => by
      have hrl := H.rowlen (q := i) (by omega) (by omega)
      rw [Int.toNat_natCast] at hrl
      have hb1 := bMap_at hb (x := i) ⟨by omega, by omega⟩
      have em : m.getD i 0 = cls m i := by simp [cls]
      rw [minimize_Check.l1_succ, getD_nat, em, range_drop hi]
      (repeat (first | rw [if_pos (by omega)] | rw [decide_eq_true (by omega), cond_true] | rw [decide_eq_false (by omega), cond_false]))
      unfold bStep
      by_cases h0 : cls m i < 0
      · rw [decide_eq_true h0, cond_true, minimize_Check.j1_eq, wrap_succ (by omega), Bool.true_or, Bool.true_and]; exact ih
      rw [decide_eq_false h0, cond_false, Bool.false_or]
      (repeat (first | rw [if_pos (by omega)] | rw [decide_eq_true (by omega), cond_true] | rw [decide_eq_false (by omega), cond_false]))
      rw [show F.getD ((i : Int)).toNat false = fin F i from rfl, show G.getD (cls m i).toNat false = fin G (cls m i) from rfl]
      by_cases hf : fin F i = fin G (cls m i)
      · rw [hf, beq_self_eq_true, Bool.not_true, cond_false, Bool.true_and]
        (repeat (first | rw [if_pos (by omega)] | rw [decide_eq_true (by omega), cond_true] | rw [decide_eq_false (by omega), cond_false]))
        rw [getD_nat, hrl, show ((L.toNat : Nat) : Int) = L by omega, minimize_Check_l2 H H' hml hb hi (by omega) hk]
        cases (List.range L.toNat).all (fun a => cls m (dl N i a) == dl M (cls m i) a) with
        | false => simp only [c0, c1, Bool.true_and, Bool.and_false, Bool.false_and, Bool.not_false]
        | true => rw [cond_true, minimize_Check.j1_eq, wrap_succ (by omega), Bool.true_and]; exact ih
      · rw [beq_eq_false_iff_ne.2 hf, Bool.not_false, cond_true, Bool.false_and, Bool.false_and, cond_false]) k 0 (by omega) (by omega)
  exact this
theorem minimize_Check_l3 {L s : Int} {G : List Bool} {M : List (List Int)} (H : DV L s G M) {m : List Int} {acc ts : List ByteArray} (ha : acc.length ≤ 512) {n : Int} {k : Nat} (hk : 2049 < k) :
    minimize_Check.l3 k k n acc (acc.length : Int) 0 L s G M m acc ts = cond (bAcc L s G M acc) (minimize_Check.j3 k n L s G M m acc ts) (some false) := by
  have := up (f := fun r i => minimize_Check.l3 k r n acc (acc.length : Int) (i : Int) L s G M m acc ts) (len := acc.length) (g := fun i => cond (((List.range acc.length).drop i).all fun (i : Nat) => runE L s G M s (acc.getD i ByteArray.empty) == (i : Int)) (minimize_Check.j3 k n L s G M m acc ts) (some false))
    (fun r => by rw [minimize_Check.l3_succ, decide_eq_false (by omega), cond_false, range_end, cond_true])
    (fun i hi r ih => by
      rw [minimize_Check.l3_succ, getD_nat, range_drop hi, dfa_Run_ok H _ _ hk, ob]
      (repeat (first | rw [if_pos (by omega)] | rw [decide_eq_true (by omega), cond_true] | rw [decide_eq_false (by omega), cond_false]))
      by_cases h : runE L s G M s (acc.getD i ByteArray.empty) = i
      · rw [h, bne_self_eq_false, cond_false, beq_self_eq_true, Bool.true_and, wrap_succ (by omega)]; exact ih
      · rw [bne_iff_ne.2 h, cond_true, beq_eq_false_iff_ne.2 h, Bool.false_and, cond_false]) k 0 (by omega) (by omega)
  exact this
theorem semigroupref08_Check_l0 {L s L' s' : Int} {F G : List Bool} {N M : List (List Int)} {m : List Int} {acc ts : List ByteArray} (hm : m.length ≤ 512) {n : Nat} {k : Nat} (hk : 600 < k) :
    semigroupref08_Check.l0 k k (n : Int) m (m.length : Int) 0 L s F N L' s' G M m acc ts = cond (bMap n m) (semigroupref08_Check.j0 k (n : Int) L s F N L' s' G M m acc ts) (some false) := by
  have := up (f := fun r i => semigroupref08_Check.l0 k r (n : Int) m (m.length : Int) (i : Int) L s F N L' s' G M m acc ts) (len := m.length) (g := fun i => cond ((m.drop i).all fun x => decide (-1 ≤ x ∧ x < n)) (semigroupref08_Check.j0 k (n : Int) L s F N L' s' G M m acc ts) (some false))
    (fun r => by rw [semigroupref08_Check.l0_succ, decide_eq_false (by omega), cond_false, List.drop_length, List.all_nil, cond_true])
    (fun i hi r ih => by
      rw [semigroupref08_Check.l0_succ, getD_nat, getD_lt hi, all_drop hi]
      (repeat (first | rw [if_pos (by omega)] | rw [decide_eq_true (by omega), cond_true] | rw [decide_eq_false (by omega), cond_false]))
      by_cases h1 : m[i] < -1
      · rw [decide_eq_true h1, cond_true, decide_eq_false (by omega), Bool.false_and, cond_false]
      by_cases h2 : m[i] ≥ n
      · rw [decide_eq_false h1, cond_false, decide_eq_true h2, cond_true, decide_eq_false (by omega), Bool.false_and, cond_false]
      rw [decide_eq_false h1, cond_false, decide_eq_false h2, cond_false, decide_eq_true (by omega), Bool.true_and, wrap_succ (by omega)]
      exact ih) k 0 (by omega) (by omega)
  exact this
theorem semigroupref08_Check_l2 {L s s' : Int} {F G : List Bool} {N M : List (List Int)} {m : List Int} {acc ts : List ByteArray} (H : DV L s F N) (H' : DV L s' G M) (hml : m.length = F.length) (hb : bMap G.length m = true) {n v89 : Int} {i : Nat} (hi : i < F.length) (hx : 0 ≤ cls m i) {k n0 : Nat} (hk : 600 < k) :
    semigroupref08_Check.l2 k n0 k n (i : Int) (cls m i) 0 m v89 (i : Int) L s F N L s' G M m acc ts = cond ((List.range L.toNat).all fun a => cls m (dl N i a) == dl M (cls m i) a) (semigroupref08_Check.j1 k n0 n m v89 (i : Int) L s F N L s' G M m acc ts) (some false) := by
  have h6 := H.l6; have h1 := H.l1; have h5 := H.n5; have hnn := H.nn; have hnn' := H'.nn
  have hrl := H.rowlen (q := i) (by omega) (by omega)
  rw [Int.toNat_natCast] at hrl
  have hb1 := bMap_at hb (x := i) ⟨by omega, by omega⟩
  have hrl' := H'.rowlen hx hb1.2
  have := up (f := fun r a => semigroupref08_Check.l2 k n0 r n (i : Int) (cls m i) (a : Int) m v89 (i : Int) L s F N L s' G M m acc ts) (len := L.toNat) (g := fun a => cond (((List.range L.toNat).drop a).all fun a => cls m (dl N i a) == dl M (cls m i) a) (semigroupref08_Check.j1 k n0 n m v89 (i : Int) L s F N L s' G M m acc ts) (some false))
    (fun r => by rw [semigroupref08_Check.l2_succ, decide_eq_false (by omega), cond_false, range_end, cond_true])
    (fun a ha r ih => by
      have hz := H.dl_range (q := i) (by omega) (by omega) ha
      have ez : (N.getD i []).getD a 0 = dl N i a := by simp [dl]
      have ez' : (M.getD (cls m i).toNat []).getD a 0 = dl M (cls m i) a := rfl
      rw [semigroupref08_Check.l2_succ, getD_nat, getD_nat, getD_nat, ez, ez', range_drop ha, hrl, hrl', show m.getD (dl N (i : Int) a).toNat 0 = cls m (dl N i a) from rfl]
      (repeat (first | rw [if_pos (by omega)] | rw [decide_eq_true (by omega), cond_true] | rw [decide_eq_false (by omega), cond_false]))
      by_cases h : cls m (dl N i a) = dl M (cls m i) a
      · rw [h, bne_self_eq_false, cond_false, beq_self_eq_true, Bool.true_and, wrap_succ (by omega)]; exact ih
      · rw [bne_iff_ne.2 h, cond_true, beq_eq_false_iff_ne.2 h, Bool.false_and, cond_false]) k 0 (by omega) (by omega)
  exact this
theorem semigroupref08_Check_l1 {L s s' : Int} {F G : List Bool} {N M : List (List Int)} {m : List Int} {acc ts : List ByteArray} (H : DV L s F N) (H' : DV L s' G M) (hml : m.length = F.length) (hb : bMap G.length m = true) {n : Int} {k : Nat} (hk : 600 < k) :
    semigroupref08_Check.l1 k k n m (m.length : Int) 0 L s F N L s' G M m acc ts = cond (bSteps L F N G M m) (semigroupref08_Check.j2 k n L s' G M m acc ts) (some false) := by
  have h6 := H.l6; have h1 := H.l1; have h5 := H.n5; have hnn := H.nn
  have := up (f := fun r i => semigroupref08_Check.l1 k r n m (m.length : Int) (i : Int) L s F N L s' G M m acc ts) (len := F.length) (g := fun i => cond (((List.range F.length).drop i).all fun (x : Nat) => bStep L F N G M m (x : Int)) (semigroupref08_Check.j2 k n L s' G M m acc ts) (some false))
    (fun r => by rw [semigroupref08_Check.l1_succ, decide_eq_false (by omega), cond_false, range_end, cond_true])
    (fun i hi r ih => by
      have hrl := H.rowlen (q := i) (by omega) (by omega)
      rw [Int.toNat_natCast] at hrl
      have hb1 := bMap_at hb (x := i) ⟨by omega, by omega⟩
      have em : m.getD i 0 = cls m i := by simp [cls]
      rw [semigroupref08_Check.l1_succ, getD_nat, em, range_drop hi]
      (repeat (first | rw [if_pos (by omega)] | rw [decide_eq_true (by omega), cond_true] | rw [decide_eq_false (by omega), cond_false]))
      unfold bStep
      by_cases h0 : cls m i < 0
      · rw [decide_eq_true h0, cond_true, semigroupref08_Check.j1_eq, wrap_succ (by omega), Bool.true_or, Bool.true_and]; exact ih
      rw [decide_eq_false h0, cond_false, Bool.false_or]
      (repeat (first | rw [if_pos (by omega)] | rw [decide_eq_true (by omega), cond_true] | rw [decide_eq_false (by omega), cond_false]))
      rw [show F.getD ((i : Int)).toNat false = fin F i from rfl, show G.getD (cls m i).toNat false = fin G (cls m i) from rfl]
      by_cases hf : fin F i = fin G (cls m i)
      · rw [hf, beq_self_eq_true, Bool.not_true, cond_false, Bool.true_and]
        rw [semigroupref08_Check_l2 H H' hml hb hi (by omega) hk]
        cases (List.range L.toNat).all (fun a => cls m (dl N i a) == dl M (cls m i) a) with
        | false => simp only [c0, c1, Bool.true_and, Bool.and_false, Bool.false_and, Bool.not_false]
        | true => rw [cond_true, semigroupref08_Check.j1_eq, wrap_succ (by omega), Bool.true_and]; exact ih
      · rw [beq_eq_false_iff_ne.2 hf, Bool.not_false, cond_true, Bool.false_and, Bool.false_and, cond_false]) k 0 (by omega) (by omega)
  exact this
theorem semigroupref08_Check_l3 {L s : Int} {G : List Bool} {M : List (List Int)} (H : DV L s G M) {m : List Int} {acc ts : List ByteArray} (ha : acc.length ≤ 512) {n : Int} {k : Nat} (hk : 2049 < k) :
    semigroupref08_Check.l3 k k n acc (acc.length : Int) 0 L s G M m acc ts = cond (bAcc L s G M acc) (semigroupref08_Check.j3 k n L s G M m acc ts) (some false) := by
  have := up (f := fun r i => semigroupref08_Check.l3 k r n acc (acc.length : Int) (i : Int) L s G M m acc ts) (len := acc.length) (g := fun i => cond (((List.range acc.length).drop i).all fun (i : Nat) => runE L s G M s (acc.getD i ByteArray.empty) == (i : Int)) (semigroupref08_Check.j3 k n L s G M m acc ts) (some false))
    (fun r => by rw [semigroupref08_Check.l3_succ, decide_eq_false (by omega), cond_false, range_end, cond_true])
    (fun i hi r ih => by
      rw [semigroupref08_Check.l3_succ, getD_nat, range_drop hi, semigroupref07_Run_ok H _ _ hk, ob]
      (repeat (first | rw [if_pos (by omega)] | rw [decide_eq_true (by omega), cond_true] | rw [decide_eq_false (by omega), cond_false]))
      by_cases h : runE L s G M s (acc.getD i ByteArray.empty) = i
      · rw [h, bne_self_eq_false, cond_false, beq_self_eq_true, Bool.true_and, wrap_succ (by omega)]; exact ih
      · rw [bne_iff_ne.2 h, cond_true, beq_eq_false_iff_ne.2 h, Bool.false_and, cond_false]) k 0 (by omega) (by omega)
  exact this
instance wvDec (s : ByteArray) (L : Int) : Decidable (WV s L) := decidable_of_iff (wval s L = true) wval_iff
/-! the tests: minimize.Check -/
def tstep (G : List Bool) (M : List (List Int)) (w : ByteArray) (p : List Int) : List Int := (List.range G.length).map fun (x : Nat) => 2 * cls p x + cond (fin G (rn (dl M) (x : Int) (lets w))) 1 0
structure TInv (G : List Bool) (M : List (List Int)) (ts : List ByteArray) (p : List Int) : Prop where
  len : p.length = G.length
  can : canL p = p
  iff : ∀ x y, InR G.length x → InR G.length y → (cls p x = cls p y ↔ Same8 G M ts x y)
theorem TInv.next {G : List Bool} {M : List (List Int)} {ts : List ByteArray} {p : List Int} (T : TInv G M ts p) (w : ByteArray) : TInv G M (ts ++ [w]) (canL (tstep G M w p)) where
  len := by simp [canL_length, tstep]
  can := (canL_idem _).1
  iff := fun x y hx hy => by
    have hl : (tstep G M w p).length = G.length := by simp [tstep]
    have h1 := hx.1; have h3 := hy.1
    rw [cls_canL (by rw [hl]; exact hx) (by rw [hl]; exact hy)]
    simp only [tstep, List.getElem_map, List.getElem_range]
    rw [show ((x.toNat : Nat) : Int) = x by omega, show ((y.toNat : Nat) : Int) = y by omega]
    have key : Same8 G M (ts ++ [w]) x y ↔ Same8 G M ts x y ∧ fin G (rn (dl M) x (lets w)) = fin G (rn (dl M) y (lets w)) := by
      unfold Same8
      simp only [List.mem_append, List.mem_singleton]
      exact ⟨fun h => ⟨fun v hv => h v (.inl hv), h w (.inr rfl)⟩, fun h v hv => hv.elim (h.1 v) (fun e => e ▸ h.2)⟩
    rw [key, ← T.iff x y hx hy]
    cases fin G (rn (dl M) x (lets w)) <;> cases fin G (rn (dl M) y (lets w)) <;> simp <;> omega
theorem TInv.start (G : List Bool) (M : List (List Int)) (hn : 1 ≤ G.length) : TInv G M [] (List.replicate G.length 0) where
  len := by simp
  can := by
    have key : ∀ m, m ≤ G.length → ∀ i, i < m → (ordA ([] : List Int) ((List.replicate G.length (0 : Int)).take m)) = [0] := by
      intro m
      induction m with
      | zero => intro _ i h; omega
      | succ m ih =>
        intro hm i hi
        rw [List.take_succ_eq_append_getElem (by simp; omega), ordA_append, List.getElem_replicate]
        by_cases h0 : m = 0
        · subst h0; simp [ordA]
        · rw [ih (by omega) 0 (by omega)]; simp [ordA]
    apply List.ext_getElem
    · rw [canL_length]
    · intro i h1 h2
      have hi : i < G.length := by simpa using h2
      rw [canL_get _ i (by simp; exact hi), List.getElem_replicate]
      have := key G.length (Nat.le_refl _) 0 (by omega)
      rw [List.take_of_length_le (by simp)] at this
      rw [this]; rfl
  iff := fun x y hx hy => by
    have e : ∀ z, InR G.length z → cls (List.replicate G.length 0) z = 0 := fun z hz => by
      have h1 := hz.1; have h2 := hz.2
      unfold cls; rw [getD_lt (by simp; omega), List.getElem_replicate]
    rw [e x hx, e y hy]
    exact ⟨fun _ w hw => absurd hw (by simp), fun _ => rfl⟩
theorem minimize_together_ok (p : List Int) (hp : p.length ≤ 512) {k : Nat} (hk : 600 < k) : ∃ r, minimize_together.f k p = some r ∧ (r.1 < 0 ↔ p.Nodup) ∧ (0 ≤ r.1 → r.1 < r.2 ∧ r.2 < p.length ∧ cls p r.1 = cls p r.2) := by
  have hget : ∀ i c, mget ((List.range i).map fun (j : Nat) => (p.getD j 0, (j : Int))) c = none ∨ ∃ j : Nat, j < i ∧ mget ((List.range i).map fun (j : Nat) => (p.getD j 0, (j : Int))) c = some (j : Int) ∧ p.getD j 0 = c := by
    intro i
    induction i with
    | zero => intro c; exact .inl rfl
    | succ i ih =>
      intro c
      rw [List.range_succ, List.map_append, List.map_singleton, mget_snoc]
      rcases ih c with h | ⟨j, h1, h2, h3⟩
      · rw [h, Option.none_or]
        by_cases hc : c = p.getD i 0
        · rw [if_pos hc]; exact .inr ⟨i, by omega, rfl, hc.symm⟩
        · rw [if_neg hc]; exact .inl rfl
      · rw [h2]; exact .inr ⟨j, by omega, rfl, h3⟩
  have hnone : ∀ i c, mget ((List.range i).map fun (j : Nat) => (p.getD j 0, (j : Int))) c = none → ∀ j, j < i → p.getD j 0 ≠ c := by
    intro i
    induction i with
    | zero => intro c _ j hj; omega
    | succ i ih =>
      intro c h j hj
      rw [List.range_succ, List.map_append, List.map_singleton, mget_snoc, Option.or_eq_none_iff] at h
      by_cases hji : j = i
      · subst hji
        intro e
        rw [if_pos e.symm] at h
        cases h.2
      · exact ih c h.1 j (by omega)
  have main := wh (f := fun n (i : Nat) => minimize_together.l0 k n p (p.length : Int) (i : Int) ((List.range i).map fun (j : Nat) => (p.getD j 0, (j : Int)))) (fun i => i ≤ p.length ∧ ∀ j j' : Nat, j < j' → j' < i → p.getD j 0 ≠ p.getD j' 0) (fun i => p.length - i)
    (fun x => ∃ r, x = some r ∧ (r.1 < 0 ↔ p.Nodup) ∧ (0 ≤ r.1 → r.1 < r.2 ∧ r.2 < p.length ∧ cls p r.1 = cls p r.2)) (by
      rintro n i ⟨hi, hd⟩
      by_cases h : i < p.length
      · rw [minimize_together.l0_succ, getD_nat]
        (repeat (first | rw [if_pos (by omega)] | rw [decide_eq_true (by omega), cond_true] | rw [decide_eq_false (by omega), cond_false]))
        rcases hget i (p.getD i 0) with e | ⟨j, h1, h2, h3⟩
        · right
          have hn := hnone i _ e
          refine ⟨i + 1, ⟨by omega, fun j j' hj hj' => ?_⟩, by omega, ?_⟩
          · by_cases hji : j' = i
            · subst hji; exact hn j hj
            · exact hd j j' hj (by omega)
          · rw [e, wrap_succ (by omega), mput_snoc e, List.range_succ, List.map_append]; rfl
        · left
          rw [h2]
          refine ⟨((j : Int), (i : Int)), rfl, ⟨fun h => by dsimp only at h; omega, fun h => ?_⟩, fun _ => ⟨by dsimp only; omega, by dsimp only; omega, ?_⟩⟩
          · exfalso
            have hip : i < p.length := by assumption
            rw [getD_lt (by omega), getD_lt hip] at h3
            have := (List.nodup_iff_pairwise_ne.1 h)
            rw [List.pairwise_iff_getElem] at this
            exact this j i (by omega) hip h1 h3
          · dsimp only; unfold cls; rw [Int.toNat_natCast, Int.toNat_natCast]; exact h3
      · left
        obtain rfl : i = p.length := by omega
        rw [minimize_together.l0_succ, decide_eq_false (by omega), cond_false, minimize_together.j0_eq]
        refine ⟨(-1, -1), rfl, ⟨fun _ => ?_, fun _ => by decide⟩, fun h => absurd h (by decide)⟩
        rw [List.nodup_iff_pairwise_ne, List.pairwise_iff_getElem]
        intro i j hi hj hij
        have := hd i j hij hj
        rwa [getD_lt hi, getD_lt hj] at this) k 0 (by omega) ⟨by omega, fun j j' _ h => by omega⟩
  rw [minimize_together.f_eq]
  exact main
/-- The first i places new, the others old. -/
def mix (ys p : List Int) (i : Nat) : List Int := ys.take i ++ p.drop i
theorem mix_length {ys p : List Int} (h : ys.length = p.length) {i : Nat} (hi : i ≤ p.length) : (mix ys p i).length = p.length := by simp [mix]; omega
theorem mix_get {ys p : List Int} (h : ys.length = p.length) {i : Nat} (hi : i < p.length) : (mix ys p i).getD i 0 = p.getD i 0 := by
  unfold mix
  rw [getD_append, if_neg (by simp; omega)]
  simp [Nat.min_eq_left (show i ≤ ys.length by omega)]
theorem mix_set {ys p : List Int} (h : ys.length = p.length) {i : Nat} (hi : i < p.length) {v : Int} (e : ys[i]'(by omega) = v) : (mix ys p i).set i v = mix ys p (i + 1) := by
  unfold mix
  rw [List.set_append, if_neg (by simp; omega), List.length_take, Nat.min_eq_left (by omega), Nat.sub_self, List.drop_eq_getElem_cons hi, List.set_cons_zero, List.take_succ_eq_append_getElem (by omega), e, List.append_assoc]; rfl
theorem minimize_Check_l5 {L s : Int} {G : List Bool} {M : List (List Int)} (H : DV L s G M) {w : ByteArray} {ts : List ByteArray} {p : List Int} (hp : p.length = G.length) (hc : canL p = p) {i : Nat} {v155 : Int} {k n0 : Nat} (hk : 5000 < k) :
    minimize_Check.l5 k n0 k w ts v155 (i : Int) (p.length : Int) 0 L s G M p = if WV w L then minimize_Check.j5 k n0 ts v155 (i : Int) L s G M (tstep G M w p) else some false := by
  have h5 := H.n5; have h1 := H.n1
  have hyl : (tstep G M w p).length = p.length := by simp [tstep, hp]
  by_cases hw : WV w L
  · rw [if_pos hw]
    have := upc (f := fun r q => minimize_Check.l5 k n0 r w ts v155 (i : Int) (p.length : Int) (q : Int) L s G M (mix (tstep G M w p) p q)) (len := p.length) (r := minimize_Check.j5 k n0 ts v155 (i : Int) L s G M (tstep G M w p))
      (fun r => by
        rw [minimize_Check.l5_succ, decide_eq_false (by omega), cond_false]
        congr 1
        unfold mix
        rw [List.drop_length, List.append_nil, ← hyl, List.take_length])
      (fun q hq r => by
        have hr := H.rn_range (lets w) (q := q) (by omega) (by omega) hw.wd
        have hml := mix_length hyl (i := q) (by omega)
        have hmg := mix_get hyl (i := q) hq
        have hpr := mem_range hc (List.getElem_mem hq)
        rw [getD_lt (l := p) hq] at hmg
        have hset := fun v => mix_set hyl (i := q) hq (v := v)
        have ey : (tstep G M w p)[q]'(by omega) = 2 * p[q] + cond (fin G (rn (dl M) (q : Int) (lets w))) 1 0 := by simp [tstep, cls, hq]
        rw [minimize_Check.l5_succ, dfa_Run_ok H _ _ (by omega), ob, runE_ok ⟨by omega, by omega⟩ hw, getD_nat, hmg, Int.toNat_natCast, wrap_i64 (n := 2 * p[q]) (by omega) (by omega)]
        rw [show ((mix (tstep G M w p) p q).set q (2 * p[q])).getD q 0 = 2 * p[q] by rw [getD_set, if_pos ⟨rfl, by omega⟩], wrap_i64 (n := 2 * p[q] + 1) (by omega) (by omega), List.set_set, List.length_set]
        (repeat (first | rw [if_pos (by omega)] | rw [decide_eq_true (by omega), cond_true] | rw [decide_eq_false (by omega), cond_false]))
        rw [show G.getD (rn (dl M) (q : Int) (lets w)).toNat false = fin G (rn (dl M) (q : Int) (lets w)) from rfl]
        cases hf : fin G (rn (dl M) (q : Int) (lets w)) with
        | true =>
          rw [cond_true]
          (repeat (first | rw [if_pos (by omega)] | rw [decide_eq_true (by omega), cond_true] | rw [decide_eq_false (by omega), cond_false]))
          rw [wrap_succ (by omega), hset _ (by rw [ey, hf]; rfl)]
        | false => rw [cond_false, wrap_succ (by omega), hset _ (by rw [ey, hf, cond_false, Int.add_zero])]) k (by omega)
    simpa [mix] using this
  · obtain ⟨k', rfl⟩ : ∃ k', k = k' + 1 := ⟨k - 1, by omega⟩
    have e : runE L s G M 0 w = -1 := by unfold runE; rw [if_neg (fun hh => hw (wval_iff.1 hh.2.2))]
    rw [if_neg hw, minimize_Check.l5_succ, decide_eq_true (by omega), cond_true, dfa_Run_ok H _ _ (by omega), ob, e]; rfl
theorem minimize_Check_l4 {L s : Int} {G : List Bool} {M : List (List Int)} (H : DV L s G M) {ts : List ByteArray} (ht : ts.length ≤ 512) {k : Nat} (hk : 5000 < k) :
    ∃ b, minimize_Check.l4 k k ts (ts.length : Int) 0 L s G M (List.replicate G.length 0) = some b ∧ (b = true ↔ bVal L ts = true ∧ Dst G M ts) := by
  have h5 := H.n5
  refine wh (f := fun r (st : Nat × List Int) => minimize_Check.l4 k r ts (ts.length : Int) (st.1 : Int) L s G M st.2) (fun st => st.1 ≤ ts.length ∧ TInv G M (ts.take st.1) st.2 ∧ ∀ w ∈ ts.take st.1, WV w L) (fun st => ts.length - st.1)
    (fun x => ∃ b, x = some b ∧ (b = true ↔ bVal L ts = true ∧ Dst G M ts)) ?_ k (0, List.replicate G.length 0) (by dsimp only; omega) ⟨by dsimp only; omega, TInv.start G M H.n1, fun w hw => by simp at hw⟩
  rintro r ⟨i, p⟩ ⟨hi, T, hv⟩
  dsimp only at *
  have hp := T.len
  by_cases h : i < ts.length
  · have e : minimize_Check.l4 k (r + 1) ts (ts.length : Int) (i : Int) L s G M p = if WV ts[i] L then minimize_Check.j5 k r ts (ts.length : Int) (i : Int) L s G M (tstep G M ts[i] p) else some false := by
      rw [minimize_Check.l4_succ, getD_nat, getD_lt h]
      (repeat (first | rw [if_pos (by omega)] | rw [decide_eq_true (by omega), cond_true] | rw [decide_eq_false (by omega), cond_false]))
      exact minimize_Check_l5 H hp T.can hk
    by_cases hw : WV ts[i] L
    · right
      refine ⟨(i + 1, canL (tstep G M ts[i] p)), ⟨by dsimp only; omega, ?_, ?_⟩, by dsimp only; omega, ?_⟩
      · dsimp only; rw [List.take_succ_eq_append_getElem h]; exact T.next _
      · dsimp only; rw [List.take_succ_eq_append_getElem h]
        intro w hm
        rcases List.mem_append.1 hm with hm | hm
        · exact hv w hm
        · rw [List.mem_singleton.1 hm]; exact hw
      · rw [e, if_pos hw, minimize_Check.j5_eq, partition_Canonical_ok _ (by simp [tstep]; omega) (by omega), ob, minimize_Check.j6_eq, wrap_succ (by omega)]
    · left
      refine ⟨false, by rw [e, if_neg hw], ⟨fun h => (by cases h), fun hh => ?_⟩⟩
      have := List.all_eq_true.1 hh.1 ts[i] (List.getElem_mem h)
      exact absurd (wval_iff.1 this) hw
  · left
    obtain rfl : i = ts.length := by omega
    rw [List.take_length] at T hv
    obtain ⟨b, e, hb, _⟩ := minimize_together_ok p (by omega) (k := k) (by omega)
    refine ⟨decide (b.1 < 0), by rw [minimize_Check.l4_succ, decide_eq_false (by omega), cond_false, minimize_Check.j4_eq, e, ob], ?_⟩
    rw [decide_eq_true_eq, hb]
    have hval : bVal L ts = true := List.all_eq_true.2 (fun w hw => wval_iff.2 (hv w hw))
    constructor
    · intro hnd
      refine ⟨hval, fun x y hx hy hs => ?_⟩
      have := (T.iff x y hx hy).2 hs
      have h1 := hx.1; have h2 := hx.2; have h3 := hy.1; have h4 := hy.2
      unfold cls at this
      rw [getD_lt (by omega), getD_lt (by omega)] at this
      by_cases hxy : x.toNat = y.toNat
      · omega
      · have hp2 := List.pairwise_iff_getElem.1 (List.nodup_iff_pairwise_ne.1 hnd)
        rcases Nat.lt_or_gt_of_ne hxy with g | g
        · exact absurd this (hp2 _ _ _ _ g)
        · exact absurd this.symm (hp2 _ _ _ _ g)
    · rintro ⟨_, hd⟩
      exact nodup_of fun a b x ha hb => by
        obtain ⟨h1, e1⟩ := List.getElem?_eq_some_iff.1 ha
        obtain ⟨h2, e2⟩ := List.getElem?_eq_some_iff.1 hb
        have := hd a b ⟨by omega, by omega⟩ ⟨by omega, by omega⟩ ((T.iff a b ⟨by omega, by omega⟩ ⟨by omega, by omega⟩).1 (by rw [cls_get h1, cls_get h2, e1, e2]))
        omega
/-! the tests: semigroupref08.Check -/
def apart8 (G : List Bool) (M : List (List Int)) (ts : List ByteArray) (x y : Int) : Bool := ts.any fun w => !(fin G (rn (dl M) x (lets w)) == fin G (rn (dl M) y (lets w)))
theorem apart_iff {G : List Bool} {M : List (List Int)} {ts : List ByteArray} {x y : Int} : apart8 G M ts x y = false ↔ Same8 G M ts x y := by
  unfold apart8 Same8
  rw [List.any_eq_false]
  constructor
  · intro h w hw
    have := h w hw
    simpa using this
  · intro h w hw
    simp [h w hw]
theorem semigroupref08_Check_l7 {L s : Int} {G : List Bool} {M : List (List Int)} (H : DV L s G M) {m : List Int} {acc ts : List ByteArray} (ht : ts.length ≤ 512) (hv : ∀ w ∈ ts, WV w L) {n : Int} {x y : Int} (hx : InR G.length x) (hy : InR G.length y) {k n0 n1 : Nat} (hk : 5000 < k) :
    semigroupref08_Check.l7 k n0 n1 k n x y false ts (ts.length : Int) 0 L s G M m acc ts = semigroupref08_Check.j7 k n0 n1 n x y (apart8 G M ts x y) L s G M m acc ts := by
  have := upc (f := fun r i => semigroupref08_Check.l7 k n0 n1 r n x y (apart8 G M (ts.take i) x y) ts (ts.length : Int) (i : Int) L s G M m acc ts) (len := ts.length) (r := semigroupref08_Check.j7 k n0 n1 n x y (apart8 G M ts x y) L s G M m acc ts)
    (fun r => by rw [semigroupref08_Check.l7_succ, decide_eq_false (by omega), cond_false, List.take_length])
    (fun i hi r => by
      have hw := hv ts[i] (List.getElem_mem hi)
      have r1 := H.rn_range (lets ts[i]) hx.1 hx.2 hw.wd; have r2 := H.rn_range (lets ts[i]) hy.1 hy.2 hw.wd
      have ea : apart8 G M (ts.take (i + 1)) x y = (apart8 G M (ts.take i) x y || !(fin G (rn (dl M) x (lets ts[i])) == fin G (rn (dl M) y (lets ts[i])))) := by
        rw [List.take_succ_eq_append_getElem hi]; unfold apart8; rw [List.any_append]; simp
      rw [semigroupref08_Check.l7_succ, getD_nat, getD_lt hi, ea, semigroupref07_Run_ok H _ _ (by omega), ob, semigroupref07_Run_ok H _ _ (by omega), ob, runE_ok hx hw, runE_ok hy hw]
      (repeat (first | rw [if_pos (by omega)] | rw [decide_eq_true (by omega), cond_true] | rw [decide_eq_false (by omega), cond_false]))
      rw [wrap_succ (by omega)]
      cases apart8 G M (ts.take i) x y with
      | true => rw [cond_true, Bool.true_or]
      | false => rw [cond_false, Bool.false_or]; rfl) k (by omega)
  exact this
theorem semigroupref08_Check_l6 {L s : Int} {G : List Bool} {M : List (List Int)} (H : DV L s G M) {m : List Int} {acc ts : List ByteArray} (ht : ts.length ≤ 512) (hv : ∀ w ∈ ts, WV w L) {n : Int} {i : Nat} (hi : i < G.length) {k n0 : Nat} (hk : 5000 < k) :
    semigroupref08_Check.l6 k n0 k n (i : Int) 0 L s G M m acc ts = cond ((List.range i).all fun (j : Nat) => apart8 G M ts (i : Int) (j : Int)) (semigroupref08_Check.j6 k n0 n (i : Int) L s G M m acc ts) (some false) := by
  have h5 := H.n5
  have := up (f := fun r j => semigroupref08_Check.l6 k n0 r n (i : Int) (j : Int) L s G M m acc ts) (len := i) (g := fun j => cond (((List.range i).drop j).all fun (j : Nat) => apart8 G M ts (i : Int) (j : Int)) (semigroupref08_Check.j6 k n0 n (i : Int) L s G M m acc ts) (some false))
    (fun r => by rw [semigroupref08_Check.l6_succ, decide_eq_false (by omega), cond_false, range_end, cond_true])
    (fun j hj r ih => by
      rw [semigroupref08_Check.l6_succ, decide_eq_true (by omega), cond_true, semigroupref08_Check_l7 H ht hv ⟨by omega, by omega⟩ ⟨by omega, by omega⟩ hk, semigroupref08_Check.j7_eq, range_drop hj]
      cases apart8 G M ts (i : Int) (j : Int) with
      | false => simp only [c0, c1, Bool.true_and, Bool.and_false, Bool.false_and, Bool.not_false]
      | true => rw [Bool.not_true, cond_false, semigroupref08_Check.j8_eq, wrap_succ (by omega), Bool.true_and]; exact ih) k 0 (by omega) (by omega)
  exact this
theorem semigroupref08_Check_l4 {L s : Int} {G : List Bool} {M : List (List Int)} (H : DV L s G M) {m : List Int} {acc ts : List ByteArray} (ht : ts.length ≤ 512) {k : Nat} (hk : 5000 < k) :
    ∃ b, semigroupref08_Check.l4 k k (G.length : Int) ts (ts.length : Int) 0 L s G M m acc ts = some b ∧ (b = true ↔ bVal L ts = true ∧ Dst G M ts) := by
  have h5 := H.n5
  have e4 := up (f := fun r i => semigroupref08_Check.l4 k r (G.length : Int) ts (ts.length : Int) (i : Int) L s G M m acc ts) (len := ts.length) (g := fun i => cond ((ts.drop i).all fun w => wval w L) (semigroupref08_Check.j4 k (G.length : Int) L s G M m acc ts) (some false))
    (fun r => by rw [semigroupref08_Check.l4_succ, decide_eq_false (by omega), cond_false, List.drop_length, List.all_nil, cond_true])
    (fun i hi r ih => by
      rw [semigroupref08_Check.l4_succ, getD_nat, getD_lt hi, all_drop hi, semigroupref01_Valid_ok _ _ (by omega), ob]
      (repeat (first | rw [if_pos (by omega)] | rw [decide_eq_true (by omega), cond_true] | rw [decide_eq_false (by omega), cond_false]))
      cases wval ts[i] L with
      | false => simp only [c0, c1, Bool.true_and, Bool.and_false, Bool.false_and, Bool.not_false]
      | true => rw [Bool.not_true, cond_false, wrap_succ (by omega), Bool.true_and]; exact ih) k 0 (by omega) (by omega)
  have e4' : semigroupref08_Check.l4 k k (G.length : Int) ts (ts.length : Int) 0 L s G M m acc ts = cond (bVal L ts) (semigroupref08_Check.j4 k (G.length : Int) L s G M m acc ts) (some false) := e4
  rw [e4']
  cases hb : bVal L ts with
  | false => exact ⟨false, rfl, ⟨fun h => (by cases h), fun h => (by cases h.1)⟩⟩
  | true =>
    have hv : ∀ w ∈ ts, WV w L := fun w hw => wval_iff.1 (List.all_eq_true.1 hb w hw)
    have e5 := up (f := fun r i => semigroupref08_Check.l5 k r (G.length : Int) (i : Int) L s G M m acc ts) (len := G.length) (g := fun i => some (((List.range G.length).drop i).all fun (i : Nat) => (List.range i).all fun (j : Nat) => apart8 G M ts (i : Int) (j : Int)))
      (fun r => by rw [semigroupref08_Check.l5_succ, decide_eq_false (by omega), cond_false, semigroupref08_Check.j5_eq, range_end])
      (fun i hi r ih => by
        rw [semigroupref08_Check.l5_succ, decide_eq_true (by omega), cond_true, semigroupref08_Check_l6 H ht hv hi hk, range_drop hi]
        cases (List.range i).all (fun (j : Nat) => apart8 G M ts (i : Int) (j : Int)) with
        | false => simp only [c0, c1, Bool.true_and, Bool.and_false, Bool.false_and, Bool.not_false]
        | true => rw [cond_true, semigroupref08_Check.j6_eq, wrap_succ (by omega), Bool.true_and]; exact ih) k 0 (by omega) (by omega)
    refine ⟨_, by rw [cond_true, semigroupref08_Check.j4_eq]; exact e5, ?_⟩
    rw [List.drop_zero, List.all_eq_true]
    constructor
    · intro h
      have lt : ∀ x y, InR G.length x → InR G.length y → x < y → ¬ Same8 G M ts x y := fun x y hx hy hxy hs => by
        have h1 := hx.1; have h2 := hx.2; have h3 := hy.1; have h4 := hy.2
        have a1 := List.all_eq_true.1 (h y.toNat (List.mem_range.2 (by omega))) x.toNat (List.mem_range.2 (by omega))
        rw [show ((y.toNat : Nat) : Int) = y by omega, show ((x.toNat : Nat) : Int) = x by omega, apart_iff.2 (fun w hw => (hs w hw).symm)] at a1
        cases a1
      refine ⟨rfl, fun x y hx hy hs => ?_⟩
      by_cases h1 : x < y
      · exact absurd hs (lt x y hx hy h1)
      by_cases h2 : y < x
      · exact absurd (fun w hw => (hs w hw).symm) (lt y x hy hx h2)
      omega
    · rintro ⟨_, hd⟩ i hi
      rw [List.all_eq_true]
      intro j hj
      have hi := List.mem_range.1 hi; have hj := List.mem_range.1 hj
      cases ha : apart8 G M ts (i : Int) (j : Int) with
      | true => rfl
      | false =>
        have := hd i j ⟨by omega, by omega⟩ ⟨by omega, by omega⟩ (apart_iff.1 ha)
        omega
/-- What a proof of minimality is. -/
structure PC (L s : Int) (F : List Bool) (N : List (List Int)) (L' s' : Int) (G : List Bool) (M : List (List Int)) (m : List Int) (acc ts : List ByteArray) : Prop where
  d : DV L s F N
  m' : DV L' s' G M
  l : L = L'
  lm : m.length = F.length
  la : acc.length = G.length
  lt : ts.length < G.length
  map : bMap G.length m = true
  start : cls m s = s'
  steps : bSteps L F N G M m = true
  acc' : bAcc L s' G M acc = true
  val : bVal L ts = true
  dst : Dst G M ts
theorem minimize_Check_ok (L s : Int) (F : List Bool) (N : List (List Int)) (L' s' : Int) (G : List Bool) (M : List (List Int)) (m : List Int) (acc ts : List ByteArray) {k : Nat} (hk : 5000 < k) :
    ∃ b, minimize_Check.f k L s F N L' s' G M m acc ts = some b ∧ (b = true ↔ PC L s F N L' s' G M m acc ts) := by
  have no : ∀ {x : Option Bool}, x = some false → ¬ PC L s F N L' s' G M m acc ts → ∃ b, x = some b ∧ (b = true ↔ PC L s F N L' s' G M m acc ts) := fun e h => ⟨false, e, ⟨fun h => (by cases h), fun hh => absurd hh h⟩⟩
  rw [minimize_Check.f_eq, dfa_Validate_ok _ _ _ _ (by omega), ob, dfa_Validate_ok _ _ _ _ (by omega), ob]
  by_cases H : DV L s F N
  case neg => exact no (by rw [bne_iff_ne.2 (fun h => H (dfaE_zero.1 h)), cond_true]) (fun h => H h.d)
  by_cases H' : DV L' s' G M
  case neg => exact no (by rw [dfaE_zero.2 H, bne_iff_ne.2 (fun h => H' (dfaE_zero.1 h)), bne_self_eq_false, cond_false, cond_true]) (fun h => H' h.m')
  rw [dfaE_zero.2 H, dfaE_zero.2 H', bne_self_eq_false, cond_false, cond_false]
  by_cases hL : L = L'
  case neg => exact no (by rw [bne_iff_ne.2 hL, cond_true]) (fun h => hL h.l)
  subst hL
  by_cases hm : m.length = F.length
  case neg => exact no (by rw [bne_self_eq_false, cond_false, show ((m.length : Int) != (F.length : Int)) = true from bne_iff_ne.2 (by omega), cond_true]) (fun h => hm h.lm)
  by_cases ha : acc.length = G.length
  case neg => exact no (by rw [bne_self_eq_false, cond_false, hm, bne_self_eq_false, cond_false, show ((acc.length : Int) != (G.length : Int)) = true from bne_iff_ne.2 (by omega), cond_true]) (fun h => ha h.la)
  have h5 := H.n5; have h5' := H'.n5; have h1' := H'.n1; have h1 := H.n1; have hs0 := H.s0; have hs1 := H.s1
  rw [bne_self_eq_false, cond_false, hm, bne_self_eq_false, cond_false, ha, bne_self_eq_false, cond_false, wrap_i64 (n := (G.length : Int) - 1) (by omega) (by omega)]
  by_cases ht : ts.length < G.length
  case neg => exact no (by rw [decide_eq_true (by omega), cond_true]) (fun h => ht h.lt)
  have e0 := minimize_Check_l0 (L := L) (s := s) (L' := L) (s' := s') (F := F) (G := G) (N := N) (M := M) (m := m) (acc := acc) (ts := ts) (by omega) (n := G.length) (k := k) (by omega)
  rw [hm] at e0
  rw [decide_eq_false (by omega), cond_false, e0]
  by_cases hb : bMap G.length m = true
  case neg => exact no (by rw [Bool.not_eq_true] at hb; rw [hb, cond_false]) (fun h => hb h.map)
  rw [hb, cond_true, minimize_Check.j0_eq, show m.getD s.toNat 0 = cls m s from rfl]
  (repeat (first | rw [if_pos (by omega)] | rw [decide_eq_true (by omega), cond_true] | rw [decide_eq_false (by omega), cond_false]))
  by_cases hst : cls m s = s'
  case neg => exact no (by rw [bne_iff_ne.2 hst, cond_true]) (fun h => hst h.start)
  rw [hst, bne_self_eq_false, cond_false, minimize_Check_l1 H H' hm hb (by omega)]
  by_cases hsp : bSteps L F N G M m = true
  case neg => exact no (by rw [Bool.not_eq_true] at hsp; rw [hsp, cond_false]) (fun h => hsp h.steps)
  rw [hsp, cond_true, minimize_Check.j2_eq, minimize_Check_l3 H' (by omega) (by omega)]
  by_cases hac : bAcc L s' G M acc = true
  case neg => exact no (by rw [Bool.not_eq_true] at hac; rw [hac, cond_false]) (fun h => hac h.acc')
  rw [hac, cond_true, minimize_Check.j3_eq]
  (repeat (first | rw [if_pos (by omega)] | rw [decide_eq_true (by omega), cond_true] | rw [decide_eq_false (by omega), cond_false]))
  rw [Int.toNat_natCast]
  obtain ⟨b, e, hb'⟩ := minimize_Check_l4 H' (ts := ts) (by omega) hk
  exact ⟨b, e, hb'.trans ⟨fun h => ⟨H, H', rfl, hm, ha, ht, hb, hst, hsp, hac, h.1, h.2⟩, fun h => ⟨h.val, h.dst⟩⟩⟩
theorem semigroupref08_Check_ok (L s : Int) (F : List Bool) (N : List (List Int)) (L' s' : Int) (G : List Bool) (M : List (List Int)) (m : List Int) (acc ts : List ByteArray) {k : Nat} (hk : 5000 < k) :
    ∃ b, semigroupref08_Check.f k L s F N L' s' G M m acc ts = some b ∧ (b = true ↔ PC L s F N L' s' G M m acc ts) := by
  have no : ∀ {x : Option Bool}, x = some false → ¬ PC L s F N L' s' G M m acc ts → ∃ b, x = some b ∧ (b = true ↔ PC L s F N L' s' G M m acc ts) := fun e h => ⟨false, e, ⟨fun h => (by cases h), fun hh => absurd hh h⟩⟩
  rw [semigroupref08_Check.f_eq, semigroupref07_Validate_ok _ _ _ _ (by omega), ob, semigroupref07_Validate_ok _ _ _ _ (by omega), ob]
  by_cases H : DV L s F N
  case neg => exact no (by rw [bne_iff_ne.2 (fun h => H (dfaE_zero.1 h)), cond_true]) (fun h => H h.d)
  by_cases H' : DV L' s' G M
  case neg => exact no (by rw [dfaE_zero.2 H, bne_iff_ne.2 (fun h => H' (dfaE_zero.1 h)), bne_self_eq_false, cond_false, cond_true]) (fun h => H' h.m')
  rw [dfaE_zero.2 H, dfaE_zero.2 H', bne_self_eq_false, cond_false, cond_false]
  by_cases hL : L = L'
  case neg => exact no (by rw [bne_iff_ne.2 hL, cond_true]) (fun h => hL h.l)
  subst hL
  by_cases hm : m.length = F.length
  case neg => exact no (by rw [bne_self_eq_false, cond_false, show ((m.length : Int) != (F.length : Int)) = true from bne_iff_ne.2 (by omega), cond_true]) (fun h => hm h.lm)
  by_cases ha : acc.length = G.length
  case neg => exact no (by rw [bne_self_eq_false, cond_false, hm, bne_self_eq_false, cond_false, show ((acc.length : Int) != (G.length : Int)) = true from bne_iff_ne.2 (by omega), cond_true]) (fun h => ha h.la)
  have h5 := H.n5; have h5' := H'.n5; have h1' := H'.n1; have h1 := H.n1; have hs0 := H.s0; have hs1 := H.s1
  rw [bne_self_eq_false, cond_false, hm, bne_self_eq_false, cond_false, ha, bne_self_eq_false, cond_false, wrap_i64 (n := (G.length : Int) - 1) (by omega) (by omega)]
  by_cases ht : ts.length < G.length
  case neg => exact no (by rw [decide_eq_true (by omega), cond_true]) (fun h => ht h.lt)
  have e0 := semigroupref08_Check_l0 (L := L) (s := s) (L' := L) (s' := s') (F := F) (G := G) (N := N) (M := M) (m := m) (acc := acc) (ts := ts) (by omega) (n := G.length) (k := k) (by omega)
  rw [hm] at e0
  rw [decide_eq_false (by omega), cond_false, e0]
  by_cases hb : bMap G.length m = true
  case neg => exact no (by rw [Bool.not_eq_true] at hb; rw [hb, cond_false]) (fun h => hb h.map)
  rw [hb, cond_true, semigroupref08_Check.j0_eq, show m.getD s.toNat 0 = cls m s from rfl]
  (repeat (first | rw [if_pos (by omega)] | rw [decide_eq_true (by omega), cond_true] | rw [decide_eq_false (by omega), cond_false]))
  by_cases hst : cls m s = s'
  case neg => exact no (by rw [bne_iff_ne.2 hst, cond_true]) (fun h => hst h.start)
  rw [hst, bne_self_eq_false, cond_false, semigroupref08_Check_l1 H H' hm hb (by omega)]
  by_cases hsp : bSteps L F N G M m = true
  case neg => exact no (by rw [Bool.not_eq_true] at hsp; rw [hsp, cond_false]) (fun h => hsp h.steps)
  rw [hsp, cond_true, semigroupref08_Check.j2_eq, semigroupref08_Check_l3 H' (by omega) (by omega)]
  by_cases hac : bAcc L s' G M acc = true
  case neg => exact no (by rw [Bool.not_eq_true] at hac; rw [hac, cond_false]) (fun h => hac h.acc')
  rw [hac, cond_true, semigroupref08_Check.j3_eq]
  obtain ⟨b, e, hb'⟩ := semigroupref08_Check_l4 H' (m := m) (acc := acc) (ts := ts) (by omega) hk
  exact ⟨b, e, hb'.trans ⟨fun h => ⟨H, H', rfl, hm, ha, ht, hb, hst, hsp, hac, h.1, h.2⟩, fun h => ⟨h.val, h.dst⟩⟩⟩

end Go.Proofs.Yteblfhhhbfodgaa.Sim
