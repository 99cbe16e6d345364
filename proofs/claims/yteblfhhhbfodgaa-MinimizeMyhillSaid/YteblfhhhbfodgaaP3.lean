-- Plain proofs over the functions (texts of wip/sim/pure, expanded by macros.py).
import Derived.Test.YteblfhhhbfodgaaP2
set_option linter.unusedVariables false
set_option linter.unusedSimpArgs false
namespace Go.Proofs.Yteblfhhhbfodgaa.Sim
open Go
/-! ### Strings as words -/
def lets (s : ByteArray) : List Nat := (List.range s.size).map fun i => (bt s i - 97).toNat
def wval (s : ByteArray) (L : Int) : Bool := decide (1 ≤ L ∧ L ≤ 6 ∧ s.size ≤ 2048) && (List.range s.size).all fun i => decide (97 ≤ bt s i ∧ bt s i < 97 + L)
structure WV (s : ByteArray) (L : Int) : Prop where
  l1 : 1 ≤ L
  l6 : L ≤ 6
  sz : s.size ≤ 2048
  ch : ∀ i, i < s.size → 97 ≤ bt s i ∧ bt s i < 97 + L
theorem wval_iff {s : ByteArray} {L : Int} : wval s L = true ↔ WV s L := by
  unfold wval
  rw [Bool.and_eq_true, decide_eq_true_eq, List.all_eq_true]
  constructor
  · rintro ⟨⟨h1, h2, h3⟩, h4⟩
    exact ⟨h1, h2, h3, fun i hi => by have := h4 i (List.mem_range.2 hi); rwa [decide_eq_true_eq] at this⟩
  · intro h
    exact ⟨⟨h.l1, h.l6, h.sz⟩, fun i hi => by rw [decide_eq_true_eq]; exact h.ch i (List.mem_range.1 hi)⟩
theorem lets_length (s : ByteArray) : (lets s).length = s.size := by simp [lets]
theorem WV.wd {s : ByteArray} {L : Int} (h : WV s L) : Wd L.toNat (lets s) := fun a ha => by
  obtain ⟨i, hi, rfl⟩ := List.mem_map.1 ha
  have := h.ch i (List.mem_range.1 hi)
  omega
theorem bt_byte (s : ByteArray) (i : Nat) : 0 ≤ bt s i ∧ bt s i < 256 := by
  have := UInt8.toNat_lt (s.data.toList.getD i 0)
  unfold bt; omega
theorem bt_strOf (xs : List Int) (i : Nat) (hi : i < xs.length) (h : 0 ≤ xs[i] ∧ xs[i] < 256) : bt (strOf xs) i = xs[i] := by
  unfold bt strOf
  simp only [List.getD_eq_getElem?_getD, List.getElem?_map, List.getElem?_eq_getElem hi, Option.map_some, Option.getD_some, UInt8.toNat_ofNat']
  omega
theorem bt_wordOf {w : List Nat} {L : Nat} (h : Wd L w) (hL : L ≤ 6) (i : Nat) (hi : i < w.length) : bt (wordOf w) i = 97 + (w[i] : Int) := by
  have h1 := h w[i] (List.getElem_mem hi)
  unfold wordOf
  rw [bt_strOf _ i (by simp; exact hi) (by simp; omega)]
  simp
theorem lets_wordOf {w : List Nat} {L : Nat} (h : Wd L w) (hL : L ≤ 6) : lets (wordOf w) = w := by
  apply List.ext_getElem
  · rw [lets_length, wordOf_size]
  · intro i h1 h2
    simp only [lets, List.getElem_map, List.getElem_range]
    rw [bt_wordOf h hL i h2]; omega
theorem wv_wordOf {w : List Nat} {L : Int} (h1 : 1 ≤ L) (h6 : L ≤ 6) (h : Wd L.toNat w) (hw : w.length ≤ 2048) : WV (wordOf w) L where
  l1 := h1
  l6 := h6
  sz := by rw [wordOf_size]; exact hw
  ch := fun i hi => by
    rw [wordOf_size] at hi
    rw [bt_wordOf h (by omega) i hi]
    have := h w[i] (List.getElem_mem hi)
    omega
theorem wordOf_lets {s : ByteArray} {L : Int} (h : WV s L) : wordOf (lets s) = s := by
  apply ByteArray.ext
  apply Array.toList_inj.1
  apply List.ext_getElem
  · have := lets_length s
    simp [wordOf, strOf, this]
  · intro i h1 h2
    have hi : i < s.size := h2
    have hc := h.ch i hi
    have hl := h.l6
    apply UInt8.toNat_inj.1
    have e : bt s i = ((s.data.toList[i]).toNat : Int) := by unfold bt; rw [List.getD_eq_getElem?_getD, List.getElem?_eq_getElem h2]; rfl
    simp only [wordOf, strOf, lets, List.getElem_map, List.getElem_range]
    rw [UInt8.toNat_ofNat']
    omega
theorem wval_loop (s : ByteArray) (L : Int) (i : Nat) (h : i < s.size) : ((List.range s.size).drop i).all (fun i => decide (97 ≤ bt s i ∧ bt s i < 97 + L)) = (decide (97 ≤ bt s i ∧ bt s i < 97 + L) && ((List.range s.size).drop (i + 1)).all (fun i => decide (97 ≤ bt s i ∧ bt s i < 97 + L))) := by
  rw [List.drop_eq_getElem_cons (by simp; exact h), List.all_cons, List.getElem_range]
/-! ### word_Valid -/
theorem word_Valid_l0 (s : ByteArray) (L : Int) (h1 : 1 ≤ L) (h6 : L ≤ 6) (hs : s.size ≤ 2048) {k : Nat} (hk : 2049 < k) : word_Valid.l0 k k s L 0 = some ((List.range s.size).all fun i => decide (97 ≤ bt s i ∧ bt s i < 97 + L)) := by
  have := up (f := fun n i => word_Valid.l0 k n s L (i : Int)) (len := s.size) (g := fun i => some (((List.range s.size).drop i).all fun i => decide (97 ≤ bt s i ∧ bt s i < 97 + L)))
    (fun n => by rw [word_Valid.l0_succ, decide_eq_false (by omega), cond_false, word_Valid.j0_eq, List.drop_of_length_le (by simp)]; rfl)
    (fun i hi n ih => by
      have hb := bt_byte s i
      rw [word_Valid.l0_succ, wval_loop s L i hi, Int.toNat_natCast]
      (repeat (first | rw [if_pos (by omega)] | rw [decide_eq_true (by omega), cond_true] | rw [decide_eq_false (by omega), cond_false]))
      by_cases hc : bt s i < 97
      · rw [decide_eq_true hc, cond_true, decide_eq_false (by omega)]; rfl
      rw [decide_eq_false hc, cond_false]
      (repeat (first | rw [if_pos (by omega)] | rw [decide_eq_true (by omega), cond_true] | rw [decide_eq_false (by omega), cond_false]))
      rw [wrap_u8 (n := bt s i - 97) (by omega) (by omega), wrap_i64 (n := bt s i - 97) (by omega) (by omega)]
      by_cases hd : bt s i - 97 ≥ L
      · rw [decide_eq_true hd, cond_true, decide_eq_false (by omega)]; rfl
      rw [decide_eq_false hd, cond_false, decide_eq_true (by omega), Bool.true_and, wrap_succ (by omega)]
      exact ih) k 0 (by omega) (by omega)
  simpa using this
theorem word_Valid_ok (s : ByteArray) (L : Int) {k : Nat} (hk : 2049 < k) : word_Valid.f k s L = some (wval s L) := by
  rw [word_Valid.f_eq]
  unfold wval
  by_cases h1 : L < 1
  · rw [decide_eq_true h1, cond_true, decide_eq_false (by omega)]; rfl
  by_cases h6 : L > 6
  · rw [decide_eq_false h1, cond_false, decide_eq_true h6, cond_true, decide_eq_false (by omega)]; rfl
  by_cases hs : (s.size : Int) > 2048
  · rw [decide_eq_false h1, cond_false, decide_eq_false h6, cond_false, decide_eq_true hs, cond_true, decide_eq_false (by omega)]; rfl
  rw [decide_eq_false h1, cond_false, decide_eq_false h6, cond_false, decide_eq_false hs, cond_false, word_Valid_l0 s L (by omega) (by omega) (by omega) hk, decide_eq_true (by omega), Bool.true_and]
/-! ### semigroupref01_Valid -/
theorem semigroupref01_Valid_l0 (s : ByteArray) (L : Int) (h1 : 1 ≤ L) (h6 : L ≤ 6) (hs : s.size ≤ 2048) {k : Nat} (hk : 2049 < k) : semigroupref01_Valid.l0 k k s L 0 = some ((List.range s.size).all fun i => decide (97 ≤ bt s i ∧ bt s i < 97 + L)) := by
  have := up (f := fun n i => semigroupref01_Valid.l0 k n s L (i : Int)) (len := s.size) (g := fun i => some (((List.range s.size).drop i).all fun i => decide (97 ≤ bt s i ∧ bt s i < 97 + L)))
    (fun n => by rw [semigroupref01_Valid.l0_succ, decide_eq_false (by omega), cond_false, semigroupref01_Valid.j0_eq, List.drop_of_length_le (by simp)]; rfl)
    (fun i hi n ih => by
      have hb := bt_byte s i
      rw [semigroupref01_Valid.l0_succ, wval_loop s L i hi, Int.toNat_natCast]
      (repeat (first | rw [if_pos (by omega)] | rw [decide_eq_true (by omega), cond_true] | rw [decide_eq_false (by omega), cond_false]))
      by_cases hc : bt s i < 97
      · rw [decide_eq_true hc, cond_true, decide_eq_false (by omega)]; rfl
      rw [decide_eq_false hc, cond_false]
      (repeat (first | rw [if_pos (by omega)] | rw [decide_eq_true (by omega), cond_true] | rw [decide_eq_false (by omega), cond_false]))
      rw [wrap_u8 (n := bt s i - 97) (by omega) (by omega), wrap_i64 (n := bt s i - 97) (by omega) (by omega)]
      by_cases hd : bt s i - 97 ≥ L
      · rw [decide_eq_true hd, cond_true, decide_eq_false (by omega)]; rfl
      rw [decide_eq_false hd, cond_false, decide_eq_true (by omega), Bool.true_and, wrap_succ (by omega)]
      exact ih) k 0 (by omega) (by omega)
  simpa using this
theorem MayLetters_ok (L : Int) {k : Nat} : semigroupref01_MayLetters.f k L = some (decide (1 ≤ L ∧ L ≤ 6)) := by
  rw [semigroupref01_MayLetters.f_eq]
  by_cases h1 : 1 ≤ L
  · rw [decide_eq_true (by omega), cond_true]; simp [h1]
  · rw [decide_eq_false (by omega), cond_false, decide_eq_false (by omega)]
theorem semigroupref01_Valid_ok (s : ByteArray) (L : Int) {k : Nat} (hk : 2049 < k) : semigroupref01_Valid.f k s L = some (wval s L) := by
  rw [semigroupref01_Valid.f_eq, MayLetters_ok, Option.bind_some]
  unfold wval
  by_cases h1 : 1 ≤ L ∧ L ≤ 6
  · rw [decide_eq_true h1, Bool.not_true, cond_false]
    by_cases hs : (s.size : Int) > 2048
    · rw [decide_eq_true hs, cond_true, decide_eq_false (by omega)]; rfl
    rw [decide_eq_false hs, cond_false, semigroupref01_Valid_l0 s L h1.1 h1.2 (by omega) hk, decide_eq_true (by omega), Bool.true_and]
  · rw [decide_eq_false h1, Bool.not_false, cond_true, decide_eq_false (by omega)]; rfl
/-! ### dfa.run, dfa.Run, dfa.Accepts, semigroupref07.Run -/
theorem dfa_run_l0 {L s : Int} {F : List Bool} {N : List (List Int)} (H : DV L s F N) {w : ByteArray} (hw : WV w L) {x : Int} (hx : InR F.length x) {k : Nat} (hk : 2049 < k) : dfa_run.l0 k k x w 0 L s F N = some (rn (dl N) x (lets w)) := by
  have hsz := hw.sz; have h6 := H.l6; have hnn := H.nn
  have := upc (f := fun n i => dfa_run.l0 k n (rn (dl N) x ((lets w).take i)) w (i : Int) L s F N) (len := w.size) (r := some (rn (dl N) x (lets w)))
    (fun n => by rw [dfa_run.l0_succ, decide_eq_false (by omega), cond_false, dfa_run.j0_eq, ← lets_length, List.take_length])
    (fun i hi n => by
      have hc := hw.ch i hi
      have hb := bt_byte w i
      have hr := H.rn_range ((lets w).take i) hx.1 hx.2 (fun a ha => hw.wd a (List.mem_of_mem_take ha))
      have hrl := H.rowlen hr.1 hr.2
      have el : (lets w)[i]'(by rw [lets_length]; exact hi) = (bt w i - 97).toNat := by simp [lets]
      rw [dfa_run.l0_succ, Int.toNat_natCast, wrap_u8 (n := bt w i - 97) (by omega) (by omega), hrl]
      (repeat (first | rw [if_pos (by omega)] | rw [decide_eq_true (by omega), cond_true] | rw [decide_eq_false (by omega), cond_false]))
      rw [wrap_succ (by omega), List.take_succ_eq_append_getElem (by rw [lets_length]; exact hi), rn_snoc, el]; rfl) k (by omega)
  simpa [rn] using this
theorem semigroupref07_Run_l0 {L s : Int} {F : List Bool} {N : List (List Int)} (H : DV L s F N) {w : ByteArray} (hw : WV w L) {x : Int} (hx : InR F.length x) {k : Nat} (hk : 2049 < k) : semigroupref07_Run.l0 k k x w 0 L s F N = some (rn (dl N) x (lets w)) := by
  have hsz := hw.sz; have h6 := H.l6; have hnn := H.nn
  have := upc (f := fun n i => semigroupref07_Run.l0 k n (rn (dl N) x ((lets w).take i)) w (i : Int) L s F N) (len := w.size) (r := some (rn (dl N) x (lets w)))
    (fun n => by rw [semigroupref07_Run.l0_succ, decide_eq_false (by omega), cond_false, semigroupref07_Run.j0_eq, ← lets_length, List.take_length])
    (fun i hi n => by
      have hc := hw.ch i hi
      have hb := bt_byte w i
      have hr := H.rn_range ((lets w).take i) hx.1 hx.2 (fun a ha => hw.wd a (List.mem_of_mem_take ha))
      have hrl := H.rowlen hr.1 hr.2
      have el : (lets w)[i]'(by rw [lets_length]; exact hi) = (bt w i - 97).toNat := by simp [lets]
      rw [semigroupref07_Run.l0_succ, Int.toNat_natCast, wrap_u8 (n := bt w i - 97) (by omega) (by omega), wrap_i64 (n := bt w i - 97) (by omega) (by omega), hrl]
      (repeat (first | rw [if_pos (by omega)] | rw [decide_eq_true (by omega), cond_true] | rw [decide_eq_false (by omega), cond_false]))
      rw [wrap_succ (by omega), List.take_succ_eq_append_getElem (by rw [lets_length]; exact hi), rn_snoc, el]; rfl) k (by omega)
  simpa [rn] using this
/-- What Run answers. -/
def runE (L s : Int) (F : List Bool) (N : List (List Int)) (x : Int) (w : ByteArray) : Int := if 0 ≤ x ∧ x < F.length ∧ wval w L = true then rn (dl N) x (lets w) else -1
theorem runE_ok {L s : Int} {F : List Bool} {N : List (List Int)} {x : Int} {w : ByteArray} (hx : InR F.length x) (hw : WV w L) : runE L s F N x w = rn (dl N) x (lets w) := by
  unfold runE; rw [if_pos ⟨hx.1, hx.2, wval_iff.2 hw⟩]
theorem runE_range {L s : Int} {F : List Bool} {N : List (List Int)} (H : DV L s F N) (x : Int) (w : ByteArray) : runE L s F N x w = -1 ∨ InR F.length (runE L s F N x w) := by
  unfold runE
  split
  · rename_i h; exact .inr (H.rn_range _ h.1 h.2.1 (wval_iff.1 h.2.2).wd)
  · exact .inl rfl
theorem semigroupref07_Run_ok {L s : Int} {F : List Bool} {N : List (List Int)} (H : DV L s F N) (x : Int) (w : ByteArray) {k : Nat} (hk : 2049 < k) : semigroupref07_Run.f k L s F N x w = some (runE L s F N x w) := by
  rw [semigroupref07_Run.f_eq, semigroupref01_Valid_ok _ _ hk, Option.bind_some]
  unfold runE
  by_cases h1 : x < 0
  · rw [decide_eq_true h1, cond_true, if_neg (by omega)]
  by_cases h2 : x ≥ F.length
  · rw [decide_eq_false h1, cond_false, decide_eq_true h2, cond_true, if_neg (by omega)]
  rw [decide_eq_false h1, cond_false, decide_eq_false h2, cond_false]
  cases hv : wval w L with
  | false => rw [Bool.not_false, cond_true, if_neg (by simp)]
  | true => rw [Bool.not_true, cond_false, if_pos ⟨by omega, by omega, rfl⟩]; exact semigroupref07_Run_l0 H (wval_iff.1 hv) ⟨by omega, by omega⟩ hk
theorem dfa_Run_ok {L s : Int} {F : List Bool} {N : List (List Int)} (H : DV L s F N) (x : Int) (w : ByteArray) {k : Nat} (hk : 2049 < k) : dfa_Run.f k L s F N x w = some (runE L s F N x w) := by
  rw [dfa_Run.f_eq, dfa_Validate_ok _ _ _ _ (by omega), dfaE_zero.2 H, Option.bind_some, show ((0 : Int) != 0) = false from rfl, cond_false, word_Valid_ok _ _ hk, Option.bind_some]
  unfold runE
  by_cases h1 : x < 0
  · rw [decide_eq_true h1, cond_true, if_neg (by omega)]
  by_cases h2 : x ≥ F.length
  · rw [decide_eq_false h1, cond_false, decide_eq_true h2, cond_true, if_neg (by omega)]
  rw [decide_eq_false h1, cond_false, decide_eq_false h2, cond_false]
  cases hv : wval w L with
  | false => rw [Bool.not_false, cond_true, if_neg (by simp)]
  | true => rw [Bool.not_true, cond_false, if_pos ⟨by omega, by omega, rfl⟩, dfa_run.f_eq, dfa_run_l0 H (wval_iff.1 hv) ⟨by omega, by omega⟩ hk, Option.bind_some]
theorem dfa_Run_bad {L s : Int} {F : List Bool} {N : List (List Int)} (H : ¬ DV L s F N) (x : Int) (w : ByteArray) {k : Nat} (hk : 2049 < k) : dfa_Run.f k L s F N x w = some (-1) := by
  rw [dfa_Run.f_eq, dfa_Validate_ok _ _ _ _ (by omega), Option.bind_some, bne_iff_ne.2 (fun h => H (dfaE_zero.1 h)), cond_true]
/-- What Accepts answers. -/
def accE (L s : Int) (F : List Bool) (N : List (List Int)) (w : ByteArray) : Bool := wval w L && lng s F N (lets w)
theorem dfa_Accepts_ok {L s : Int} {F : List Bool} {N : List (List Int)} (H : DV L s F N) (w : ByteArray) {k : Nat} (hk : 2049 < k) : dfa_Accepts.f k L s F N w = some (accE L s F N w) := by
  have h0 := H.s0; have h1 := H.s1
  rw [dfa_Accepts.f_eq, dfa_Run_ok H _ _ hk, Option.bind_some]
  unfold accE runE
  cases hv : wval w L with
  | false => rw [if_neg (by simp), decide_eq_false (by omega), cond_false]; rfl
  | true =>
    have hr := H.rn_range (lets w) h0 h1 (wval_iff.1 hv).wd
    rw [if_pos ⟨h0, h1, rfl⟩]
    (repeat (first | rw [if_pos (by omega)] | rw [decide_eq_true (by omega), cond_true] | rw [decide_eq_false (by omega), cond_false]))
    rfl

/-! ### Pairs of states -/
def d2 (N N' : List (List Int)) (x : Int × Int) (a : Nat) : Int × Int := (dl N x.1 a, dl N' x.2 a)
theorem rn_d2 (N N' : List (List Int)) : ∀ (w : List Nat) (x y : Int), rn (d2 N N') (x, y) w = (rn (dl N) x w, rn (dl N') y w)
  | [], _, _ => rfl
  | a :: w, x, y => by rw [rn_cons, rn_cons, rn_cons]; exact rn_d2 N N' w _ _
def code (m : Nat) (x : Int × Int) : Int := x.1 * (m : Int) + x.2
theorem code_range {n m : Nat} {x : Int × Int} (h1 : InR n x.1) (h2 : InR m x.2) : 0 ≤ code m x ∧ code m x < (n * m : Nat) := by
  have a1 := h1.1; have a2 := h1.2; have a3 := h2.1; have a4 := h2.2
  have b1 : 0 ≤ x.1 * (m : Int) := Int.mul_nonneg a1 (by omega)
  have b2 : (x.1 + 1) * (m : Int) ≤ (n : Int) * (m : Int) := Int.mul_le_mul_of_nonneg_right (by omega) (by omega)
  rw [Int.add_mul, Int.one_mul] at b2
  unfold code
  rw [Int.natCast_mul]; omega
theorem code_div {m : Nat} {x : Int × Int} (h1 : 0 ≤ x.1) (h2 : InR m x.2) : (code m x).tdiv m = x.1 ∧ (code m x).tmod m = x.2 := by
  have a3 := h2.1; have a4 := h2.2
  have b1 : 0 ≤ x.1 * (m : Int) := Int.mul_nonneg h1 (by omega)
  unfold code
  rw [Int.tdiv_eq_ediv_of_nonneg (by omega), Int.tmod_eq_emod_of_nonneg (by omega), Int.add_comm, Int.add_mul_ediv_right _ _ (by omega), Int.add_mul_emod_self_right, Int.ediv_eq_zero_of_lt a3 a4, Int.emod_eq_of_lt a3 a4]
  omega
theorem code_inj {m : Nat} {x y : Int × Int} (h1 : 0 ≤ x.1) (h2 : InR m x.2) (h3 : 0 ≤ y.1) (h4 : InR m y.2) (e : code m x = code m y) : x = y := by
  have a := code_div h1 h2; have b := code_div h3 h4
  rw [e] at a
  exact Prod.ext (a.1.symm.trans b.1) (a.2.symm.trans b.2)
section
variable {L s s' : Int} {F F' : List Bool} {N N' : List (List Int)} {e0 : Ent (Int × Int)} {q : List (Ent (Int × Int))} {i a : Nat}
theorem pair_range (H : DV L s F N) (H' : DV L s' F' N') (h1 : InR F.length e0.x.1) (h2 : InR F'.length e0.x.2) (B : BInv (d2 N N') L.toNat e0 q i a) {j : Nat} {e : Ent (Int × Int)} (he : q[j]? = some e) : InR F.length e.x.1 ∧ InR F'.length e.x.2 := by
  have := B.sound j e he
  rw [show e0.x = (e0.x.1, e0.x.2) from rfl, rn_d2] at this
  rw [← this.1]
  exact ⟨H.rn_range _ h1.1 h1.2 this.2, H'.rn_range _ h2.1 h2.2 this.2⟩
theorem pair_count (H : DV L s F N) (H' : DV L s' F' N') (h1 : InR F.length e0.x.1) (h2 : InR F'.length e0.x.2) (B : BInv (d2 N N') L.toNat e0 q i a) : q.length ≤ F.length * F'.length := by
  have := nodup_range (l := q.map fun e => code F'.length e.x) (n := F.length * F'.length) (nodup_of fun j k x hj hk => by
    rw [List.getElem?_map, Option.map_eq_some_iff] at hj hk
    obtain ⟨e, h3, h4⟩ := hj; obtain ⟨f, h5, h6⟩ := hk
    have r1 := pair_range H H' h1 h2 B h3; have r2 := pair_range H H' h1 h2 B h5
    exact B.nd j k e f h3 h5 (code_inj r1.1.1 r1.2 r2.1.1 r2.2 (h4.trans h6.symm))) (fun x hx => by
      obtain ⟨e, he, rfl⟩ := List.mem_map.1 hx
      obtain ⟨j, hj⟩ := List.mem_iff_getElem?.1 he
      have r1 := pair_range H H' h1 h2 B hj
      exact code_range r1.1 r1.2)
  simpa using this
/-- The pairs told apart by finality. -/
def Tells (F F' : List Bool) (x : Int × Int) : Prop := fin F x.1 ≠ fin F' x.2
/-- The first entry that is told apart has the least word. -/
theorem tells_least (B : BInv (d2 N N') L.toNat e0 q i 0) {e : Ent (Int × Int)} (he : q[i]? = some e) (hj : ∀ (j : Nat) f, j < i → q[j]? = some f → ¬ Tells F F' f.x) {v : List Nat} (hv : Wd L.toNat v) (ht : Tells F F' (rn (d2 N N') e0.x v)) : sle e.w v := by
  rcases B.reach v hv with ⟨f, hf, hx, hle⟩ | ⟨f, hf, hle⟩
  · obtain ⟨j, hjf⟩ := List.mem_iff_getElem?.1 hf
    by_cases hji : j < i
    · exact absurd (by rw [hx]; exact ht) (hj j f hji hjf)
    · by_cases hij : i = j
      · subst hij; rw [he] at hjf; cases hjf; exact hle
      · exact sle_trans (.inr (B.srt i j e f (by omega) he hjf)) hle
  · rw [he] at hf; cases hf; exact hle
theorem tells_none (B : BInv (d2 N N') L.toNat e0 q q.length 0) (hj : ∀ (j : Nat) f, j < q.length → q[j]? = some f → ¬ Tells F F' f.x) {v : List Nat} (hv : Wd L.toNat v) : ¬ Tells F F' (rn (d2 N N') e0.x v) := by
  obtain ⟨f, hf, hx, _⟩ := B.done v hv
  obtain ⟨j, hjf⟩ := List.mem_iff_getElem?.1 hf
  rw [← hx]; exact hj j f (List.getElem?_eq_some_iff.1 hjf).1 hjf
end
/-- A search's answer: the least word that tells two states apart. -/
def Least (L : Int) (F F' : List Bool) (N N' : List (List Int)) (x y : Int) (r : ByteArray × Bool) : Prop :=
  (∃ w, r = (wordOf w, true) ∧ Wd L.toNat w ∧ fin F (rn (dl N) x w) ≠ fin F' (rn (dl N') y w) ∧ ∀ v, Wd L.toNat v → fin F (rn (dl N) x v) ≠ fin F' (rn (dl N') y v) → sle w v) ∨
  (r = (ByteArray.empty, false) ∧ ∀ v, Wd L.toNat v → fin F (rn (dl N) x v) = fin F' (rn (dl N') y v))
theorem Least.unique {L : Int} {F F' : List Bool} {N N' : List (List Int)} {x y : Int} {r r' : ByteArray × Bool} (h : Least L F F' N N' x y r) (h' : Least L F F' N N' x y r') : r = r' := by
  rcases h with ⟨w, rfl, h1, h2, h3⟩ | ⟨rfl, h1⟩ <;> rcases h' with ⟨w', rfl, g1, g2, g3⟩ | ⟨rfl, g1⟩
  · rw [sle_antisymm (h3 w' g1 g2) (g3 w h1 h2)]
  · exact absurd (g1 w h1) h2
  · exact absurd (h1 w' g1) g2
  · rfl
/-! ### word.Reverse -/
theorem word_Reverse_ok (xs : List Int) (hx : ∀ x ∈ xs, 0 ≤ x ∧ x < 256) (hl : xs.length ≤ 1000000) {k : Nat} (hk : 1000001 < k) : word_Reverse.f k (strOf xs) = some (strOf xs.reverse) := by
  have hs := strOf_size xs
  have hset : ∀ (m : Nat) (t : List Int) (x : Int), (List.replicate (m + 1) 0 ++ t).set m x = List.replicate m 0 ++ x :: t := fun m t x => by
    rw [List.replicate_succ', List.append_assoc, List.set_append, if_neg (by simp), List.length_replicate, Nat.sub_self]; rfl
  have := upc (f := fun n i => word_Reverse.l0 k n (strOf xs) (i : Int) (List.replicate (xs.length - i) 0 ++ (xs.take i).reverse)) (len := xs.length) (r := some (strOf xs.reverse))
    (fun n => by rw [word_Reverse.l0_succ, hs, decide_eq_false (by omega), cond_false, word_Reverse.j0_eq, List.take_length, Nat.sub_self]; rfl)
    (fun i hi n => by
      have e1 : (List.replicate (xs.length - i) (0 : Int) ++ (xs.take i).reverse).length = xs.length := by simp; omega
      rw [word_Reverse.l0_succ, hs, e1, wrap_i64 (n := (xs.length : Int) - 1) (by omega) (by omega), wrap_i64 (n := (xs.length : Int) - 1 - i) (by omega) (by omega), Int.toNat_natCast, bt_strOf xs i hi (hx _ (List.getElem_mem hi))]
      (repeat (first | rw [if_pos (by omega)] | rw [decide_eq_true (by omega), cond_true] | rw [decide_eq_false (by omega), cond_false]))
      rw [wrap_succ (by omega), show ((xs.length : Int) - 1 - i).toNat = xs.length - (i + 1) by omega, show xs.length - i = xs.length - (i + 1) + 1 by omega, hset, List.take_succ_eq_append_getElem hi, List.reverse_append]; rfl) k (by omega)
  rw [word_Reverse.f_eq, hs]
  (repeat (first | rw [if_pos (by omega)] | rw [decide_eq_true (by omega), cond_true] | rw [decide_eq_false (by omega), cond_false]))
  rw [Int.toNat_natCast]
  simpa using this
/-! ### minimize.distinguish -/
def stp (m : Nat) (e : Ent (Int × Int)) : Int × (Int × (Int × Unit)) := (code m e.x, (e.p, (e.a, ())))
structure SeenOk (n m : Nat) (q : List (Ent (Int × Int))) (σ : List Bool) : Prop where
  len : σ.length = n * m
  yes : ∀ e ∈ q, σ.getD (code m e.x).toNat false = true
  no : ∀ x : Int × Int, InR n x.1 → InR m x.2 → (∀ e ∈ q, e.x ≠ x) → σ.getD (code m x).toNat false = false
theorem SeenOk.push {n m : Nat} {q : List (Ent (Int × Int))} {σ : List Bool} (V : SeenOk n m q σ) {e : Ent (Int × Int)} (h1 : InR n e.x.1) (h2 : InR m e.x.2) : SeenOk n m (q ++ [e]) (σ.set (code m e.x).toNat true) where
  len := by rw [List.length_set, V.len]
  yes := fun f hf => by
    have hc := code_range h1 h2; have hl := V.len
    rw [getD_set]
    split
    · rfl
    · rename_i hne
      rcases List.mem_append.1 hf with hf | hf
      · exact V.yes f hf
      · rw [List.mem_singleton.1 hf] at hne
        exact absurd ⟨rfl, by omega⟩ hne
  no := fun x g1 g2 h => by
    have hc := code_range h1 h2; have hc' := code_range g1 g2
    have := h e (by simp)
    rw [getD_set, if_neg (fun ee => this (code_inj h1.1 h2 g1.1 g2 (by omega)))]
    exact V.no x g1 g2 (fun f hf => h f (by simp [hf]))
theorem SeenOk.start {n m : Nat} {e0 : Ent (Int × Int)} (h1 : InR n e0.x.1) (h2 : InR m e0.x.2) : SeenOk n m [e0] ((List.replicate (n * m) false).set (code m e0.x).toNat true) where
  len := by simp
  yes := fun e he => by
    have hc := code_range h1 h2
    rw [List.mem_singleton.1 he, getD_set, if_pos ⟨rfl, by simp; omega⟩]
  no := fun x g1 g2 hn => by
    have hc := code_range h1 h2; have hc' := code_range g1 g2
    have := hn e0 (by simp)
    rw [getD_set, if_neg (fun ee => this (code_inj h1.1 h2 g1.1 g2 (by omega))), getD_lt (by simp; omega)]; simp
theorem minimize_distinguish_l1 {L : Int} {N N' : List (List Int)} {m : Nat} {e0 : Ent (Int × Int)} {q : List (Ent (Int × Int))} {i a : Nat} (B : BInv (d2 N N') L.toNat e0 q i a) (h0 : e0.p = -1) (hL : L ≤ 6) (hq : q.length ≤ 300000) {k n0 : Nat} :
    ∀ (j n1 : Nat) (e : Ent (Int × Int)) (acc : List Int), j < n1 → q[j]? = some e → acc.length + j ≤ 300000 → minimize_distinguish.l1 k n0 n1 (j : Int) (q.map (stp m)) acc = minimize_distinguish.j2 k n0 (acc ++ (e.w.reverse.map fun (a : Nat) => 97 + (a : Int))) := by
  intro j
  induction j using Nat.strongRecOn with
  | _ j ih =>
    intro n1 e acc hn he ha
    obtain ⟨n, rfl⟩ : ∃ n, n1 = n + 1 := ⟨n1 - 1, by omega⟩
    have hj := (List.getElem?_eq_some_iff.1 he).1
    have eo : (q.map (stp m)).getD j (0, (0, (0, ()))) = stp m e := by simp [he]
    rw [minimize_distinguish.l1_succ, getD_nat, eo, List.length_map]
    by_cases hj0 : j = 0
    · subst hj0
      rw [B.hd] at he; cases he
      rw [show (stp m e0).2.1 = e0.p from rfl, h0]
      (repeat (first | rw [if_pos (by omega)] | rw [decide_eq_true (by omega), cond_true] | rw [decide_eq_false (by omega), cond_false]))
      simp [B.hw]
    · obtain ⟨p, b, f, hp, hb, hf, rfl, _⟩ := B.tl j e (by omega) he
      have hb6 : b < 6 := by omega
      rw [show (stp m ⟨d2 N N' f.x b, f.w ++ [b], (p : Int), (b : Int)⟩).2.1 = (p : Int) from rfl, show (stp m ⟨d2 N N' f.x b, f.w ++ [b], (p : Int), (b : Int)⟩).2.2.1 = (b : Int) from rfl, wrap_u8 (n := (b : Int)) (by omega) (by omega), wrap_u8 (n := 97 + (b : Int)) (by omega) (by omega), List.length_singleton]
      (repeat (first | rw [if_pos (by omega)] | rw [decide_eq_true (by omega), cond_true] | rw [decide_eq_false (by omega), cond_false]))
      rw [ih p hp n f _ (by omega) hf (by simp; omega), List.reverse_append, List.append_assoc]; rfl
theorem minimize_distinguish_ok {L s : Int} {F : List Bool} {N : List (List Int)} (H : DV L s F N) {x y : Int} (hx : InR F.length x) (hy : InR F.length y) {k : Nat} (hk : 1000001 < k) :
    ∃ r, minimize_distinguish.f k L s F N x y = some r ∧ Least L F F N N x y r := by
  have h6 := H.l6; have h1 := H.l1; have h5 := H.n5; have hnn := H.nn
  have hsq : F.length * F.length ≤ 512 * 512 := Nat.mul_le_mul h5 h5
  have hcnt := fun (q : List (Ent (Int × Int))) (i a : Nat) (B : BInv (d2 N N) L.toNat ⟨(x, y), [], -1, 0⟩ q i a) => pair_count (e0 := ⟨(x, y), [], -1, 0⟩) H H hx hy B
  have hpr := fun (q : List (Ent (Int × Int))) (i a : Nat) (B : BInv (d2 N N) L.toNat ⟨(x, y), [], -1, 0⟩ q i a) (j : Nat) e (he : q[j]? = some e) => pair_range (e0 := ⟨(x, y), [], -1, 0⟩) H H hx hy B he
  have inner : ∀ (n0 i : Nat) (e : Ent (Int × Int)) (q : List (Ent (Int × Int))) (σ : List Bool), q[i]? = some e → BInv (d2 N N) L.toNat ⟨(x, y), [], -1, 0⟩ q i 0 → SeenOk F.length F.length q σ →
      ∃ q' σ', minimize_distinguish.l2 k n0 k (F.length : Int) (i : Int) e.x.1 e.x.2 0 L s F N σ (q.map (stp F.length)) = minimize_distinguish.l0 k n0 (F.length : Int) ((i + 1 : Nat) : Int) L s F N σ' (q'.map (stp F.length)) ∧
        BInv (d2 N N) L.toNat ⟨(x, y), [], -1, 0⟩ q' (i + 1) 0 ∧ SeenOk F.length F.length q' σ' ∧ ∀ (j : Nat) f, j ≤ i → q'[j]? = some f → q[j]? = some f := by
    intro n0 i e q σ he B V
    refine wh (f := fun n (st : Nat × List (Ent (Int × Int)) × List Bool) => minimize_distinguish.l2 k n0 n (F.length : Int) (i : Int) e.x.1 e.x.2 (st.1 : Int) L s F N st.2.2 (st.2.1.map (stp F.length)))
      (fun st => BInv (d2 N N) L.toNat ⟨(x, y), [], -1, 0⟩ st.2.1 i st.1 ∧ SeenOk F.length F.length st.2.1 st.2.2 ∧ st.1 ≤ L.toNat ∧ st.2.1[i]? = some e ∧ ∀ (j : Nat) f, j ≤ i → st.2.1[j]? = some f → q[j]? = some f) (fun st => L.toNat - st.1)
      (fun z => ∃ q' σ', z = minimize_distinguish.l0 k n0 (F.length : Int) ((i + 1 : Nat) : Int) L s F N σ' (q'.map (stp F.length)) ∧ BInv (d2 N N) L.toNat ⟨(x, y), [], -1, 0⟩ q' (i + 1) 0 ∧ SeenOk F.length F.length q' σ' ∧ ∀ (j : Nat) f, j ≤ i → q'[j]? = some f → q[j]? = some f)
      ?_ k (0, q, σ) (by dsimp only; omega) ⟨B, V, by dsimp only; omega, he, fun j f _ h => h⟩
    rintro n ⟨a, q1, σ1⟩ ⟨B1, V1, ha, he1, hk1⟩
    dsimp only at *
    have hc := hcnt q1 i a B1
    have hr := hpr q1 i a B1 i e he1
    have r1 := hr.1.1; have r2 := hr.1.2; have r3 := hr.2.1; have r4 := hr.2.2
    have hil := (List.getElem?_eq_some_iff.1 he1).1
    have hVl := V1.len
    by_cases h : a < L.toNat
    · right
      have z1 := H.dl_range r1 r2 h; have z2 := H.dl_range r3 r4 h
      have hl1 := H.rowlen r1 r2; have hl2 := H.rowlen r3 r4
      have ez1 : (N.getD e.x.1.toNat []).getD a 0 = dl N e.x.1 a := rfl
      have ez2 : (N.getD e.x.2.toNat []).getD a 0 = dl N e.x.2 a := rfl
      have hcr := code_range (x := d2 N N e.x a) z1 z2
      have ec : dl N e.x.1 a * (F.length : Int) + dl N e.x.2 a = code F.length (d2 N N e.x a) := rfl
      have hm0 : 0 ≤ dl N e.x.1 a * (F.length : Int) := Int.mul_nonneg z1.1 (by omega)
      by_cases hm : ∃ f ∈ q1, f.x = d2 N N e.x a
      · obtain ⟨f, hf, hx⟩ := hm
        have hs := V1.yes f hf
        rw [hx] at hs
        refine ⟨(a + 1, q1, σ1), ⟨B1.old he1 hf hx, V1, by dsimp only; omega, he1, hk1⟩, by dsimp only; omega, ?_⟩
        rw [minimize_distinguish.l2_succ, getD_nat, getD_nat, ez1, ez2, wrap_i64 (n := dl N e.x.1 a * (F.length : Int)) (by omega) (by omega), ec, wrap_i64 (n := code _ _) (by omega) (by omega), hs]
        (repeat (first | rw [if_pos (by omega)] | rw [decide_eq_true (by omega), cond_true] | rw [decide_eq_false (by omega), cond_false]))
        rw [Bool.not_true, cond_false, wrap_succ (by omega)]
      · have hn : ∀ f ∈ q1, f.x ≠ d2 N N e.x a := fun f hf hx => hm ⟨f, hf, hx⟩
        have hs := V1.no (d2 N N e.x a) z1 z2 hn
        refine ⟨(a + 1, q1 ++ [⟨d2 N N e.x a, e.w ++ [a], i, a⟩], σ1.set (code F.length (d2 N N e.x a)).toNat true), ⟨B1.new he1 h hn, V1.push (e := ⟨d2 N N e.x a, e.w ++ [a], i, a⟩) z1 z2, by dsimp only; omega, ?_, ?_⟩, by dsimp only; omega, ?_⟩
        · dsimp only; rw [List.getElem?_append_left hil]; exact he1
        · intro j f hj hf
          dsimp only at hf
          rw [List.getElem?_append_left (by omega)] at hf
          exact hk1 j f hj hf
        · rw [minimize_distinguish.l2_succ, getD_nat, getD_nat, ez1, ez2, wrap_i64 (n := dl N e.x.1 a * (F.length : Int)) (by omega) (by omega), ec, wrap_i64 (n := code _ _) (by omega) (by omega), hs]
          simp only [List.length_map, List.length_singleton, List.map_append, List.map_cons, List.map_nil]
          (repeat (first | rw [if_pos (by omega)] | rw [decide_eq_true (by omega), cond_true] | rw [decide_eq_false (by omega), cond_false]))
          rw [Bool.not_false, cond_true]
          (repeat (first | rw [if_pos (by omega)] | rw [decide_eq_true (by omega), cond_true] | rw [decide_eq_false (by omega), cond_false]))
          rw [wrap_succ (by omega)]; rfl
    · left
      obtain rfl : a = L.toNat := by omega
      exact ⟨q1, σ1, by rw [minimize_distinguish.l2_succ, decide_eq_false (by omega), cond_false, minimize_distinguish.j3_eq, wrap_succ (by omega)], B1.next hil, V1, hk1⟩
  have main := wh (f := fun n (st : Nat × List (Ent (Int × Int)) × List Bool) => minimize_distinguish.l0 k n (F.length : Int) (st.1 : Int) L s F N st.2.2 (st.2.1.map (stp F.length)))
    (fun st => BInv (d2 N N) L.toNat ⟨(x, y), [], -1, 0⟩ st.2.1 st.1 0 ∧ SeenOk F.length F.length st.2.1 st.2.2 ∧ ∀ (j : Nat) f, j < st.1 → st.2.1[j]? = some f → ¬ Tells F F f.x) (fun st => F.length * F.length - st.1)
    (fun z => ∃ r, z = some r ∧ Least L F F N N x y r) (by
      rintro n ⟨i, q, σ⟩ ⟨B, V, hj⟩
      dsimp only at *
      have hc := hcnt q i 0 B
      have hi := B.hi
      by_cases h : i < q.length
      · have he : q[i]? = some q[i] := List.getElem?_eq_getElem h
        have hr := hpr q i 0 B i _ he
        have r1 := hr.1.1; have r2 := hr.1.2; have r3 := hr.2.1; have r4 := hr.2.2
        have hd := code_div r1 hr.2
        have eo : (q.map (stp F.length)).getD i (0, (0, (0, ()))) = stp F.length q[i] := by simp [h]
        have step : minimize_distinguish.l0 k (n + 1) (F.length : Int) (i : Int) L s F N σ (q.map (stp F.length)) = cond (!(fin F q[i].x.1 == fin F q[i].x.2)) (minimize_distinguish.l1 k n k (i : Int) (q.map (stp F.length)) []) (minimize_distinguish.l2 k n k (F.length : Int) (i : Int) q[i].x.1 q[i].x.2 0 L s F N σ (q.map (stp F.length))) := by
          rw [minimize_distinguish.l0_succ, getD_nat, eo, List.length_map]
          rw [show (stp F.length q[i]).1 = code F.length q[i].x from rfl, hd.1, hd.2, wrap_i64 (n := q[i].x.1) (by omega) (by omega)]
          (repeat (first | rw [if_pos (by omega)] | rw [decide_eq_true (by omega), cond_true] | rw [decide_eq_false (by omega), cond_false]))
          rw [minimize_distinguish.j0_eq]; rfl
        by_cases ht : Tells F F q[i].x
        · left
          refine ⟨(wordOf q[i].w, true), ?_, .inl ⟨q[i].w, rfl, (B.sound i _ he).2, ?_, fun v hv hne => ?_⟩⟩
          · have hbytes : ∀ z ∈ q[i].w.reverse.map (fun (a : Nat) => 97 + (a : Int)), 0 ≤ z ∧ z < 256 := fun z hz => by
              obtain ⟨b, hb, rfl⟩ := List.mem_map.1 hz
              have := (B.sound i _ he).2 b (List.mem_reverse.1 hb)
              omega
            have hwl := B.wlen i _ he
            rw [step, show (fin F q[i].x.1 == fin F q[i].x.2) = false from beq_eq_false_iff_ne.2 ht, Bool.not_false, cond_true, minimize_distinguish_l1 B rfl h6 (by omega) i k _ [] (by omega) he (by simp; omega), minimize_distinguish.j2_eq, List.nil_append,
              word_Reverse_ok _ hbytes (by simp; omega) hk, Option.bind_some, ← List.map_reverse, List.reverse_reverse]; rfl
          · have := (B.sound i _ he).1
            rw [rn_d2] at this
            have h7 := congrArg Prod.fst this; have h8 := congrArg Prod.snd this
            dsimp only at h7 h8
            rw [h7, h8]; exact ht
          · exact tells_least B he hj hv (by dsimp only; rw [rn_d2]; exact hne)
        · right
          obtain ⟨q', σ', e1, B', V', hk'⟩ := inner n i q[i] q σ he B V
          refine ⟨(i + 1, q', σ'), ⟨B', V', ?_⟩, by dsimp only; omega, ?_⟩
          · intro j f hji hf
            dsimp only at hji hf
            by_cases hji' : j = i
            · subst hji'
              have := hk' j f (by omega) hf
              rw [he] at this; cases this; exact ht
            · exact hj j f (by omega) (hk' j f (by omega) hf)
          · have hb : (fin F q[i].x.1 == fin F q[i].x.2) = true := beq_iff_eq.2 (Decidable.byContradiction ht)
            rw [step, hb, Bool.not_true, cond_false]; exact e1
      · left
        obtain rfl : i = q.length := by omega
        refine ⟨(ByteArray.empty, false), ?_, .inr ⟨rfl, fun v hv => Decidable.byContradiction fun hne => ?_⟩⟩
        · rw [minimize_distinguish.l0_succ, List.length_map, decide_eq_false (by omega), cond_false, minimize_distinguish.j1_eq]
        · exact tells_none B hj hv (by dsimp only; rw [rn_d2]; exact hne))
    k (0, [⟨(x, y), [], -1, 0⟩], (List.replicate (F.length * F.length) false).set (code F.length (x, y)).toNat true) (by dsimp only; omega) ⟨BInv.init rfl, SeenOk.start (e0 := ⟨(x, y), [], -1, 0⟩) hx hy, fun j f hj => by dsimp only at hj; omega⟩
  obtain ⟨r, e, h⟩ := main
  refine ⟨r, ?_, h⟩
  have hcr := code_range (x := (x, y)) hx hy
  have hx1 := hx.1; have hx2 := hx.2; have hy1 := hy.1; have hy2 := hy.2
  have hm0 : 0 ≤ x * (F.length : Int) := Int.mul_nonneg hx1 (by omega)
  have ec : x * (F.length : Int) + y = code F.length (x, y) := rfl
  rw [minimize_distinguish.f_eq, ← Int.natCast_mul, wrap_i64 (n := ((F.length * F.length : Nat) : Int)) (by omega) (by omega), wrap_i64 (n := x * (F.length : Int)) (by omega) (by omega), ec, wrap_i64 (n := code _ _) (by omega) (by omega), Int.toNat_natCast, List.length_replicate]
  (repeat (first | rw [if_pos (by omega)] | rw [decide_eq_true (by omega), cond_true] | rw [decide_eq_false (by omega), cond_false]))
  exact e

/-! ### semigroupref08.Distinguish -/
def pairL (x : Int × Int) : List Int := [x.1, x.2]
theorem mget_pairs (x : Int × Int) : ∀ (q : List (Ent (Int × Int))), mget (q.map fun e => (pairL e.x, true)) (pairL x) = if ∃ e ∈ q, e.x = x then some true else none
  | [] => by simp [mget]
  | e :: q => by
    rw [List.map_cons, mget, mget_pairs x q]
    by_cases h : e.x = x
    · subst h; simp
    · have h' : ¬ pairL x = pairL e.x := fun hh => h (by
        simp only [pairL, List.cons.injEq, and_true] at hh
        exact Prod.ext hh.1.symm hh.2.symm)
      rw [if_neg h']
      congr 1
      simp [h]
theorem semigroupref08_Distinguish_ok {L s : Int} {F : List Bool} {N : List (List Int)} (H : DV L s F N) {x y : Int} (hx : InR F.length x) (hy : InR F.length y) {k : Nat} (hk : 1000001 < k) :
    ∃ r, semigroupref08_Distinguish.f k L s F N x y = some r ∧ Least L F F N N x y r := by
  have h6 := H.l6; have h1 := H.l1; have h5 := H.n5; have hnn := H.nn
  have hsq : F.length * F.length ≤ 512 * 512 := Nat.mul_le_mul h5 h5
  have hcnt := fun (q : List (Ent (Int × Int))) (i a : Nat) (B : BInv (d2 N N) L.toNat ⟨(x, y), [], -1, 0⟩ q i a) => pair_count (e0 := ⟨(x, y), [], -1, 0⟩) H H hx hy B
  have hpr := fun (q : List (Ent (Int × Int))) (i a : Nat) (B : BInv (d2 N N) L.toNat ⟨(x, y), [], -1, 0⟩ q i a) (j : Nat) e (he : q[j]? = some e) => pair_range (e0 := ⟨(x, y), [], -1, 0⟩) H H hx hy B he
  have inner : ∀ (n0 i : Nat) (e : Ent (Int × Int)) (q : List (Ent (Int × Int))), q[i]? = some e → BInv (d2 N N) L.toNat ⟨(x, y), [], -1, 0⟩ q i 0 →
      ∃ q', semigroupref08_Distinguish.l1 k n0 k (i : Int) e.x.1 e.x.2 0 L s F N (q.map fun e => pairL e.x) (q.map fun e => wordOf e.w) (q.map fun e => (pairL e.x, true)) = semigroupref08_Distinguish.l0 k n0 ((i + 1 : Nat) : Int) L s F N (q'.map fun e => pairL e.x) (q'.map fun e => wordOf e.w) (q'.map fun e => (pairL e.x, true)) ∧
        BInv (d2 N N) L.toNat ⟨(x, y), [], -1, 0⟩ q' (i + 1) 0 ∧ ∀ (j : Nat) f, j ≤ i → q'[j]? = some f → q[j]? = some f := by
    intro n0 i e q he B
    refine wh (f := fun n (st : Nat × List (Ent (Int × Int))) => semigroupref08_Distinguish.l1 k n0 n (i : Int) e.x.1 e.x.2 (st.1 : Int) L s F N (st.2.map fun e => pairL e.x) (st.2.map fun e => wordOf e.w) (st.2.map fun e => (pairL e.x, true)))
      (fun st => BInv (d2 N N) L.toNat ⟨(x, y), [], -1, 0⟩ st.2 i st.1 ∧ st.1 ≤ L.toNat ∧ st.2[i]? = some e ∧ ∀ (j : Nat) f, j ≤ i → st.2[j]? = some f → q[j]? = some f) (fun st => L.toNat - st.1)
      (fun z => ∃ q', z = semigroupref08_Distinguish.l0 k n0 ((i + 1 : Nat) : Int) L s F N (q'.map fun e => pairL e.x) (q'.map fun e => wordOf e.w) (q'.map fun e => (pairL e.x, true)) ∧ BInv (d2 N N) L.toNat ⟨(x, y), [], -1, 0⟩ q' (i + 1) 0 ∧ ∀ (j : Nat) f, j ≤ i → q'[j]? = some f → q[j]? = some f)
      ?_ k (0, q) (by dsimp only; omega) ⟨B, by dsimp only; omega, he, fun j f _ h => h⟩
    rintro n ⟨a, q1⟩ ⟨B1, ha, he1, hk1⟩
    dsimp only at *
    have hc := hcnt q1 i a B1
    have hr := hpr q1 i a B1 i e he1
    have r1 := hr.1.1; have r2 := hr.1.2; have r3 := hr.2.1; have r4 := hr.2.2
    have hil := (List.getElem?_eq_some_iff.1 he1).1
    have hwl := B1.wlen i e he1
    have ew : (q1.map fun e => wordOf e.w).getD i ByteArray.empty = wordOf e.w := by simp [he1]
    by_cases h : a < L.toNat
    · right
      have hl1 := H.rowlen r1 r2; have hl2 := H.rowlen r3 r4
      have ez1 : (N.getD e.x.1.toNat []).getD a 0 = dl N e.x.1 a := rfl
      have ez2 : (N.getD e.x.2.toNat []).getD a 0 = dl N e.x.2 a := rfl
      have hg := mget_pairs (d2 N N e.x a) q1
      have ep : [dl N e.x.1 a, dl N e.x.2 a] = pairL (d2 N N e.x a) := rfl
      by_cases hm : ∃ f ∈ q1, f.x = d2 N N e.x a
      · rw [if_pos hm] at hg
        obtain ⟨f, hf, hx⟩ := hm
        refine ⟨(a + 1, q1), ⟨B1.old he1 hf hx, by dsimp only; omega, he1, hk1⟩, by dsimp only; omega, ?_⟩
        rw [semigroupref08_Distinguish.l1_succ, getD_nat, getD_nat, ez1, ez2, ep, hg, Option.getD_some]
        (repeat (first | rw [if_pos (by omega)] | rw [decide_eq_true (by omega), cond_true] | rw [decide_eq_false (by omega), cond_false]))
        rw [Bool.not_true, cond_false, wrap_succ (by omega)]
      · rw [if_neg hm] at hg
        have hn : ∀ f ∈ q1, f.x ≠ d2 N N e.x a := fun f hf hx => hm ⟨f, hf, hx⟩
        refine ⟨(a + 1, q1 ++ [⟨d2 N N e.x a, e.w ++ [a], i, a⟩]), ⟨B1.new he1 h hn, by dsimp only; omega, ?_, ?_⟩, by dsimp only; omega, ?_⟩
        · dsimp only; rw [List.getElem?_append_left hil]; exact he1
        · intro j f hj hf
          dsimp only at hf
          rw [List.getElem?_append_left (by omega)] at hf
          exact hk1 j f hj hf
        · rw [semigroupref08_Distinguish.l1_succ, getD_nat, getD_nat, ez1, ez2, ep, hg, Option.getD_none, getD_nat, ew, wrap_i64 (n := 97 + (a : Int)) (by omega) (by omega), wrap_u8 (by omega) (by omega), mput_snoc hg]
          simp only [List.length_map, List.length_singleton, List.map_append, List.map_cons, List.map_nil, wordOf_size, strOf_size]
          (repeat (first | rw [if_pos (by omega)] | rw [decide_eq_true (by omega), cond_true] | rw [decide_eq_false (by omega), cond_false]))
          rw [Bool.not_false, cond_true]
          (repeat (first | rw [if_pos (by omega)] | rw [decide_eq_true (by omega), cond_true] | rw [decide_eq_false (by omega), cond_false]))
          rw [wrap_succ (by omega), wordOf_snoc]
    · left
      obtain rfl : a = L.toNat := by omega
      exact ⟨q1, by rw [semigroupref08_Distinguish.l1_succ, decide_eq_false (by omega), cond_false, semigroupref08_Distinguish.j1_eq, wrap_succ (by omega)], B1.next hil, hk1⟩
  have main := wh (f := fun n (st : Nat × List (Ent (Int × Int))) => semigroupref08_Distinguish.l0 k n (st.1 : Int) L s F N (st.2.map fun e => pairL e.x) (st.2.map fun e => wordOf e.w) (st.2.map fun e => (pairL e.x, true)))
    (fun st => BInv (d2 N N) L.toNat ⟨(x, y), [], -1, 0⟩ st.2 st.1 0 ∧ ∀ (j : Nat) f, j < st.1 → st.2[j]? = some f → ¬ Tells F F f.x) (fun st => F.length * F.length - st.1)
    (fun z => ∃ r, z = some r ∧ Least L F F N N x y r) (by
      rintro n ⟨i, q⟩ ⟨B, hj⟩
      dsimp only at *
      have hc := hcnt q i 0 B
      have hi := B.hi
      by_cases h : i < q.length
      · have he : q[i]? = some q[i] := List.getElem?_eq_getElem h
        have hr := hpr q i 0 B i _ he
        have r1 := hr.1.1; have r2 := hr.1.2; have r3 := hr.2.1; have r4 := hr.2.2
        have e1 : ((q.map fun e => pairL e.x).getD i (List.replicate 2 0)).getD 0 0 = q[i].x.1 := by simp [h, pairL]
        have e2 : ((q.map fun e => pairL e.x).getD i (List.replicate 2 0)).getD 1 0 = q[i].x.2 := by simp [h, pairL]
        have ew : (q.map fun e => wordOf e.w).getD i ByteArray.empty = wordOf q[i].w := by simp [h]
        have step : semigroupref08_Distinguish.l0 k (n + 1) (i : Int) L s F N (q.map fun e => pairL e.x) (q.map fun e => wordOf e.w) (q.map fun e => (pairL e.x, true)) = cond (!(fin F q[i].x.1 == fin F q[i].x.2)) (some (wordOf q[i].w, true)) (semigroupref08_Distinguish.l1 k n k (i : Int) q[i].x.1 q[i].x.2 0 L s F N (q.map fun e => pairL e.x) (q.map fun e => wordOf e.w) (q.map fun e => (pairL e.x, true))) := by
          rw [semigroupref08_Distinguish.l0_succ, Int.toNat_natCast, e1, e2, ew, List.length_map, List.length_map]
          (repeat (first | rw [if_pos (by omega)] | rw [decide_eq_true (by omega), cond_true] | rw [decide_eq_false (by omega), cond_false]))
          rfl
        by_cases ht : Tells F F q[i].x
        · left
          refine ⟨(wordOf q[i].w, true), ?_, .inl ⟨q[i].w, rfl, (B.sound i _ he).2, ?_, fun v hv hne => ?_⟩⟩
          · rw [step, show (fin F q[i].x.1 == fin F q[i].x.2) = false from beq_eq_false_iff_ne.2 ht, Bool.not_false, cond_true]
          · have := (B.sound i _ he).1
            rw [rn_d2] at this
            have h7 := congrArg Prod.fst this; have h8 := congrArg Prod.snd this
            dsimp only at h7 h8
            rw [h7, h8]; exact ht
          · exact tells_least B he hj hv (by dsimp only; rw [rn_d2]; exact hne)
        · right
          obtain ⟨q', e1, B', hk'⟩ := inner n i q[i] q he B
          refine ⟨(i + 1, q'), ⟨B', ?_⟩, by dsimp only; omega, ?_⟩
          · intro j f hji hf
            dsimp only at hji hf
            by_cases hji' : j = i
            · subst hji'
              have := hk' j f (by omega) hf
              rw [he] at this; cases this; exact ht
            · exact hj j f (by omega) (hk' j f (by omega) hf)
          · have hb : (fin F q[i].x.1 == fin F q[i].x.2) = true := beq_iff_eq.2 (Decidable.byContradiction ht)
            rw [step, hb, Bool.not_true, cond_false]; exact e1
      · left
        obtain rfl : i = q.length := by omega
        refine ⟨(ByteArray.empty, false), ?_, .inr ⟨rfl, fun v hv => Decidable.byContradiction fun hne => ?_⟩⟩
        · rw [semigroupref08_Distinguish.l0_succ, List.length_map, decide_eq_false (by omega), cond_false, semigroupref08_Distinguish.j0_eq]
        · exact tells_none B hj hv (by dsimp only; rw [rn_d2]; exact hne))
    k (0, [⟨(x, y), [], -1, 0⟩]) (by dsimp only; omega) ⟨BInv.init rfl, fun j f hj => by dsimp only at hj; omega⟩
  obtain ⟨r, e, h⟩ := main
  refine ⟨r, ?_, h⟩
  rw [semigroupref08_Distinguish.f_eq]
  exact e

/-! ### minimize.Distinguish -/
theorem minimize_Distinguish_ok {L s : Int} {F : List Bool} {N : List (List Int)} (H : DV L s F N) {x y : Int} (hx : InR F.length x) (hy : InR F.length y) {k : Nat} (hk : 1000001 < k) :
    ∃ r, minimize_Distinguish.f k L s F N x y = some r ∧ Least L F F N N x y r := by
  obtain ⟨r, e, h⟩ := minimize_distinguish_ok H hx hy hk
  have a1 := hx.1; have a2 := hx.2; have a3 := hy.1; have a4 := hy.2
  refine ⟨r, ?_, h⟩
  rw [minimize_Distinguish.f_eq, dfa_Validate_ok _ _ _ _ (by omega), dfaE_zero.2 H, Option.bind_some, show ((0 : Int) != 0) = false from rfl, cond_false]
  (repeat (first | rw [if_pos (by omega)] | rw [decide_eq_true (by omega), cond_true] | rw [decide_eq_false (by omega), cond_false]))
  rw [e]; rfl
theorem minimize_Distinguish_no {L s : Int} {F : List Bool} {N : List (List Int)} (H : DV L s F N) {x y : Int} (hn : ¬ (InR F.length x ∧ InR F.length y)) {k : Nat} (hk : 1000001 < k) : minimize_Distinguish.f k L s F N x y = some (ByteArray.empty, false) := by
  rw [minimize_Distinguish.f_eq, dfa_Validate_ok _ _ _ _ (by omega), dfaE_zero.2 H, Option.bind_some, show ((0 : Int) != 0) = false from rfl, cond_false]
  by_cases h1 : x < 0
  · rw [decide_eq_true h1, cond_true]
  by_cases h2 : x ≥ F.length
  · rw [decide_eq_false h1, cond_false, decide_eq_true h2, cond_true]
  by_cases h3 : y < 0
  · rw [decide_eq_false h1, cond_false, decide_eq_false h2, cond_false, decide_eq_true h3, cond_true]
  by_cases h4 : y ≥ F.length
  · rw [decide_eq_false h1, cond_false, decide_eq_false h2, cond_false, decide_eq_false h3, cond_false, decide_eq_true h4, cond_true]
  exact absurd ⟨⟨by omega, by omega⟩, ⟨by omega, by omega⟩⟩ hn
theorem minimize_Distinguish_bad {L s : Int} {F : List Bool} {N : List (List Int)} (H : ¬ DV L s F N) {x y : Int} {k : Nat} (hk : 1000001 < k) : minimize_Distinguish.f k L s F N x y = some (ByteArray.empty, false) := by
  rw [minimize_Distinguish.f_eq, dfa_Validate_ok _ _ _ _ (by omega), Option.bind_some, show (dfaE L s F N != 0) = true from bne_iff_ne.2 (fun h => H (dfaE_zero.1 h)), cond_true]

end Go.Proofs.Yteblfhhhbfodgaa.Sim
