-- Plain proofs over the functions (texts of wip/sim/pure, expanded by macros.py).
import Derived.Test.YteblfhhhbfodgaaP1
set_option linter.unusedVariables false
set_option linter.unusedSimpArgs false
namespace Go.Proofs.Yteblfhhhbfodgaa.Sim
open Go
/-! ### minimize.classes -/
theorem fill_same {α : Type} (ys : List α) (z : α) {i : Nat} (h : i < ys.length) (e : ys[i] = z) : fillAt ys z (i + 1) = fillAt ys z i := by
  have h1 := fill_step ys z z h e
  rw [← h1]
  apply List.ext_getElem
  · simp
  · intro j h2 h3
    rw [List.getElem_set]
    split
    · rename_i hij; subst hij
      simp only [fillAt]
      rw [List.getElem_append_right (by simp; omega)]; simp
    · rfl
def finN (F : List Bool) : List Int := F.map fun b => cond b 1 0
theorem Ref.start {L : Int} {F : List Bool} {N : List (List Int)} : Ref L F N (canL (finN F)) := Ref.first (by simp [finN]) (fun i hi => by simp [finN])
def sigOf (L : Int) (N : List (List Int)) (p : List Int) (x : Int) : List Int := (cls p x :: (List.range L.toNat).map fun a => cls p (dl N x a)) ++ List.replicate (6 - L.toNat) 0
def sigs (L : Int) (F : List Bool) (N : List (List Int)) (p : List Int) : List (List Int) := (List.range F.length).map fun (i : Nat) => sigOf L N p (i : Int)
theorem sigs_fine {L s : Int} {F : List Bool} {N : List (List Int)} {p : List Int} (H : DV L s F N) : Fine L F N p (canL (sigs L F N p)) where
  len := by simp [canL_length, sigs]
  can := (canL_idem _).1
  iff := fun x y hx hy => by
    have h1 := hx.1; have h2 := hx.2; have h3 := hy.1; have h4 := hy.2
    have hl : (sigs L F N p).length = F.length := by simp [sigs]
    rw [cls_canL (by rw [hl]; exact hx) (by rw [hl]; exact hy)]
    simp only [sigs, List.getElem_map, List.getElem_range, sigOf, List.append_cancel_right_eq, List.cons.injEq]
    rw [show ((x.toNat : Nat) : Int) = x by omega, show ((y.toNat : Nat) : Int) = y by omega, List.map_inj_left]
    simp only [List.mem_range]
theorem minimize_classes_l3 {L s : Int} {F : List Bool} {N : List (List Int)} (H : DV L s F N) {k n0 n1 : Nat} {v3 v39 : Int} {p : List Int} (hp : p.length = F.length) {o2 : List (List Int × Int)} {o3 : List Int} {i : Nat} (hi : i < F.length) : ∀ n, L.toNat < n →
    minimize_classes.l3 k n0 n1 n v3 (i : Int) v39 (i : Int) (N.getD i []) L 0 L s F N p o2 o3 ((List.replicate 7 (0 : Int)).set 0 (p.getD i 0)) = minimize_classes.j2 k n0 n1 v3 (i : Int) v39 (i : Int) L s F N p o2 o3 (sigOf L N p i) := by
  intro n hn
  have h6 := H.l6; have h1 := H.l1; have h5 := H.n5
  have hrl := H.rowlen (q := i) (by omega) (by omega)
  rw [Int.toNat_natCast] at hrl
  have hsl : (sigOf L N p i).length = 7 := by simp [sigOf]; omega
  have e0 : (List.replicate 7 (0 : Int)).set 0 (p.getD i 0) = fillAt (sigOf L N p i) 0 1 := by
    have := fill_step (sigOf L N p i) 0 (p.getD i 0) (i := 0) (by omega) (by simp [sigOf, cls])
    rw [← this, fillAt_zero, hsl]
  have e1 : fillAt (sigOf L N p i) 0 (L.toNat + 1) = sigOf L N p i := by
    unfold fillAt
    rw [hsl]
    conv => rhs; rw [← List.take_append_drop (L.toNat + 1) (sigOf L N p i)]
    congr 1
    unfold sigOf
    rw [List.drop_append, List.drop_of_length_le (by simp), List.nil_append]
    simp
  rw [e0]
  have := upc (f := fun n a => minimize_classes.l3 k n0 n1 n v3 (i : Int) v39 (i : Int) (N.getD i []) L (a : Int) L s F N p o2 o3 (fillAt (sigOf L N p i) 0 (a + 1))) (len := L.toNat) (r := minimize_classes.j2 k n0 n1 v3 (i : Int) v39 (i : Int) L s F N p o2 o3 (sigOf L N p i))
    (fun n => by rw [minimize_classes.l3_succ, decide_eq_false (by omega), cond_false, e1])
    (fun a ha n => by
      have hz := H.dl_range (q := i) (by omega) (by omega) ha
      have ez : (N.getD i []).getD a 0 = dl N i a := by simp [dl]
      rw [minimize_classes.l3_succ, getD_nat, ez, wrap_succ (by omega)]
      (repeat (first | rw [if_pos (by omega)] | rw [decide_eq_true (by omega), cond_true] | rw [decide_eq_false (by omega), cond_false]))
      rw [set_nat, show p.getD (dl N (i : Int) a).toNat 0 = cls p (dl N i a) from rfl, fill_step (sigOf L N p i) 0 _ (by omega) (by simp only [sigOf]; rw [List.getElem_append_left (by simp; omega)]; simp)]) n hn
  exact this
theorem minimize_classes_l2 {L s : Int} {F : List Bool} {N : List (List Int)} (H : DV L s F N) {k n0 : Nat} (hk : 600 < k) {p : List Int} (hp : p.length = F.length) : ∀ n, F.length < n →
    minimize_classes.l2 k n0 n (F.length : Int) (F.length : Int) 0 L s F N p [] (List.replicate F.length (0 : Int)) = minimize_classes.j1 k n0 (F.length : Int) L s F N p (numE (ordA [] (sigs L F N p))) (canL (sigs L F N p)) := by
  intro n hn
  have h6 := H.l6; have h1 := H.l1; have h5 := H.n5; have hnn := H.nn
  have hl : (sigs L F N p).length = F.length := by simp [sigs]
  have := upc (f := fun n i => minimize_classes.l2 k n0 n (F.length : Int) (F.length : Int) (i : Int) L s F N p (numE (ordA [] ((sigs L F N p).take i))) (fillAt (canL (sigs L F N p)) 0 i)) (len := F.length) (r := minimize_classes.j1 k n0 (F.length : Int) L s F N p (numE (ordA [] (sigs L F N p))) (canL (sigs L F N p)))
    (fun n => by rw [minimize_classes.l2_succ, decide_eq_false (by omega), cond_false, ← hl, List.take_length, ← canL_length (sigs L F N p), fillAt_all, canL_length])
    (fun i hi n => by
      have hf := fill_len (sigs L F N p) (i := i) (by omega)
      have hrl := H.rowlen (q := i) (by omega) (by omega)
      rw [Int.toNat_natCast] at hrl
      have hs : sigOf L N p i = (sigs L F N p)[i]'(by omega) := by simp [sigs]
      rw [minimize_classes.l2_succ, getD_nat, getD_nat, hrl, show ((L.toNat : Nat) : Int) = L by omega, show (0 : Int).toNat = 0 from rfl]
      (repeat (first | rw [if_pos (by omega)] | rw [decide_eq_true (by omega), cond_true] | rw [decide_eq_false (by omega), cond_false]))
      rw [minimize_classes_l3 H hp hi k (by omega), minimize_classes.j2_eq, hs]
      by_cases hm : (sigs L F N p)[i]'(by omega) ∈ ordA [] ((sigs L F N p).take i)
      · obtain ⟨e1, e2⟩ := num_old (by omega) hm
        rw [mhas_numE hm, Bool.not_true, cond_false, mgetD_numE hm, minimize_classes.j3_eq]
        (repeat (first | rw [if_pos (by omega)] | rw [decide_eq_true (by omega), cond_true] | rw [decide_eq_false (by omega), cond_false]))
        rw [minimize_classes.j4_eq, wrap_succ (by omega), set_nat, num_fill _ i (by omega) _ e2, e1]
      · obtain ⟨e1, e2⟩ := num_new (by omega) hm
        rw [mhas_numE' hm, Bool.not_false, cond_true, numE_length, mput_numE hm, minimize_classes.j3_eq]
        (repeat (first | rw [if_pos (by omega)] | rw [decide_eq_true (by omega), cond_true] | rw [decide_eq_false (by omega), cond_false]))
        rw [minimize_classes.j4_eq, wrap_succ (by omega), set_nat, num_fill _ i (by omega) _ e2, e1]) n hn
  rw [fillAt_zero, canL_length, hl] at this
  exact this
theorem minimize_classes_ok {L s : Int} {F : List Bool} {N : List (List Int)} (H : DV L s F N) {k : Nat} (hk : 5000 < k) : ∃ p, minimize_classes.f k L s F N = some p ∧ Cls L F N p := by
  have h6 := H.l6; have h1 := H.l1; have h5 := H.n5; have hnn := H.nn
  have main := wh (f := fun n (p : List Int) => minimize_classes.l1 k n (F.length : Int) L s F N p) (fun p => Ref L F N p) (fun p => F.length - ncl p) (fun x => ∃ p, x = some p ∧ Cls L F N p) (by
    intro n p R
    have hp := R.len
    have Fi := sigs_fine (p := p) H
    have E := R.end_ H Fi
    have e : minimize_classes.l1 k (n + 1) (F.length : Int) L s F N p = cond ((ncl (sigs L F N p) : Int) == (ncl p : Int)) (some p) (minimize_classes.l1 k n (F.length : Int) L s F N (canL (sigs L F N p))) := by
      rw [minimize_classes.l1_succ, List.length_replicate, Int.toNat_natCast]
      (repeat (first | rw [if_pos (by omega)] | rw [decide_eq_true (by omega), cond_true] | rw [decide_eq_false (by omega), cond_false]))
      rw [minimize_classes_l2 H (by omega) hp k (by omega), minimize_classes.j1_eq, partition_Count_ok p (by omega) R.can hk, Option.bind_some, numE_length]; rfl
    have ei := (canL_idem (sigs L F N p)).2
    by_cases hc : ncl (sigs L F N p) = ncl p
    · left
      exact ⟨p, by rw [e, show ((ncl (sigs L F N p) : Int) == (ncl p : Int)) = true from beq_iff_eq.2 (by omega), cond_true], E.1 (by omega)⟩
    · right
      have hle := ncl_le_length (canL (sigs L F N p))
      rw [Fi.len] at hle
      exact ⟨_, R.next H Fi, by omega, by rw [e, show ((ncl (sigs L F N p) : Int) == (ncl p : Int)) = false from beq_eq_false_iff_ne.2 (by omega), cond_false]⟩) k (canL (finN F)) (by omega) Ref.start
  obtain ⟨p, h, C⟩ := main
  refine ⟨p, ?_, C⟩
  have hfl : (finN F).length = F.length := by simp [finN]
  have init := upc (f := fun n i => minimize_classes.l0 k n (F.length : Int) (F.length : Int) (i : Int) L s F N (fillAt (finN F) 0 i)) (len := F.length) (r := minimize_classes.j0 k (F.length : Int) L s F N (finN F))
    (fun n => by rw [minimize_classes.l0_succ, decide_eq_false (by omega), cond_false, ← hfl, fillAt_all, hfl])
    (fun i hi n => by
      have hf := fillAt_length (finN F) 0 (i := i) (by omega)
      rw [minimize_classes.l0_succ, getD_nat, getD_lt hi]
      (repeat (first | rw [if_pos (by omega)] | rw [decide_eq_true (by omega), cond_true] | rw [decide_eq_false (by omega), cond_false]))
      cases hb : F[i] with
      | true =>
        rw [cond_true]
        (repeat (first | rw [if_pos (by omega)] | rw [decide_eq_true (by omega), cond_true] | rw [decide_eq_false (by omega), cond_false]))
        rw [wrap_succ (by omega), set_nat, fill_step (finN F) 0 1 (by omega) (by simp [finN, hb])]
      | false =>
        rw [cond_false, wrap_succ (by omega), fill_same (finN F) 0 (by omega) (by simp [finN, hb])]) k (by omega)
  rw [fillAt_zero, hfl] at init
  rw [minimize_classes.f_eq, List.length_replicate, Int.toNat_natCast]
  (repeat (first | rw [if_pos (by omega)] | rw [decide_eq_true (by omega), cond_true] | rw [decide_eq_false (by omega), cond_false]))
  refine Eq.trans init ?_
  rw [minimize_classes.j0_eq, partition_Canonical_ok _ (by omega) (by omega), Option.bind_some, h]

/-! ### semigroupref08.Classes -/
structure FineTo (m : Nat) (F : List Bool) (N : List (List Int)) (p q : List Int) : Prop where
  len : q.length = F.length
  can : canL q = q
  iff : ∀ x y, InR F.length x → InR F.length y → (cls q x = cls q y ↔ cls p x = cls p y ∧ ∀ a, a < m → cls p (dl N x a) = cls p (dl N y a))
def succN (n : Nat) (N : List (List Int)) (p : List Int) (a : Nat) : List Int := (List.range n).map fun (i : Nat) => cls p (dl N (i : Int) a)
def bothN (p q : List Int) : List Int := (List.range p.length).map fun i => p.getD i 0 * ((p.length : Int) + 1) + q.getD i 0
theorem cls_range {p : List Int} (hc : canL p = p) {x : Int} (hx : InR p.length x) : 0 ≤ cls p x ∧ cls p x < p.length := by
  have h1 := hx.1; have h2 := hx.2
  have e : cls p x = p[x.toNat]'(by omega) := by unfold cls; simp [show x.toNat < p.length by omega]
  have := canL_range p _ (by rw [hc]; exact List.getElem_mem (show x.toNat < p.length by omega))
  have := ncl_le_length p
  rw [e]; omega
theorem mem_range {p : List Int} (hc : canL p = p) {x : Int} (hx : x ∈ p) : 0 ≤ x ∧ x < p.length := by
  have := canL_range p x (by rw [hc]; exact hx)
  have := ncl_le_length p
  omega
theorem FineTo.next {L s : Int} {F : List Bool} {N : List (List Int)} {p q : List Int} (H : DV L s F N) (hp : p.length = F.length) (hc : canL p = p) {m : Nat} (hm : m < L.toNat) (T : FineTo m F N p q) : FineTo (m + 1) F N p (canL (bothN q (succN F.length N p m))) where
  len := by simp [canL_length, bothN, T.len]
  can := (canL_idem _).1
  iff := fun x y hx hy => by
    have h1 := hx.1; have h2 := hx.2; have h3 := hy.1; have h4 := hy.2; have hq := T.len
    have hl : (bothN q (succN F.length N p m)).length = F.length := by simp [bothN, T.len]
    rw [cls_canL (by rw [hl]; exact hx) (by rw [hl]; exact hy)]
    have val : ∀ z, InR F.length z → ∀ hz, (bothN q (succN F.length N p m))[z.toNat]'hz = cls q z * ((F.length : Int) + 1) + cls p (dl N z m) := fun z hz hz' => by
      have a1 := hz.1; have a2 := hz.2
      simp only [bothN, List.getElem_map, List.getElem_range, succN, hq]
      rw [getD_lt (l := List.map _ _) (by simp; omega)]
      simp only [List.getElem_map, List.getElem_range]
      rw [show ((z.toNat : Nat) : Int) = z by omega]; rfl
    rw [val x hx, val y hy]
    have b1 := cls_range T.can (x := x) (by rw [hq]; exact hx); have b2 := cls_range T.can (x := y) (by rw [hq]; exact hy)
    have dx := H.dl_range h1 h2 hm; have dy := H.dl_range h3 h4 hm
    have c1 := cls_range hc (x := dl N x m) (by rw [hp]; exact dx); have c2 := cls_range hc (x := dl N y m) (by rw [hp]; exact dy)
    rw [hp] at c1 c2
    have key : cls q x * ((F.length : Int) + 1) + cls p (dl N x m) = cls q y * ((F.length : Int) + 1) + cls p (dl N y m) ↔ cls q x = cls q y ∧ cls p (dl N x m) = cls p (dl N y m) := by
      constructor
      · intro e
        have e1 := congrArg (· / ((F.length : Int) + 1)) e
        rw [Int.add_comm, Int.add_mul_ediv_right _ _ (by omega), Int.add_comm (cls q y * _), Int.add_mul_ediv_right _ _ (by omega), Int.ediv_eq_zero_of_lt c1.1 (by omega), Int.ediv_eq_zero_of_lt c2.1 (by omega)] at e1
        have e2 : cls q x = cls q y := by omega
        rw [e2] at e
        exact ⟨e2, by omega⟩
      · rintro ⟨e1, e2⟩; rw [e1, e2]
    rw [key, T.iff x y hx hy]
    constructor
    · rintro ⟨⟨g1, g2⟩, g3⟩
      refine ⟨g1, fun a ha => ?_⟩
      by_cases ham : a = m
      · subst ham; exact g3
      · exact g2 a (by omega)
    · rintro ⟨g1, g2⟩
      exact ⟨⟨g1, fun a ha => g2 a (by omega)⟩, g2 m (by omega)⟩
theorem semigroupref08_Classes_l3 {L s : Int} {F : List Bool} {N : List (List Int)} (H : DV L s F N) {k n0 n1 : Nat} {p q : List Int} (hp : p.length = F.length) {a : Nat} (ha : a < L.toNat) : ∀ n, F.length < n →
    semigroupref08_Classes.l3 k n0 n1 n p q (a : Int) (p.length : Int) 0 L s F N [] = semigroupref08_Classes.j2 k n0 n1 p q (a : Int) L s F N (succN F.length N p a) := by
  intro n hn
  have h6 := H.l6; have h1 := H.l1; have h5 := H.n5; have hnn := H.nn
  have := upc (f := fun n i => semigroupref08_Classes.l3 k n0 n1 n p q (a : Int) (p.length : Int) (i : Int) L s F N (succN i N p a)) (len := F.length) (r := semigroupref08_Classes.j2 k n0 n1 p q (a : Int) L s F N (succN F.length N p a))
    (fun n => by rw [semigroupref08_Classes.l3_succ, decide_eq_false (by omega), cond_false])
    (fun i hi n => by
      have hrl := H.rowlen (q := i) (by omega) (by omega)
      have hz := H.dl_range (q := i) (by omega) (by omega) ha
      rw [Int.toNat_natCast] at hrl
      have ez : (N.getD i []).getD a 0 = dl N i a := by simp [dl]
      have hsl : (succN i N p a).length = i := by simp [succN]
      rw [semigroupref08_Classes.l3_succ, getD_nat, getD_nat, ez, hrl, hsl, List.length_singleton]
      (repeat (first | rw [if_pos (by omega)] | rw [decide_eq_true (by omega), cond_true] | rw [decide_eq_false (by omega), cond_false]))
      rw [wrap_succ (by omega), show succN (i + 1) N p a = succN i N p a ++ [p.getD (dl N (i : Int) a).toNat 0] by simp [succN, List.range_succ, cls]]) n hn
  exact this
theorem semigroupref08_Classes_ok {L s : Int} {F : List Bool} {N : List (List Int)} (H : DV L s F N) {k : Nat} (hk : 100001 < k) : ∃ p, semigroupref08_Classes.f k L s F N = some p ∧ Cls L F N p := by
  have h6 := H.l6; have h1 := H.l1; have h5 := H.n5; have hnn := H.nn
  have main := wh (f := fun n (p : List Int) => semigroupref08_Classes.l1 k n p L s F N) (fun p => Ref L F N p) (fun p => F.length - ncl p) (fun x => ∃ p, x = some p ∧ Cls L F N p) (by
    intro n p R
    have hp := R.len
    have inner := wh (f := fun n1 (st : Nat × List Int) => semigroupref08_Classes.l2 k n n1 p st.2 (st.1 : Int) L s F N) (fun st => st.1 ≤ L.toNat ∧ FineTo st.1 F N p st.2) (fun st => L.toNat - st.1) (fun x => ∃ q, x = semigroupref08_Classes.j1 k n p q L s F N ∧ FineTo L.toNat F N p q) (by
      rintro n1 ⟨a, q⟩ ⟨ha, T⟩
      dsimp only at *
      have hq := T.len
      by_cases h : a < L.toNat
      · right
        refine ⟨(a + 1, canL (bothN q (succN F.length N p a))), ⟨by dsimp only; omega, T.next H hp R.can h⟩, by dsimp only; omega, ?_⟩
        rw [semigroupref08_Classes.l2_succ]
        (repeat (first | rw [if_pos (by omega)] | rw [decide_eq_true (by omega), cond_true] | rw [decide_eq_false (by omega), cond_false]))
        rw [semigroupref08_Classes_l3 H hp h k (by omega), semigroupref08_Classes.j2_eq, semigroupref08_both_ok q _ (by omega) (by simp [succN, hq])
          (fun x hx => by have := mem_range T.can hx; omega)
          (fun x hx => by
            obtain ⟨i, hi, rfl⟩ := List.mem_map.1 hx
            have := cls_range R.can (x := dl N (i : Int) a) (by rw [hp]; exact H.dl_range (by omega) (by have := List.mem_range.1 hi; omega) h)
            omega) (by omega), Option.bind_some, semigroupref08_Classes.j3_eq, wrap_succ (by omega)]
        rfl
      · left
        obtain rfl : a = L.toNat := by omega
        exact ⟨q, by rw [semigroupref08_Classes.l2_succ, decide_eq_false (by omega), cond_false], T⟩)
      k (0, p) (by dsimp only; omega) ⟨by dsimp only; omega, R.len, R.can, fun x y _ _ => ⟨fun e => ⟨e, fun a ha => by omega⟩, fun e => e.1⟩⟩
    obtain ⟨q, e, T⟩ := inner
    have Fi : Fine L F N p q := ⟨T.len, T.can, T.iff⟩
    have hq := T.len
    have E := R.end_ H Fi
    have e2 : semigroupref08_Classes.l1 k (n + 1) p L s F N = cond (decide (q = p)) (some p) (semigroupref08_Classes.l1 k n q L s F N) := by
      rw [semigroupref08_Classes.l1_succ]
      refine Eq.trans e ?_
      rw [semigroupref08_Classes.j1_eq, semigroupref03_Same_ok q p (by omega) hk, Option.bind_some]
    by_cases hqp : q = p
    · left
      exact ⟨p, by rw [e2, decide_eq_true hqp, cond_true], E.1 (by rw [hqp])⟩
    · right
      have hle := ncl_le_length q
      have hne : ncl q ≠ ncl p := fun hn => hqp (by
        have C := E.1 hn
        refine canL_ext T.can R.can (by omega) (fun x y hx hy => ?_)
        rw [hq] at hx hy
        rw [T.iff x y hx hy]
        refine ⟨fun h => h.1, fun h => ⟨h, fun a ha => ?_⟩⟩
        exact (C.iff _ _ (H.dl_range hx.1 hx.2 ha) (H.dl_range hy.1 hy.2 ha)).2 (((C.iff x y hx hy).1 h).step ha))
      exact ⟨q, R.next H Fi, by omega, by rw [e2, decide_eq_false hqp, cond_false]⟩) k (canL (finN F)) (by omega) Ref.start
  obtain ⟨p, h, C⟩ := main
  refine ⟨p, ?_, C⟩
  have hfl : (finN F).length = F.length := by simp [finN]
  have init := upc (f := fun n i => semigroupref08_Classes.l0 k n (F.length : Int) (i : Int) L s F N (fillAt (finN F) 0 i)) (len := F.length) (r := semigroupref08_Classes.j0 k L s F N (finN F))
    (fun n => by rw [semigroupref08_Classes.l0_succ, decide_eq_false (by omega), cond_false, ← hfl, fillAt_all])
    (fun i hi n => by
      have hf := fillAt_length (finN F) 0 (i := i) (by omega)
      rw [semigroupref08_Classes.l0_succ, getD_nat, getD_lt hi]
      (repeat (first | rw [if_pos (by omega)] | rw [decide_eq_true (by omega), cond_true] | rw [decide_eq_false (by omega), cond_false]))
      cases hb : F[i] with
      | true =>
        rw [cond_true]
        (repeat (first | rw [if_pos (by omega)] | rw [decide_eq_true (by omega), cond_true] | rw [decide_eq_false (by omega), cond_false]))
        rw [wrap_succ (by omega), set_nat, fill_step (finN F) 0 1 (by omega) (by simp [finN, hb])]
      | false =>
        rw [cond_false, wrap_succ (by omega), fill_same (finN F) 0 (by omega) (by simp [finN, hb])]) k (by omega)
  rw [fillAt_zero, hfl] at init
  rw [semigroupref08_Classes.f_eq, List.length_replicate, Int.toNat_natCast]
  (repeat (first | rw [if_pos (by omega)] | rw [decide_eq_true (by omega), cond_true] | rw [decide_eq_false (by omega), cond_false]))
  refine Eq.trans init ?_
  rw [semigroupref08_Classes.j0_eq, semigroupref08_number_ok _ (by omega) (by omega), Option.bind_some, h]

/-! ### minimize.minimal -/
/-- The automaton of the classes, where the states below i were looked at. -/
structure Part (L : Int) (F : List Bool) (N : List (List Int)) (p : List Int) (i : Nat) (G : List Bool) (M : List (List Int)) : Prop where
  lenG : G.length = ncl p
  lenM : M.length = ncl p
  row : ∀ x : Int, 0 ≤ x → x < i → (M.getD (cls p x).toNat []).length = L.toNat
  fin : ∀ x : Int, 0 ≤ x → x < i → Sim.fin G (cls p x) = Sim.fin F x
  dl : ∀ x : Int, 0 ≤ x → x < i → ∀ a, a < L.toNat → Sim.dl M (cls p x) a = cls p (Sim.dl N x a)
  no : ∀ c : Int, InR (ncl p) c → (∀ x : Int, 0 ≤ x → x < i → cls p x ≠ c) → M.getD c.toNat [] = []
theorem Part.skip {L s : Int} {F : List Bool} {N : List (List Int)} {p : List Int} {i : Nat} {G : List Bool} {M : List (List Int)} (H : DV L s F N) (C : Cls L F N p) (P : Part L F N p i G M) (hi : i < F.length) {y : Int} (h0 : 0 ≤ y) (hy : y < i) (e : cls p y = cls p i) : Part L F N p (i + 1) G M := by
  have hE := (C.iff y i ⟨h0, by omega⟩ ⟨by omega, by omega⟩).1 e
  refine ⟨P.lenG, P.lenM, fun x hx0 hx => ?_, fun x hx0 hx => ?_, fun x hx0 hx a ha => ?_, fun c hc h => P.no c hc (fun x hx0 hx => h x hx0 (by omega))⟩
  · by_cases hxi : x = i
    · subst hxi; rw [← e]; exact P.row y h0 hy
    · exact P.row x hx0 (by omega)
  · by_cases hxi : x = i
    · subst hxi; rw [← e, P.fin y h0 hy]; exact hE.fin
    · exact P.fin x hx0 (by omega)
  · by_cases hxi : x = i
    · subst hxi
      rw [← e, P.dl y h0 hy a ha]
      exact (C.iff _ _ (H.dl_range h0 (by omega) ha) (H.dl_range (by omega) (by omega) ha)).2 (hE.step ha)
    · exact P.dl x hx0 (by omega) a ha
theorem Part.set {L s : Int} {F : List Bool} {N : List (List Int)} {p : List Int} {i : Nat} {G : List Bool} {M : List (List Int)} (H : DV L s F N) (C : Cls L F N p) (P : Part L F N p i G M) (hi : i < F.length) (hn : ∀ x : Int, 0 ≤ x → x < i → cls p x ≠ cls p i) :
    Part L F N p (i + 1) (G.set (cls p i).toNat (Sim.fin F i)) (M.set (cls p i).toNat ((List.range L.toNat).map fun a => cls p (Sim.dl N (i : Int) a))) := by
  have hr : InR (ncl p) (cls p i) := C.range ⟨by omega, by omega⟩
  have h1 := hr.1; have h2 := hr.2; have hG := P.lenG; have hM := P.lenM
  have other : ∀ x : Int, 0 ≤ x → x < i → (cls p (i : Int)).toNat ≠ (cls p x).toNat := fun x hx0 hx e => hn x hx0 hx (by have := (C.range (x := x) ⟨hx0, by omega⟩).1; omega)
  refine ⟨by rw [List.length_set, hG], by rw [List.length_set, hM], fun x hx0 hx => ?_, fun x hx0 hx => ?_, fun x hx0 hx a ha => ?_, fun c hc h => ?_⟩
  · by_cases hxi : x = i
    · subst hxi; rw [getD_set, if_pos ⟨rfl, by omega⟩]; simp
    · rw [getD_set, if_neg (fun e => other x hx0 (by omega) e.1)]; exact P.row x hx0 (by omega)
  · by_cases hxi : x = i
    · subst hxi; unfold Sim.fin; rw [getD_set, if_pos ⟨rfl, by omega⟩]
    · unfold Sim.fin; rw [getD_set, if_neg (fun e => other x hx0 (by omega) e.1)]; exact P.fin x hx0 (by omega)
  · by_cases hxi : x = i
    · subst hxi; unfold Sim.dl; rw [getD_set, if_pos ⟨rfl, by omega⟩, getD_lt (l := List.map _ _) (by simp; omega)]; simp
    · unfold Sim.dl; rw [getD_set, if_neg (fun e => other x hx0 (by omega) e.1)]; exact P.dl x hx0 (by omega) a ha
  · have hh := h i (by omega) (by omega); have hc0 := hc.1
    rw [getD_set, if_neg (fun e => hh (by omega))]
    exact P.no c hc (fun x hx0 hx => h x hx0 (by omega))
theorem Part.quo {L s : Int} {F : List Bool} {N : List (List Int)} {p : List Int} {G : List Bool} {M : List (List Int)} (H : DV L s F N) (C : Cls L F N p) (P : Part L F N p F.length G M) : Quo L s F N p G M where
  lenG := P.lenG
  lenM := P.lenM
  row := fun r hr => by
    obtain ⟨c, hc, rfl⟩ := List.mem_iff_getElem.1 hr
    obtain ⟨x, hx, e⟩ := C.surj (c := c) ⟨by omega, by rw [← P.lenM]; omega⟩
    have := P.row x hx.1 hx.2
    rw [e, getD_nat, getD_lt hc] at this
    have := H.l1; omega
  fin := fun x hx => P.fin x hx.1 hx.2
  dl := fun x hx a ha => P.dl x hx.1 hx.2 a ha

theorem minimize_minimal_l0 {L s : Int} {F : List Bool} {N : List (List Int)} {p : List Int} (H : DV L s F N) (C : Cls L F N p) {k : Nat} (hk : 600 < k) {b0 b1 b2 b3 b4 : Int} {ν : List Int} {x5 : List Bool} {x6 : List (List Int)} :
    ∃ G M, minimize_minimal.l0 k k (p.length : Int) 0 b0 b1 L b2 ν p b3 b4 x5 x6 F N (List.replicate (ncl p) false) (List.replicate (ncl p) []) = minimize_minimal.j1 k b0 b1 ν p b3 b4 x5 x6 G M ∧ Quo L s F N p G M := by
  have h6 := H.l6; have h1 := H.l1; have h5 := H.n5; have hnn := H.nn; have hp := C.len
  have hcl := ncl_le_length p
  have main := wh (f := fun n (st : Nat × List Bool × List (List Int)) => minimize_minimal.l0 k n (p.length : Int) (st.1 : Int) b0 b1 L b2 ν p b3 b4 x5 x6 F N st.2.1 st.2.2)
    (fun st => st.1 ≤ F.length ∧ Part L F N p st.1 st.2.1 st.2.2) (fun st => F.length - st.1) (fun x => ∃ G M, x = minimize_minimal.j1 k b0 b1 ν p b3 b4 x5 x6 G M ∧ Quo L s F N p G M) (by
      rintro n ⟨i, G, M⟩ ⟨hi, P⟩
      dsimp only at *
      have hG := P.lenG; have hM := P.lenM
      by_cases hlt : i < F.length
      · right
        have hpi : p.getD i 0 = cls p i := by simp [cls]
        have hr : InR (ncl p) (cls p i) := C.range ⟨by omega, by omega⟩
        have hr1 := hr.1; have hr2 := hr.2
        by_cases hm : ∃ y : Int, 0 ≤ y ∧ y < i ∧ cls p y = cls p i
        · obtain ⟨y, h0, hy, e⟩ := hm
          have hrow := P.row y h0 hy
          rw [e] at hrow
          refine ⟨(i + 1, G, M), ⟨by dsimp only; omega, P.skip H C hlt h0 hy e⟩, by dsimp only; omega, ?_⟩
          rw [minimize_minimal.l0_succ, getD_nat, hpi]
          (repeat (first | rw [if_pos (by omega)] | rw [decide_eq_true (by omega), cond_true] | rw [decide_eq_false (by omega), cond_false]))
          rw [minimize_minimal.j0_eq, wrap_succ (by omega)]
        · have hn : ∀ x : Int, 0 ≤ x → x < i → cls p x ≠ cls p i := fun x h0 hx e => hm ⟨x, h0, hx, e⟩
          have hrow := P.no _ hr hn
          have hrl := H.rowlen (q := i) (by omega) (by omega)
          rw [Int.toNat_natCast] at hrl
          refine ⟨(i + 1, G.set (cls p i).toNat (fin F i), M.set (cls p i).toNat ((List.range L.toNat).map fun a => cls p (dl N (i : Int) a))), ⟨by dsimp only; omega, P.set H C hlt hn⟩, by dsimp only; omega, ?_⟩
          rw [minimize_minimal.l0_succ, getD_nat, hpi, hrow, getD_nat, getD_nat, hrl, show ((L.toNat : Nat) : Int) = L by omega, List.length_nil, List.length_replicate]
          (repeat (first | rw [if_pos (by omega)] | rw [decide_eq_true (by omega), cond_true] | rw [decide_eq_false (by omega), cond_false]))
          generalize hys : (List.range L.toNat).map (fun a => cls p (dl N (i : Int) a)) = ys
          have hyl : ys.length = L.toNat := by subst hys; simp
          have inner := upc (f := fun n1 a => minimize_minimal.l1 k n n1 (cls p i) (p.length : Int) (i : Int) (N.getD i []) L (a : Int) b0 b1 L b2 ν p b3 b4 x5 x6 F N (G.set (cls p i).toNat (F.getD i false)) (M.set (cls p i).toNat (fillAt ys 0 a))) (len := L.toNat)
            (r := minimize_minimal.j0 k n (p.length : Int) (i : Int) b0 b1 L b2 ν p b3 b4 x5 x6 F N (G.set (cls p i).toNat (F.getD i false)) (M.set (cls p i).toNat ys))
            (fun n1 => by rw [minimize_minimal.l1_succ, decide_eq_false (by omega), cond_false, ← hyl, fillAt_all])
            (fun a ha n1 => by
              have hf := fillAt_length ys 0 (i := a) (by omega)
              have hz := H.dl_range (q := i) (by omega) (by omega) ha
              have ez : (N.getD i []).getD a 0 = dl N i a := by simp [dl]
              have eM : (M.set (cls p (i : Int)).toNat (fillAt ys 0 a)).getD (cls p (i : Int)).toNat [] = fillAt ys 0 a := by rw [getD_set, if_pos ⟨rfl, by omega⟩]
              rw [minimize_minimal.l1_succ, getD_nat, ez, eM, List.length_set, List.set_set, set_nat, show p.getD (dl N (i : Int) a).toNat 0 = cls p (dl N i a) from rfl, fill_step ys 0 _ (by omega) (by subst hys; simp)]
              (repeat (first | rw [if_pos (by omega)] | rw [decide_eq_true (by omega), cond_true] | rw [decide_eq_false (by omega), cond_false]))
              rw [wrap_succ (by omega)]) k (by omega)
          rw [fillAt_zero, hyl] at inner
          refine Eq.trans inner ?_
          rw [minimize_minimal.j0_eq, wrap_succ (by omega)]; simp [fin]
      · left
        obtain rfl : i = F.length := by omega
        exact ⟨G, M, by rw [minimize_minimal.l0_succ, decide_eq_false (by omega), cond_false], P.quo H C⟩)
    k (0, List.replicate (ncl p) false, List.replicate (ncl p) []) (by dsimp only; omega)
    ⟨by dsimp only; omega, by simp, by simp, fun x h0 hx => by dsimp only at hx; omega, fun x h0 hx => by dsimp only at hx; omega, fun x h0 hx => by dsimp only at hx; omega, fun c hc _ => by have := hc.1; have := hc.2; rw [getD_lt (by simp; omega)]; simp⟩
  exact main
theorem trim_num {L s : Int} {F : List Bool} {N : List (List Int)} {e0 : Ent Int} {q : List (Ent Int)} (H : DV L s F N) (hs : e0.x = s) (B : BInv (dl N) L.toNat e0 q q.length 0) {ν : List Int} (V : NumOk F.length q ν) {v : List Nat} (hv : Wd L.toNat v) :
    ν.getD (rn (dl N) s v).toNat 0 = rn (dl (trimN L N ν (q.map (·.x)))) 0 v ∧ 0 ≤ rn (dl (trimN L N ν (q.map (·.x)))) 0 v := by
  obtain ⟨k, f, h1, h2, h3⟩ := trim_rn H hs B V v 0 e0 B.hd hv
  rw [← hs, ← h2, V.at_ k f h1]
  have h3' : rn (dl (trimN L N ν (q.map (·.x)))) 0 v = k := h3
  rw [h3']; omega
/-- The reduced automaton of a language, numbered by least words. -/
structure MinOf (L s : Int) (F : List Bool) (N : List (List Int)) (G : List Bool) (M : List (List Int)) (ws : List (List Nat)) : Prop where
  can : Can L 0 G M ws
  red : Red L G M
  lng : ∀ v, Wd L.toNat v → Sim.lng 0 G M v = Sim.lng s F N v
theorem minOf_unique {L s s' : Int} {F F' : List Bool} {N N' : List (List Int)} {G G' : List Bool} {M M' : List (List Int)} {ws ws' : List (List Nat)} (h : MinOf L s F N G M ws) (h' : MinOf L s' F' N' G' M' ws') (hl : ∀ v, Wd L.toNat v → Sim.lng s F N v = Sim.lng s' F' N' v) : G = G' ∧ M = M' ∧ ws = ws' := by
  obtain ⟨_, h1, h2, h3⟩ := can_unique h.can h'.can h.red h'.red (fun w hw => by rw [h.lng w hw, h'.lng w hw, hl w hw])
  exact ⟨h1, h2, h3⟩
structure ToOk (L s : Int) (F : List Bool) (N : List (List Int)) (M : List (List Int)) (to : List Int) : Prop where
  len : to.length = F.length
  at_ : ∀ v, Wd L.toNat v → cls to (rn (dl N) s v) = rn (dl M) 0 v
  no : ∀ x, InR F.length x → (∀ v, Wd L.toNat v → rn (dl N) s v ≠ x) → cls to x = -1
theorem minimize_minimal_ok {L s : Int} {F : List Bool} {N : List (List Int)} (H : DV L s F N) {k : Nat} (hk : 5000 < k) :
    ∃ G M ws to, minimize_minimal.f k L s F N = some ((L, 0, G, M), to) ∧ MinOf L s F N G M ws ∧ ToOk L s F N M to := by
  obtain ⟨q, ν, e, _, B, V⟩ := dfa_Trim_ok H (k := k) (by omega)
  have Cn := trim_can H rfl B V
  have hTl := fun v (hv : Wd L.toNat v) => trim_lng H rfl B V hv B.hd
  have hnum := fun v (hv : Wd L.toNat v) => trim_num H rfl B V hv
  have hno : ∀ x, InR F.length x → (∀ v, Wd L.toNat v → rn (dl N) s v ≠ x) → ν.getD x.toNat 0 = -1 := fun x hx h => V.no x hx.1 hx.2 (fun f hf e => by
    obtain ⟨j, hj⟩ := List.mem_iff_getElem?.1 hf
    have := B.sound j f hj
    exact h f.w this.2 (by rw [← e]; exact this.1))
  have hνr : ∀ x, InR F.length x → ν.getD x.toNat 0 = -1 ∨ InR q.length (ν.getD x.toNat 0) := fun x hx => by
    by_cases hm : ∃ f ∈ q, f.x = x
    · obtain ⟨f, hf, rfl⟩ := hm
      obtain ⟨j, hj⟩ := List.mem_iff_getElem?.1 hf
      rw [V.at_ j f hj]
      have := (List.getElem?_eq_some_iff.1 hj).1
      exact .inr ⟨by omega, by omega⟩
    · exact .inl (V.no x hx.1 hx.2 (fun f hf e => hm ⟨f, hf, e⟩))
  have hql : (trimF F (q.map (·.x))).length = q.length := by simp [trimF]
  have hVl := V.len
  generalize trimF F (q.map (·.x)) = F1 at *
  generalize trimN L N ν (q.map (·.x)) = N1 at *
  have H1 := Cn.dv
  obtain ⟨p, e2, C⟩ := minimize_classes_ok H1 hk
  have hp := C.len; have h5 := H1.n5; have h51 := H1.n1; have h5' := H.n5
  have hcl := ncl_le_length p
  obtain ⟨G0, M0, e3, Q⟩ := minimize_minimal_l0 H1 C (k := k) (by omega) (b0 := 0) (b1 := 0) (b2 := 0) (b3 := L) (b4 := p.getD 0 0) (ν := ν) (x5 := []) (x6 := [])
  have H2 := Q.dv H1 C
  have R2 := Q.red H1 C
  obtain ⟨q2, ν2, e4, _, B2, V2⟩ := dfa_Trim_ok H2 (k := k) (by omega)
  have hnum2 := fun v (hv : Wd L.toNat v) => trim_num H2 rfl B2 V2 hv
  refine ⟨_, _, _, ν.map (fun x => if 0 ≤ x then cls ν2 (cls p x) else -1), ?_, ⟨trim_can H2 rfl B2 V2, trim_red H2 rfl B2 V2 R2, fun v hv => ?_⟩, by simp [hVl], fun v hv => ?_, fun x hx h => ?_⟩
  · have ep : p.getD 0 0 = cls p 0 := rfl
    have hto := upc (f := fun n i => minimize_minimal.l2 k n (ν.length : Int) (i : Int) 0 0 p L 0 ν2 (fillAt (ν.map (fun x => if 0 ≤ x then cls ν2 (cls p x) else -1)) 0 i) ν [] [] (trimF G0 (q2.map (·.x))) (trimN L M0 ν2 (q2.map (·.x)))) (len := ν.length)
      (r := some ((L, 0, trimF G0 (q2.map (·.x)), trimN L M0 ν2 (q2.map (·.x))), ν.map (fun x => if 0 ≤ x then cls ν2 (cls p x) else -1)))
      (fun n => by
        have := fillAt_all (ν.map (fun x => if 0 ≤ x then cls ν2 (cls p x) else -1)) 0
        rw [List.length_map] at this
        rw [minimize_minimal.l2_succ, decide_eq_false (by omega), cond_false, minimize_minimal.j2_eq, this])
      (fun i hi n => by
        have hf := fillAt_length (ν.map (fun x => if 0 ≤ x then cls ν2 (cls p x) else -1)) 0 (i := i) (by simp; omega)
        rw [List.length_map] at hf
        have hs := fun v h => fill_step (ν.map (fun x => if 0 ≤ x then cls ν2 (cls p x) else -1)) 0 v (i := i) (by simp; exact hi) h
        have hx := hνr i ⟨by omega, by omega⟩
        rw [Int.toNat_natCast, getD_lt hi] at hx
        rw [minimize_minimal.l2_succ, getD_nat, getD_lt hi]
        simp only [set_nat, List.length_set, List.set_set]
        (repeat (first | rw [if_pos (by omega)] | rw [decide_eq_true (by omega), cond_true] | rw [decide_eq_false (by omega), cond_false]))
        by_cases h0 : 0 ≤ ν[i]
        · have hx1 := hx.resolve_left (by omega)
          have hcr := C.range (x := ν[i]) ⟨hx1.1, by rw [hql]; exact hx1.2⟩
          have hcr1 := hcr.1; have hcr2 := hcr.2; have hG0 := Q.lenG; have hx2 := hx1.2
          have hν2 := V2.len
          rw [decide_eq_true h0, cond_true, show p.getD (ν[i]).toNat 0 = cls p ν[i] from rfl]
          (repeat (first | rw [if_pos (by omega)] | rw [decide_eq_true (by omega), cond_true] | rw [decide_eq_false (by omega), cond_false]))
          rw [wrap_succ (by omega), show ν2.getD (cls p ν[i]).toNat 0 = cls ν2 (cls p ν[i]) from rfl, hs (cls ν2 (cls p ν[i])) (by rw [List.getElem_map, if_pos h0])]
        · rw [decide_eq_false h0, cond_false, wrap_succ (by omega), hs (-1) (by rw [List.getElem_map, if_neg h0])]) k (by omega)
    rw [fillAt_zero, List.length_map] at hto
    rw [minimize_minimal.f_eq, e, Option.bind_some]
    dsimp only
    rw [e2, Option.bind_some, partition_Count_ok p (by omega) C.can hk, Option.bind_some, Int.toNat_natCast, List.length_replicate, Int.toNat_natCast]
    (repeat (first | rw [if_pos (by omega)] | rw [decide_eq_true (by omega), cond_true] | rw [decide_eq_false (by omega), cond_false]))
    rw [show (0 : Int).toNat = 0 from rfl, e3, minimize_minimal.j1_eq, ep, e4, Option.bind_some]
    (repeat (first | rw [if_pos (by omega)] | rw [decide_eq_true (by omega), cond_true] | rw [decide_eq_false (by omega), cond_false]))
    rw [Int.toNat_natCast]
    exact hto
  · have a1 := trim_lng H2 rfl B2 V2 hv B2.hd
    have a2 := Q.lng H1 hv (x := 0) ⟨by omega, by omega⟩
    exact a1.trans (a2.trans (hTl v hv))
  · obtain ⟨b1, b2⟩ := hnum v hv
    have hrr := H1.rn_range v (q := 0) (by omega) (by omega) hv
    have hr := H.rn_range v H.s0 H.s1 hv
    have e5 : cls (ν.map (fun x => if 0 ≤ x then cls ν2 (cls p x) else -1)) (rn (dl N) s v) = if 0 ≤ rn (dl N1) 0 v then cls ν2 (cls p (rn (dl N1) 0 v)) else -1 := by
      have hlt : (rn (dl N) s v).toNat < ν.length := by omega
      rw [getD_lt hlt] at b1
      unfold cls
      rw [getD_lt (by simp; exact hlt), List.getElem_map, b1]
    rw [e5, if_pos b2, ← Q.rn H1 v 0 ⟨by omega, by omega⟩ hv]
    exact (hnum2 v hv).1
  · have h1 := hx.1; have h2 := hx.2
    have b1 := hno x hx h
    have hlt : x.toNat < ν.length := by omega
    rw [getD_lt hlt] at b1
    unfold cls
    rw [getD_lt (by simp; exact hlt), List.getElem_map, b1]
    rfl
theorem minimize_Minimal_ok {L s : Int} {F : List Bool} {N : List (List Int)} (H : DV L s F N) {k : Nat} (hk : 5000 < k) :
    ∃ G M ws, minimize_Minimal.f k L s F N = some (L, 0, G, M) ∧ MinOf L s F N G M ws := by
  obtain ⟨G, M, ws, to, e, h, _⟩ := minimize_minimal_ok H hk
  refine ⟨G, M, ws, ?_, h⟩
  rw [minimize_Minimal.f_eq, dfa_Validate_ok _ _ _ _ (by omega), dfaE_zero.2 H, Option.bind_some, show ((0 : Int) != 0) = false from rfl, cond_false, e, Option.bind_some]
theorem minimize_Minimal_bad {L s : Int} {F : List Bool} {N : List (List Int)} (H : ¬ DV L s F N) {k : Nat} (hk : 5000 < k) : minimize_Minimal.f k L s F N = some (0, 0, [], []) := by
  rw [minimize_Minimal.f_eq, dfa_Validate_ok _ _ _ _ (by omega), Option.bind_some, show (dfaE L s F N != 0) = true from bne_iff_ne.2 (fun h => H (dfaE_zero.1 h)), cond_true]

/-! ### semigroupref08.Minimal -/
theorem first_iff {p : List Int} (hc : canL p = p) {i : Nat} (hi : i < p.length) : (p[i] = ((ordA [] (p.take i)).length : Int)) ↔ p[i] ∉ ordA [] (p.take i) := by
  constructor
  · intro e hm
    have := (num_old hi hm).2
    have hlt := List.idxOf_lt_length_of_mem hm
    simp only [hc] at this
    omega
  · intro hm
    have := (num_new hi hm).2
    simpa only [hc] using this
/-- The rows of the classes that were met below i. -/
structure Rows8 (L : Int) (F : List Bool) (N : List (List Int)) (p : List Int) (i : Nat) (G : List Bool) (M : List (List Int)) : Prop where
  lenG : G.length = (ordA [] (p.take i)).length
  lenM : M.length = (ordA [] (p.take i)).length
  ex : ∀ c : Nat, c < G.length → ∃ x : Nat, x < i ∧ cls p x = c ∧ fin G c = fin F x ∧ M.getD c [] = (List.range L.toNat).map fun a => cls p (dl N (x : Int) a)
theorem Rows8.quo {L s : Int} {F : List Bool} {N : List (List Int)} {p : List Int} {G : List Bool} {M : List (List Int)} (H : DV L s F N) (C : Cls L F N p) (R : Rows8 L F N p F.length G M) : Quo L s F N p G M := by
  have hp := C.len
  have e : p.take F.length = p := by rw [← hp]; exact List.take_length
  have hG := R.lenG; have hM := R.lenM
  rw [e] at hG hM
  have get : ∀ x, InR F.length x → ∃ y : Nat, y < F.length ∧ cls p y = cls p x ∧ fin G (cls p x) = fin F y ∧ M.getD (cls p x).toNat [] = (List.range L.toNat).map fun a => cls p (dl N (y : Int) a) := fun x hx => by
    have hr := C.range hx
    have h1 := hr.1; have h2 := hr.2
    obtain ⟨y, h3, h4, h5, h6⟩ := R.ex (cls p x).toNat (by rw [hG]; unfold ncl at h2; omega)
    rw [show (((cls p x).toNat : Nat) : Int) = cls p x by omega] at h4 h5
    exact ⟨y, h3, h4, h5, h6⟩
  refine ⟨hG, hM, fun r hr => ?_, fun x hx => ?_, fun x hx a ha => ?_⟩
  · obtain ⟨c, hc, rfl⟩ := List.mem_iff_getElem.1 hr
    obtain ⟨x, _, _, _, e⟩ := R.ex c (by omega)
    rw [getD_lt hc] at e
    rw [e]; have := H.l1; simp; omega
  · obtain ⟨y, h1, h2, h3, _⟩ := get x hx
    rw [h3]; exact ((C.iff y x ⟨by omega, by omega⟩ hx).1 h2).fin
  · obtain ⟨y, h1, h2, _, h4⟩ := get x hx
    unfold dl
    rw [h4, getD_lt (by simp; omega)]
    simp only [List.getElem_map, List.getElem_range]
    exact (C.iff _ _ (H.dl_range (by omega) (by omega) ha) (H.dl_range hx.1 hx.2 ha)).2 (((C.iff y x ⟨by omega, by omega⟩ hx).1 h2).step ha)
theorem semigroupref08_Minimal_ok {L s : Int} {F : List Bool} {N : List (List Int)} (H : DV L s F N) {k : Nat} (hk : 100001 < k) :
    ∃ G M ws, semigroupref08_Minimal.f k L s F N = some (L, 0, G, M) ∧ MinOf L s F N G M ws := by
  have h6 := H.l6; have h1 := H.l1; have h5 := H.n5; have hnn := H.nn; have h51 := H.n1; have hs0 := H.s0; have hs1 := H.s1
  obtain ⟨p, e, C⟩ := semigroupref08_Classes_ok H hk
  have hp := C.len
  have row : ∀ n0 (i : Nat), i < F.length → ∀ v5 o2 o3 o4 o5 o6 o7 o8 o9, ∀ n, L.toNat < n → semigroupref08_Minimal.l1 k n0 n p v5 (i : Int) p (p.length : Int) (i : Int) (N.getD i []) L 0 L s F N o2 o3 o4 o5 [] o6 o7 o8 o9 =
      semigroupref08_Minimal.j2 k n0 p v5 (i : Int) p (p.length : Int) (i : Int) L s F N o2 o3 o4 o5 ((List.range L.toNat).map fun a => cls p (dl N (i : Int) a)) o6 o7 o8 o9 := by
    intro n0 i hi v5 o2 o3 o4 o5 o6 o7 o8 o9 n hn
    have hrl := H.rowlen (q := i) (by omega) (by omega)
    rw [Int.toNat_natCast] at hrl
    exact upc (f := fun n a => semigroupref08_Minimal.l1 k n0 n p v5 (i : Int) p (p.length : Int) (i : Int) (N.getD i []) L (a : Int) L s F N o2 o3 o4 o5 ((List.range a).map fun a => cls p (dl N (i : Int) a)) o6 o7 o8 o9) (len := L.toNat)
      (fun n => by rw [semigroupref08_Minimal.l1_succ, decide_eq_false (by omega), cond_false])
      (fun a ha n => by
        have hz := H.dl_range (q := i) (by omega) (by omega) ha
        have ez : (N.getD i []).getD a 0 = dl N i a := by simp [dl]
        rw [semigroupref08_Minimal.l1_succ, getD_nat, ez]
        simp only [List.length_map, List.length_range, List.length_singleton]
        (repeat (first | rw [if_pos (by omega)] | rw [decide_eq_true (by omega), cond_true] | rw [decide_eq_false (by omega), cond_false]))
        rw [wrap_succ (by omega), List.range_succ, List.map_append]; rfl) n hn
  have main := wh (f := fun n (st : Nat × List Bool × List (List Int)) => semigroupref08_Minimal.l0 k n p ((ordA [] (p.take st.1)).length : Int) p (p.length : Int) (st.1 : Int) L s F N 0 0 L (p.getD s.toNat 0) [] [] st.2.1 st.2.2)
    (fun st => st.1 ≤ F.length ∧ Rows8 L F N p st.1 st.2.1 st.2.2) (fun st => F.length - st.1) (fun x => ∃ G M, x = semigroupref08_Minimal.j1 k 0 0 L (p.getD s.toNat 0) [] [] G M ∧ Quo L s F N p G M) (by
      rintro n ⟨i, G, M⟩ ⟨hi, R⟩
      dsimp only at *
      have hG := R.lenG; have hM := R.lenM
      have hle := ordA_take_le p i
      by_cases hlt : i < F.length
      · right
        have hip : i < p.length := by omega
        have hrl := H.rowlen (q := i) (by omega) (by omega)
        rw [Int.toNat_natCast] at hrl
        by_cases hm : p[i] ∈ ordA [] (p.take i)
        · obtain ⟨e1, _⟩ := num_old hip hm
          refine ⟨(i + 1, G, M), ⟨by dsimp only; omega, ?_⟩, by dsimp only; omega, ?_⟩
          · dsimp only
            exact ⟨by rw [e1]; exact hG, by rw [e1]; exact hM, fun c hc => by obtain ⟨x, h1, h2⟩ := R.ex c hc; exact ⟨x, by omega, h2⟩⟩
          · rw [semigroupref08_Minimal.l0_succ, getD_nat, getD_lt hip]
            (repeat (first | rw [if_pos (by omega)] | rw [decide_eq_true (by omega), cond_true] | rw [decide_eq_false (by omega), cond_false]))
            rw [show (p[i] != ((ordA [] (p.take i)).length : Int)) = true from bne_iff_ne.2 (fun h => (first_iff C.can hip).1 h hm), cond_true, semigroupref08_Minimal.j0_eq, wrap_succ (by omega), e1]
        · obtain ⟨e1, e2⟩ := num_new hip hm
          simp only [C.can] at e2
          refine ⟨(i + 1, G ++ [fin F i], M ++ [(List.range L.toNat).map fun a => cls p (dl N (i : Int) a)]), ⟨by dsimp only; omega, ?_⟩, by dsimp only; omega, ?_⟩
          · dsimp only
            refine ⟨by rw [e1, List.length_append, List.length_append, hG]; rfl, by rw [e1, List.length_append, List.length_append, hM]; rfl, fun c hc => ?_⟩
            rw [List.length_append, List.length_singleton] at hc
            by_cases hcG : c < G.length
            · obtain ⟨x, h1, h2, h3, h4⟩ := R.ex c hcG
              refine ⟨x, by omega, h2, ?_, ?_⟩
              · unfold fin; rw [getD_append, if_pos (by omega)]; exact h3
              · rw [getD_append, if_pos (by omega)]; exact h4
            · obtain rfl : c = G.length := by omega
              refine ⟨i, by omega, by rw [cls_get hip, e2, hG], ?_, ?_⟩
              · unfold fin; rw [getD_append, if_neg (by omega)]; simp
              · rw [getD_append, if_neg (by omega), hG, hM]; simp
          · rw [semigroupref08_Minimal.l0_succ, getD_nat, getD_lt hip]
            (repeat (first | rw [if_pos (by omega)] | rw [decide_eq_true (by omega), cond_true] | rw [decide_eq_false (by omega), cond_false]))
            rw [show (p[i] != ((ordA [] (p.take i)).length : Int)) = false by rw [e2]; simp, cond_false]
            (repeat (first | rw [if_pos (by omega)] | rw [decide_eq_true (by omega), cond_true] | rw [decide_eq_false (by omega), cond_false]))
            rw [getD_nat, hrl, show ((L.toNat : Nat) : Int) = L by omega, row n i hlt _ _ _ _ _ _ _ _ _ k (by omega), semigroupref08_Minimal.j2_eq]
            simp only [List.length_singleton]
            (repeat (first | rw [if_pos (by omega)] | rw [decide_eq_true (by omega), cond_true] | rw [decide_eq_false (by omega), cond_false]))
            rw [semigroupref08_Minimal.j0_eq, wrap_succ (by omega), wrap_succ (by omega), e1, List.length_append]; rfl
      · left
        obtain rfl : i = F.length := by omega
        exact ⟨G, M, by rw [semigroupref08_Minimal.l0_succ, decide_eq_false (by omega), cond_false], R.quo H C⟩)
    k (0, [], []) (by dsimp only; omega) ⟨by dsimp only; omega, by simp [ordA], by simp [ordA], fun c hc => by simp at hc⟩
  obtain ⟨G, M, e2, Q⟩ := main
  have H2 := Q.dv H C
  obtain ⟨q2, ν2, e4, B2, V2⟩ := semigroupref07_Trim_ok H2 (k := k) (by omega)
  refine ⟨_, _, _, ?_, trim_can H2 rfl B2 V2, trim_red H2 rfl B2 V2 (Q.red H C), fun v hv => ?_⟩
  · rw [semigroupref08_Minimal.f_eq, e, Option.bind_some]
    (repeat (first | rw [if_pos (by omega)] | rw [decide_eq_true (by omega), cond_true] | rw [decide_eq_false (by omega), cond_false]))
    refine Eq.trans e2 ?_
    rw [semigroupref08_Minimal.j1_eq, show p.getD s.toNat 0 = cls p s from rfl, e4, Option.bind_some]
  · have a1 := trim_lng H2 rfl B2 V2 hv B2.hd
    have a2 := Q.lng H hv (x := s) ⟨by omega, by omega⟩
    exact a1.trans a2

end Go.Proofs.Yteblfhhhbfodgaa.Sim
