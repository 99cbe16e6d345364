/- Numbering by first places: plain theory, and the map that the programs number with. -/
import Derived.Test.YteblfhhhbfodgaaSimA
set_option linter.unusedVariables false
set_option linter.unusedSectionVars false
namespace Go.Proofs.Yteblfhhhbfodgaa.Sim

section
variable {K : Type} [DecidableEq K]

/-- The keys of a list, each once, in the order of their coming, behind those of acc. -/
def ordA : List K → List K → List K
  | acc, [] => acc
  | acc, x :: r => if x ∈ acc then ordA acc r else ordA (acc ++ [x]) r
/-- The map from the keys to their places. -/
def numE (acc : List K) : List (K × Int) := acc.zipIdx.map fun p => (p.1, (p.2 : Int))
theorem numE_length (acc : List K) : (numE acc).length = acc.length := by simp [numE]
theorem numE_snoc (acc : List K) (x : K) : numE (acc ++ [x]) = numE acc ++ [(x, (acc.length : Int))] := by
  simp [numE, List.zipIdx_append]
theorem mget_snoc {V : Type} (m : List (K × V)) (x : K) (v : V) (y : K) : mget (m ++ [(x, v)]) y = (mget m y).or (if y = x then some v else none) := by
  induction m with
  | nil => simp [mget]
  | cons p m ih =>
    simp only [List.cons_append, mget]
    split
    · rfl
    · exact ih
theorem mput_snoc {V : Type} {m : List (K × V)} {x : K} {v : V} : mget m x = none → mput m x v = m ++ [(x, v)] := by
  induction m with
  | nil => intro _; rfl
  | cons p m ih =>
    intro h
    simp only [mget] at h
    split at h
    · cases h
    · rename_i hk
      simp only [mput, if_neg hk, ih h]; rfl
theorem mget_numE (acc : List K) (y : K) : mget (numE acc) y = if y ∈ acc then some (acc.idxOf y : Int) else none := by
  generalize hn : acc.length = n
  induction n generalizing acc with
  | zero => obtain rfl := List.length_eq_zero_iff.1 hn; simp [numE, mget]
  | succ n ih =>
    obtain ⟨pre, x, rfl⟩ : ∃ pre x, acc = pre ++ [x] := by
      rcases List.eq_nil_or_concat acc with rfl | ⟨pre, x, rfl⟩
      · simp at hn
      · exact ⟨pre, x, by simp⟩
    have hp : pre.length = n := by simpa using hn
    rw [numE_snoc, mget_snoc, ih pre hp]
    by_cases h1 : y ∈ pre
    · simp [h1, List.idxOf_append]
    · by_cases h2 : y = x
      · subst h2
        simp [h1, List.idxOf_append]
      · simp [h1, h2]
theorem mhas_numE {acc : List K} {y : K} (h : y ∈ acc) : (mget (numE acc) y).isSome = true := by rw [mget_numE, if_pos h]; rfl
theorem mhas_numE' {acc : List K} {y : K} (h : y ∉ acc) : (mget (numE acc) y).isSome = false := by rw [mget_numE, if_neg h]; rfl
theorem mgetD_numE {acc : List K} {y : K} (h : y ∈ acc) (z : Int) : (mget (numE acc) y).getD z = (acc.idxOf y : Int) := by
  rw [mget_numE, if_pos h]; rfl
theorem mput_numE {acc : List K} {x : K} (h : x ∉ acc) : mput (numE acc) x (acc.length : Int) = numE (acc ++ [x]) := by
  rw [numE_snoc, mput_snoc]
  rw [mget_numE, if_neg h]
theorem ordA_pre : ∀ (l acc : List K), ∃ t, ordA acc l = acc ++ t
  | [], acc => ⟨[], by simp [ordA]⟩
  | x :: l, acc => by
    unfold ordA
    split
    · exact ordA_pre l acc
    · obtain ⟨t, h⟩ := ordA_pre l (acc ++ [x])
      exact ⟨[x] ++ t, by rw [h, List.append_assoc]⟩
theorem ordA_mem : ∀ (l acc : List K) (y : K), y ∈ ordA acc l ↔ y ∈ acc ∨ y ∈ l
  | [], acc, y => by simp [ordA]
  | x :: l, acc, y => by
    unfold ordA
    split
    · rename_i h
      rw [ordA_mem l acc y, List.mem_cons]
      constructor
      · rintro (h1 | h1)
        · exact .inl h1
        · exact .inr (.inr h1)
      · rintro (h1 | rfl | h1)
        · exact .inl h1
        · exact .inl h
        · exact .inr h1
    · rw [ordA_mem l (acc ++ [x]) y, List.mem_append, List.mem_singleton, List.mem_cons, or_assoc]
theorem ordA_nodup : ∀ (l acc : List K), acc.Nodup → (ordA acc l).Nodup
  | [], acc, h => by simpa [ordA] using h
  | x :: l, acc, h => by
    unfold ordA
    split
    · exact ordA_nodup l acc h
    · rename_i hx
      refine ordA_nodup l _ ?_
      rw [List.nodup_append]
      exact ⟨h, by simp, fun a ha b hb => by
        obtain rfl := List.mem_singleton.1 hb
        exact fun e => hx (e ▸ ha)⟩
theorem ordA_idx {acc l : List K} {y : K} (h : y ∈ acc) : (ordA acc l).idxOf y = acc.idxOf y := by
  obtain ⟨t, e⟩ := ordA_pre l acc
  rw [e, List.idxOf_append, if_pos h]
theorem ordA_length (l acc : List K) : (ordA acc l).length ≤ acc.length + l.length := by
  induction l generalizing acc with
  | nil => simp [ordA]
  | cons x l ih =>
    unfold ordA
    split
    · have := ih acc; simp; omega
    · have := ih (acc ++ [x]); simp at this ⊢; omega

/-- The number of each place's class, behind classes that were met before. -/
def num : List K → List K → List Int
  | _, [] => []
  | acc, x :: r => if x ∈ acc then (acc.idxOf x : Int) :: num acc r else (acc.length : Int) :: num (acc ++ [x]) r
theorem num_eq : ∀ (l acc : List K), num acc l = l.map fun x => ((ordA acc l).idxOf x : Int)
  | [], _ => rfl
  | x :: l, acc => by
    unfold num ordA
    by_cases h : x ∈ acc
    · rw [if_pos h, if_pos h, List.map_cons, ordA_idx h, num_eq l acc]
    · rw [if_neg h, if_neg h, List.map_cons, ordA_idx (by simp), num_eq l (acc ++ [x]), List.idxOf_append, if_neg h]
      simp
theorem num_length (l acc : List K) : (num acc l).length = l.length := by rw [num_eq]; simp
def canL (l : List K) : List Int := num [] l
theorem canL_length (l : List K) : (canL l).length = l.length := num_length l []
theorem canL_get (l : List K) (i : Nat) (h : i < l.length) : (canL l)[i]'(by rw [canL_length]; exact h) = ((ordA [] l).idxOf l[i] : Int) := by
  simp only [canL, num_eq, List.getElem_map]
theorem ordA_append (acc u v : List K) : ordA acc (u ++ v) = ordA (ordA acc u) v := by
  induction u generalizing acc with
  | nil => rfl
  | cons x u ih =>
    rw [List.cons_append, ordA, ordA]
    split
    · exact ih acc
    · exact ih _
/-- A place whose key was met before. -/
theorem num_old {l : List K} {i : Nat} (hi : i < l.length) (h : l[i] ∈ ordA [] (l.take i)) : ordA [] (l.take (i + 1)) = ordA [] (l.take i) ∧ (canL l)[i]'(by rw [canL_length]; exact hi) = ((ordA [] (l.take i)).idxOf l[i] : Int) := by
  have e : ordA [] (l.take (i + 1)) = ordA [] (l.take i) := by
    rw [List.take_succ_eq_append_getElem hi, ordA_append, ordA, if_pos h, ordA]
  refine ⟨e, ?_⟩
  rw [canL_get l i hi]
  have e2 : ordA [] l = ordA (ordA [] (l.take i)) (l.drop i) := by rw [← ordA_append, List.take_append_drop]
  rw [e2]
  rw [ordA_idx h]
/-- A place whose key is new. -/
theorem num_new {l : List K} {i : Nat} (hi : i < l.length) (h : l[i] ∉ ordA [] (l.take i)) : ordA [] (l.take (i + 1)) = ordA [] (l.take i) ++ [l[i]] ∧ (canL l)[i]'(by rw [canL_length]; exact hi) = ((ordA [] (l.take i)).length : Int) := by
  have e : ordA [] (l.take (i + 1)) = ordA [] (l.take i) ++ [l[i]] := by
    rw [List.take_succ_eq_append_getElem hi, ordA_append, ordA, if_neg h, ordA]
  refine ⟨e, ?_⟩
  rw [canL_get l i hi]
  have e2 : ordA [] l = ordA (ordA [] (l.take (i + 1))) (l.drop (i + 1)) := by rw [← ordA_append, List.take_append_drop]
  rw [e2, e]
  rw [ordA_idx (by simp), List.idxOf_append, if_neg h]
  simp
def ncl (l : List K) : Nat := (ordA [] l).length
theorem canL_range (l : List K) (x : Int) (h : x ∈ canL l) : 0 ≤ x ∧ x < ncl l := by
  rw [canL, num_eq] at h
  obtain ⟨y, hy, rfl⟩ := List.mem_map.1 h
  have := List.idxOf_lt_length_of_mem ((ordA_mem l [] y).2 (.inr hy))
  unfold ncl; omega
theorem idxOf_inj {l : List K} {x y : K} (hx : x ∈ l) (h : l.idxOf x = l.idxOf y) (hy : y ∈ l) : x = y := by
  have h1 := List.getElem_idxOf (List.idxOf_lt_length_of_mem hx)
  have h2 := List.getElem_idxOf (List.idxOf_lt_length_of_mem hy)
  rw [← h1, ← h2]; congr 1
theorem canL_eq_iff (l : List K) (i j : Nat) (hi : i < l.length) (hj : j < l.length) : (canL l)[i]'(by rw [canL_length]; exact hi) = (canL l)[j]'(by rw [canL_length]; exact hj) ↔ l[i] = l[j] := by
  rw [canL_get l i hi, canL_get l j hj]
  constructor
  · intro h
    exact idxOf_inj ((ordA_mem l [] _).2 (.inr (List.getElem_mem hi))) (by omega) ((ordA_mem l [] _).2 (.inr (List.getElem_mem hj)))
  · intro h; rw [h]
theorem canL_surj (l : List K) (c : Nat) (h' : c < ncl l) : ∃ i, ∃ hi : i < l.length, (canL l)[i]'(by rw [canL_length]; exact hi) = c := by
  have h : c < (ordA [] l).length := h'
  have hm : (ordA [] l)[c] ∈ l := by
    rcases (ordA_mem l [] _).1 (List.getElem_mem h) with g | g
    · cases g
    · exact g
  obtain ⟨i, hi, e⟩ := List.mem_iff_getElem.1 hm
  refine ⟨i, hi, ?_⟩
  rw [canL_get l i hi, e, (ordA_nodup l [] (by simp)).idxOf_getElem]
end

/-- Lists with the same kernel are numbered alike. -/
theorem num_congr {K K' : Type} [DecidableEq K] [DecidableEq K'] : ∀ (l : List K) (l' : List K') (acc : List K) (acc' : List K'), l.length = l'.length → acc.length = acc'.length →
    (∀ (i : Nat) x x', l[i]? = some x → l'[i]? = some x' → ∀ (t : Nat) y y', acc[t]? = some y → acc'[t]? = some y' → (y = x ↔ y' = x')) →
    (∀ (i j : Nat) x x' y y', l[i]? = some x → l'[i]? = some x' → l[j]? = some y → l'[j]? = some y' → (x = y ↔ x' = y')) → num acc l = num acc' l' ∧ (ordA acc l).length = (ordA acc' l').length
  | [], [], _, _, _, ha, _, _ => ⟨rfl, ha⟩
  | [], _ :: _, _, _, h, _, _, _ => by simp at h
  | _ :: _, [], _, _, h, _, _, _ => by simp at h
  | x :: l, x' :: l', acc, acc', h, ha, h1, h2 => by
    have hl : l.length = l'.length := by simpa using h
    have key : ∀ t : Nat, acc[t]? = some x ↔ acc'[t]? = some x' := by
      intro t
      constructor
      · intro ht
        have hlt := (List.getElem?_eq_some_iff.1 ht).1
        have ht' : acc'[t]? = some (acc'[t]'(by omega)) := List.getElem?_eq_getElem (by omega)
        rw [ht', (h1 0 x x' rfl rfl t _ _ ht ht').1 rfl]
      · intro ht
        have hlt := (List.getElem?_eq_some_iff.1 ht).1
        have ht' : acc[t]? = some (acc[t]'(by omega)) := List.getElem?_eq_getElem (by omega)
        rw [ht', (h1 0 x x' rfl rfl t _ _ ht' ht).2 rfl]
    have hmem : x ∈ acc ↔ x' ∈ acc' := by
      rw [List.mem_iff_getElem?, List.mem_iff_getElem?]
      exact ⟨fun ⟨t, ht⟩ => ⟨t, (key t).1 ht⟩, fun ⟨t, ht⟩ => ⟨t, (key t).2 ht⟩⟩
    unfold num ordA
    by_cases hx : x ∈ acc
    · have hx' := hmem.1 hx
      obtain ⟨g1, g2⟩ := num_congr l l' acc acc' hl ha (fun i y y' hy hy' => h1 (i + 1) y y' (by simpa using hy) (by simpa using hy'))
        (fun i j a a' b b' e1 e2 e3 e4 => h2 (i + 1) (j + 1) a a' b b' (by simpa using e1) (by simpa using e2) (by simpa using e3) (by simpa using e4))
      have hidx : acc.idxOf x = acc'.idxOf x' := by
        have a1 := List.idxOf_lt_length_of_mem hx; have a2 := List.idxOf_lt_length_of_mem hx'
        have b1 : acc[acc.idxOf x]? = some x := by rw [List.getElem?_eq_getElem a1, List.getElem_idxOf a1]
        have b2 : acc'[acc'.idxOf x']? = some x' := by rw [List.getElem?_eq_getElem a2, List.getElem_idxOf a2]
        have c1 := (key _).1 b1; have c2 := (key _).2 b2
        have le1 : ∀ {K : Type} [DecidableEq K] (l : List K) (z : K) (t : Nat), l[t]? = some z → l.idxOf z ≤ t := by
          intro K _ l z t ht
          induction l generalizing t with
          | nil => simp at ht
          | cons y l ih =>
            rw [List.idxOf_cons]
            cases t with
            | zero => simp at ht; subst ht; simp
            | succ t =>
              by_cases hy : y == z
              · simp [hy]
              · simp only [hy, cond_false]; have := ih t (by simpa using ht); omega
        have d1 := le1 _ _ _ c1; have d2 := le1 _ _ _ c2
        omega
      rw [if_pos hx, if_pos hx', if_pos hx, if_pos hx', hidx, g1]; exact ⟨rfl, g2⟩
    · have hx' : x' ∉ acc' := fun h => hx (hmem.2 h)
      have grow : ∀ (i : Nat) y y', l[i]? = some y → l'[i]? = some y' → ∀ (t : Nat) z z', (acc ++ [x])[t]? = some z → (acc' ++ [x'])[t]? = some z' → (z = y ↔ z' = y') := by
        intro i y y' hy hy' t z z' hz hz'
        by_cases ht : t < acc.length
        · rw [List.getElem?_append_left ht] at hz
          rw [List.getElem?_append_left (by omega)] at hz'
          exact h1 (i + 1) y y' (by simpa using hy) (by simpa using hy') t z z' hz hz'
        · have e := (List.getElem?_eq_some_iff.1 hz).1
          simp at e
          obtain rfl : t = acc.length := by omega
          rw [List.getElem?_append_right (by omega)] at hz
          rw [List.getElem?_append_right (by omega)] at hz'
          simp at hz; simp [ha] at hz'
          subst hz; subst hz'
          exact h2 0 (i + 1) x x' y y' rfl rfl (by simpa using hy) (by simpa using hy')
      obtain ⟨g1, g2⟩ := num_congr l l' (acc ++ [x]) (acc' ++ [x']) hl (by simp [ha]) grow
        (fun i j a a' b b' e1 e2 e3 e4 => h2 (i + 1) (j + 1) a a' b b' (by simpa using e1) (by simpa using e2) (by simpa using e3) (by simpa using e4))
      rw [if_neg hx, if_neg hx', if_neg hx, if_neg hx', ha, g1]; exact ⟨rfl, g2⟩
theorem canL_congr {K K' : Type} [DecidableEq K] [DecidableEq K'] {l : List K} {l' : List K'} (h : l.length = l'.length)
    (hk : ∀ i j (hi : i < l.length) (hj : j < l.length), l[i] = l[j] ↔ l'[i]'(by omega) = l'[j]'(by omega)) : canL l = canL l' ∧ ncl l = ncl l' := by
  refine num_congr l l' [] [] h rfl (fun i x x' _ _ t y y' ht _ => by simp at ht) (fun i j x x' y y' h1 h2 h3 h4 => ?_)
  obtain ⟨i1, rfl⟩ := List.getElem?_eq_some_iff.1 h1
  obtain ⟨_, rfl⟩ := List.getElem?_eq_some_iff.1 h2
  obtain ⟨j1, rfl⟩ := List.getElem?_eq_some_iff.1 h3
  obtain ⟨_, rfl⟩ := List.getElem?_eq_some_iff.1 h4
  exact hk i j i1 j1
theorem canL_idem {K : Type} [DecidableEq K] (l : List K) : canL (canL l) = canL l ∧ ncl (canL l) = ncl l :=
  canL_congr (canL_length l) (fun i j hi hj => by rw [canL_length] at hi hj; exact canL_eq_iff l i j hi hj)

/-- Without repetition, all among the others: not more. -/
theorem nodup_le {K : Type} [DecidableEq K] : ∀ {u v : List K}, u.Nodup → (∀ x ∈ u, x ∈ v) → u.length ≤ v.length
  | [], v, _, _ => by simp
  | x :: u, v, hn, h => by
    have hx := h x (by simp)
    have h1 := nodup_le (u := u) (v := v.erase x) (List.nodup_cons.1 hn).2 (fun y hy => (List.mem_erase_of_ne (fun e => (List.nodup_cons.1 hn).1 (by rw [← e]; exact hy))).2 (h y (List.mem_cons_of_mem _ hy)))
    rw [List.length_erase_of_mem hx] at h1
    have := List.length_pos_of_mem hx
    simp; omega
theorem nodup_lt {K : Type} [DecidableEq K] {u v : List K} {z : K} (hn : u.Nodup) (h : ∀ x ∈ u, x ∈ v) (hz : z ∈ v) (hz' : z ∉ u) : u.length < v.length := by
  have := nodup_le (u := z :: u) (v := v) (List.nodup_cons.2 ⟨hz', hn⟩) (fun x hx => by rcases List.mem_cons.1 hx with rfl | hx; exact hz; exact h x hx)
  rw [List.length_cons] at this; exact this
/-- A one-to-one choice of a class of the finer list for each class of the coarser one. -/
theorem pick_classes {K K' : Type} [DecidableEq K] [DecidableEq K'] {l : List K} {l' : List K'} (h : l.length = l'.length)
    (hr : ∀ i j (hi : i < l.length) (hj : j < l.length), l'[i]'(by omega) = l'[j]'(by omega) → l[i] = l[j]) : ∀ (u : List K), u.Nodup → (∀ x ∈ u, x ∈ l) →
    ∃ v : List K', v.Nodup ∧ v.length = u.length ∧ ∀ y ∈ v, ∃ i, ∃ hi : i < l.length, l'[i]'(by omega) = y ∧ l[i] ∈ u
  | [], _, _ => ⟨[], by simp, rfl, fun _ h => by cases h⟩
  | x :: u, hnd, hu => by
    obtain ⟨v, h1, h2, h3⟩ := pick_classes h hr u (List.nodup_cons.1 hnd).2 (fun y hy => hu y (List.mem_cons_of_mem _ hy))
    obtain ⟨i, hi, rfl⟩ := List.mem_iff_getElem.1 (hu x (by simp))
    refine ⟨l'[i]'(by omega) :: v, ?_, by simp [h2], ?_⟩
    · rw [List.nodup_cons]
      refine ⟨fun hm => ?_, h1⟩
      obtain ⟨j, hj, e, hm'⟩ := h3 _ hm
      exact (List.nodup_cons.1 hnd).1 (by rw [← hr j i hj hi e]; exact hm')
    · intro y hy
      rcases List.mem_cons.1 hy with rfl | hy
      · exact ⟨i, hi, rfl, by simp⟩
      · obtain ⟨j, hj, e, hm⟩ := h3 y hy
        exact ⟨j, hj, e, List.mem_cons_of_mem _ hm⟩
/-- A finer list has not fewer classes; strictly more where it is strictly finer. -/
theorem ncl_le {K K' : Type} [DecidableEq K] [DecidableEq K'] {l : List K} {l' : List K'} (h : l.length = l'.length)
    (hr : ∀ i j (hi : i < l.length) (hj : j < l.length), l'[i]'(by omega) = l'[j]'(by omega) → l[i] = l[j]) : ncl l ≤ ncl l' := by
  obtain ⟨v, h1, h2, h3⟩ := pick_classes h hr (ordA [] l) (ordA_nodup l [] (by simp)) (fun x hx => by rcases (ordA_mem l [] x).1 hx with g | g; cases g; exact g)
  unfold ncl
  rw [← h2]
  refine nodup_le h1 (fun y hy => ?_)
  obtain ⟨i, hi, rfl, _⟩ := h3 y hy
  exact (ordA_mem l' [] _).2 (.inr (List.getElem_mem _))
theorem ncl_lt {K K' : Type} [DecidableEq K] [DecidableEq K'] {l : List K} {l' : List K'} (h : l.length = l'.length)
    (hr : ∀ i j (hi : i < l.length) (hj : j < l.length), l'[i]'(by omega) = l'[j]'(by omega) → l[i] = l[j])
    (i j : Nat) (hi : i < l.length) (hj : j < l.length) (he : l[i] = l[j]) (hne : l'[i]'(by omega) ≠ l'[j]'(by omega)) : ncl l < ncl l' := by
  have nd := ordA_nodup l [] (by simp)
  have mem : ∀ x, x ∈ ordA [] l ↔ x ∈ l := fun x => by rw [ordA_mem]; simp
  obtain ⟨v, h1, h2, h3⟩ := pick_classes h hr ((ordA [] l).erase l[i]) (nd.erase _) (fun x hx => (mem x).1 (List.mem_of_mem_erase hx))
  have hm : l[i] ∈ ordA [] l := (mem _).2 (List.getElem_mem _)
  rw [List.length_erase_of_mem hm] at h2
  have hpos := List.length_pos_of_mem hm
  have notv : ∀ k (hk : k < l.length), l[k] = l[i] → l'[k]'(by omega) ∉ v := fun k hk e hv => by
    obtain ⟨m, hm1, e1, e2⟩ := h3 _ hv
    rw [hr m k hm1 hk e1, e] at e2
    exact (List.Nodup.not_mem_erase nd) e2
  have := nodup_le (u := l'[i]'(by omega) :: l'[j]'(by omega) :: v) (v := ordA [] l')
    (by
      rw [List.nodup_cons, List.nodup_cons]
      refine ⟨fun hx => ?_, notv j hj he.symm, h1⟩
      rcases List.mem_cons.1 hx with e | e
      · exact hne e
      · exact notv i hi rfl e)
    (fun y hy => by
      rw [ordA_mem]; refine .inr ?_
      rcases List.mem_cons.1 hy with rfl | hy
      · exact List.getElem_mem _
      rcases List.mem_cons.1 hy with rfl | hy
      · exact List.getElem_mem _
      obtain ⟨m, hm1, rfl, _⟩ := h3 y hy
      exact List.getElem_mem _)
  simp at this
  unfold ncl; omega
theorem ncl_le_length {K : Type} [DecidableEq K] (l : List K) : ncl l ≤ l.length := by
  have := ordA_length l []; simpa [ncl] using this
end Go.Proofs.Yteblfhhhbfodgaa.Sim
