/- Which transformations are permutations, their inverses, and that these are inverse. -/
import Derived.Test.YtimepajbnongoaaPTransInvertsx
import Derived.Test.YtimepajbnongoaaBase
namespace Go.Proofs.Ytimepajbnongoaa.Pure
open Go.RowKit Go.Proofs.Ytimepajbnongoaa.PTransInverts Go.Proofs.YtimepajbnongoaaW.PrintWords Go.Proofs.YtimepajbnongoaaW.PrintLast Go.Proofs.Ytimepajbnongoaa.Base

/-! trans_Valid: is it a transformation -/

theorem trans_Valid_loop (l : List Int) (hl : l.length ≤ 32) (d : Nat) : ∀ i : Nat, i + d = l.length → Ev (fun k => trans_Valid.l0 k l l (l.length : Int) (i : Int)) ((l.drop i).all (fun x => decide (0 ≤ x) && decide (x < l.length))) := by
  induction d with
  | zero =>
    intro i hd
    refine Ev.step (fun _ => trans_Valid.l0.eq_2 ..) (ev_neg (by omega) (ev_some ?_))
    rw [List.drop_eq_nil_of_le (by omega)]; rfl
  | succ d ih =>
    intro i hd
    refine Ev.step (fun _ => trans_Valid.l0.eq_2 ..) (ev_pos (by omega) (ev_pos (by omega) (ev_pos (by omega) ?_)))
    rw [List.drop_eq_getElem_cons (show i < l.length by omega), List.all_cons, rd_lt (show i < l.length by omega)]
    refine ev_ite (fun h => ev_some ?_) (fun h => ev_ite (fun h2 => ev_some ?_) (fun h2 => ?_))
    · rw [decide_eq_false (show ¬ (0 ≤ l[i]) by omega)]; rfl
    · rw [decide_eq_false (show ¬ (l[i] < l.length) by omega), Bool.and_false]; rfl
    · rw [decide_eq_true (show 0 ≤ l[i] by omega), decide_eq_true (show l[i] < l.length by omega), wrap64_nat (by omega) (by omega)]
      exact ih (i + 1) (by omega)
theorem trans_Valid_ev (l : List Int) : Ev (fun k => trans_Valid.f k l) (isT l) := by
  unfold trans_Valid.f isT
  refine ev_ite (fun h => ?_) (fun h => ?_)
  · refine Ev.step (fun _ => trans_Valid.j0.eq_2 ..) (ev_pos rfl (ev_some ?_))
    rw [decide_eq_false (show ¬ (1 ≤ l.length) by omega)]; rfl
  · refine Ev.step (fun _ => trans_Valid.j0.eq_2 ..) (ev_ite (fun h2 => ev_some ?_) (fun h2 => ?_))
    · rw [decide_eq_false (show ¬ (l.length ≤ 32) by simp at h2; omega)]; simp
    · have h3 : l.length ≤ 32 := by simp at h2; omega
      rw [decide_eq_true h3, decide_eq_true (show 1 ≤ l.length by omega)]
      exact trans_Valid_loop l h3 l.length 0 (by omega)
/-! trans_compose: the product -/
theorem trans_compose_loop (f g : List Int) (hl : f.length ≤ 35184372088832) (h : ∀ x ∈ f, 0 ≤ x ∧ x < g.length) (d : Nat) : ∀ i : Nat, i + d = f.length → Ev (fun k => trans_compose.l0 k g (fillAt (cmp f g) 0 i) f (f.length : Int) (i : Int)) (cmp f g) := by
  have hc : (cmp f g).length = f.length := cmp_length f g
  induction d with
  | zero =>
    intro i hd
    refine Ev.step (fun _ => trans_compose.l0.eq_2 ..) (ev_neg (by omega) (ev_some ?_))
    rw [show i = (cmp f g).length by omega, fillAt_all]
  | succ d ih =>
    intro i hd
    have hi : i < f.length := by omega
    have hx := h f[i] (List.getElem_mem hi)
    refine Ev.step (fun _ => trans_compose.l0.eq_2 ..) (ev_pos (by omega) (ev_pos (by omega) (ev_pos (by omega) ?_)))
    rw [rd_lt hi]
    refine ev_pos hx.1 (ev_pos hx.2 (ev_pos (by rw [fillAt_length _ _ (by omega)]; omega) ?_))
    have e : rd g f[i] = (cmp f g)[i] := by simp [cmp]
    rw [wrap64_nat (by omega) (by omega), e, Int.toNat_natCast, fillAt_set _ _ (by omega)]
    exact ih (i + 1) (by omega)
theorem trans_compose_ev (f g : List Int) (hl : f.length ≤ 35184372088832) (h : ∀ x ∈ f, 0 ≤ x ∧ x < g.length) : Ev (fun k => trans_compose.f k f g) (cmp f g) := by
  unfold trans_compose.f
  refine ev_pos (by omega) (ev_pos (by omega) ?_)
  have := trans_compose_loop f g hl h f.length 0 (by omega)
  rwa [fillAt_zero, cmp_length] at this
/-! trans_Compose -/
def Comp (f g : List Int) : List Int := if f.length = g.length ∧ isT f = true ∧ isT g = true then cmp f g else []
theorem trans_Compose_ev (f g : List Int) : Ev (fun k => trans_Compose.f k f g) (Comp f g) := by
  unfold trans_Compose.f Comp
  refine ev_ite (fun h => ?_) (fun h => ev_some (by rw [if_neg (by omega)]))
  refine ev_bind _ (trans_Valid_ev f) (ev_ite (fun hf => ev_bind _ (trans_Valid_ev g) (ev_ite (fun hg => ?_) (fun hg => ev_some (by rw [if_neg (by simp [hg])])))) (fun hf => ev_some (by rw [if_neg (by simp [hf])])))
  obtain ⟨_, hl, hm⟩ := isT_iff.1 hf
  have hn : f.length = g.length := by omega
  refine ev_bind _ (trans_compose_ev f g (by omega) (fun x hx => by have := hm x hx; omega)) (ev_some ?_)
  rw [if_pos ⟨hn, hf, hg⟩]
/-! partition_Discrete: 0, 1, .. -/
theorem partition_Discrete_loop (n : Nat) (hl : n ≤ 35184372088832) (d : Nat) : ∀ i : Nat, i + d = n → Ev (fun k => partition_Discrete.l0 k (fillAt (iota n) 0 i) (n : Int) (i : Int)) (iota n) := by
  have hn := iota_length n
  induction d with
  | zero =>
    intro i hd
    refine Ev.step (fun _ => partition_Discrete.l0.eq_2 ..) (ev_neg (by omega) (ev_some ?_))
    rw [show i = (iota n).length by omega, fillAt_all]
  | succ d ih =>
    intro i hd
    refine Ev.step (fun _ => partition_Discrete.l0.eq_2 ..) (ev_pos (by omega) (ev_pos (by omega) (ev_pos (by rw [fillAt_length _ _ (by omega)]; omega) ?_)))
    have hi : i < (iota n).length := by omega
    have e : (i : Int) = (iota n)[i] := (iota_get hi).symm
    have h := ih (i + 1) (by omega)
    rw [← fillAt_set _ _ hi, ← e] at h
    rw [wrap64_nat (by omega) (by omega), Int.toNat_natCast]
    exact h
theorem partition_Discrete_ev (n : Int) (h0 : 0 ≤ n) (h1 : n ≤ 4096) : Ev (fun k => partition_Discrete.f k n) (iota n.toNat) := by
  unfold partition_Discrete.f
  refine ev_neg (by omega) (Ev.step (fun _ => partition_Discrete.j0.eq_2 ..) (ev_neg (by simp; omega) (ev_pos h0 (ev_pos (by omega) (ev_bind1 ?_)))))
  have h := partition_Discrete_loop n.toNat (by omega) n.toNat 0 (by omega)
  rw [fillAt_zero, iota_length] at h
  rw [List.length_replicate]
  exact h
/-- trans_Identity -/
def idT (n : Int) : List Int := if 1 ≤ n ∧ n ≤ 32 then iota n.toNat else []
theorem trans_Identity_ev (n : Int) : Ev (fun k => trans_Identity.f k n) (idT n) := by
  unfold trans_Identity.f idT
  refine ev_ite (fun h => ev_some (by rw [if_neg (by omega)])) (fun h => ev_ite (fun h2 => ev_some (by rw [if_neg (by omega)])) (fun h2 => ?_))
  rw [if_pos (by omega)]
  exact ev_bind _ (partition_Discrete_ev n (by omega) (by omega)) (ev_some rfl)
/-! trans_Image.l1: the places that hold true -/
theorem trans_Image_members (s : List Bool) (hl : s.length ≤ 17592186044416) (d : Nat) : ∀ i : Nat, i + d = s.length → Ev (fun k => trans_Image.l1 k ((iota i).filter (fun x => rdOf false s x)) s (s.length : Int) (i : Int)) (membersOf s) := by
  induction d with
  | zero =>
    intro i hd
    refine Ev.step (fun _ => trans_Image.l1.eq_2 ..) (ev_neg (by omega) (ev_some ?_))
    rw [show i = s.length by omega]; rfl
  | succ d ih =>
    intro i hd
    have h := ih (i + 1) (by omega)
    rw [iota_succ, List.filter_append] at h
    refine Ev.step (fun _ => trans_Image.l1.eq_2 ..) (ev_pos (by omega) (ev_pos (by omega) (ev_pos (by omega) ?_)))
    rw [wrap64_nat (by omega) (by omega)]
    refine ev_ite (fun hb => ev_pos ?_ ?_) (fun hb => ?_)
    · have := List.length_filter_le (fun x => rdOf false s x) (iota i)
      rw [iota_length] at this
      omega
    · rw [List.filter_cons_of_pos hb] at h
      exact h
    · rw [List.filter_cons_of_neg hb, List.filter_nil, List.append_nil] at h
      exact h
theorem trans_Image_loop (f : List Int) (hl : f.length ≤ 32) (h : ∀ x ∈ f, 0 ≤ x ∧ x < f.length) (d : Nat) : ∀ i : Nat, i + d = f.length → Ev (fun k => trans_Image.l0 k (marks f.length (f.take i)) f (f.length : Int) (i : Int)) (imageOf f) := by
  induction d with
  | zero =>
    intro i hd
    refine Ev.step (fun _ => trans_Image.l0.eq_2 ..) (ev_neg (by omega) ?_)
    rw [List.take_of_length_le (by omega)]
    have := trans_Image_members (marks f.length f) (by rw [marks_length]; omega) f.length 0 (by rw [marks_length]; omega)
    exact this
  | succ d ih =>
    intro i hd
    have hi : i < f.length := by omega
    have hx := h f[i] (List.getElem_mem hi)
    refine Ev.step (fun _ => trans_Image.l0.eq_2 ..) (ev_pos (by omega) (ev_pos (by omega) (ev_pos (by omega) ?_)))
    rw [rd_lt hi]
    refine ev_pos hx.1 (ev_pos (by rw [marks_length]; omega) ?_)
    rw [wrap64_nat (by omega) (by omega), marks_set hx.1]
    have := ih (i + 1) (by omega)
    rwa [List.take_succ_eq_append_getElem hi] at this
/-- trans_Image -/
def imgT (f : List Int) : List Int := if isT f = true then imageOf f else []
theorem trans_Image_ev (f : List Int) : Ev (fun k => trans_Image.f k f) (imgT f) := by
  unfold trans_Image.f imgT
  refine ev_bind _ (trans_Valid_ev f) (ev_ite (fun hv => ?_) (fun hv => ev_some (by rw [if_neg hv])))
  obtain ⟨_, hl, hm⟩ := isT_iff.1 hv
  refine ev_pos (by omega) (ev_pos (by omega) ?_)
  rw [if_pos hv]
  have := trans_Image_loop f hl hm f.length 0 (by omega)
  rwa [List.take_zero, marks_nil] at this
theorem trans_Rank_ev (f : List Int) : Ev (fun k => trans_Rank.f k f) ((imgT f).length : Int) := by
  unfold trans_Rank.f
  exact ev_bind _ (trans_Image_ev f) (ev_some rfl)
/-! trans_Inverse: the loop that fills the inverse -/
theorem trans_Inverse_loop (f : List Int) (hl : f.length ≤ 35184372088832) (hf : ∀ x ∈ f, 0 ≤ x ∧ x < f.length) (d : Nat) : ∀ i : Nat, i + d = f.length →
    Ev (fun k => trans_Inverse.l0 k ((List.range i).foldl (fun (acc : List Int) (j : Nat) => acc.set (rd f (j : Int)).toNat (j : Int)) (List.replicate f.length 0)) f (f.length : Int) (i : Int)) (invL f) := by
  induction d with
  | zero =>
    intro i hd
    refine Ev.step (fun _ => trans_Inverse.l0.eq_2 ..) (ev_neg (by omega) (ev_some ?_))
    rw [show i = f.length by omega]; rfl
  | succ d ih =>
    intro i hd
    have hi : i < f.length := by omega
    have hx := hf f[i] (List.getElem_mem hi)
    have h2 := ih (i + 1) (by omega)
    rw [fold_succ] at h2
    refine Ev.step (fun _ => trans_Inverse.l0.eq_2 ..) (ev_pos (by omega) (ev_pos (by omega) (ev_pos (by omega) ?_)))
    refine ev_pos (by rw [rd_lt hi]; exact hx.1) (ev_pos (by rw [rd_lt hi, fold_length, List.length_replicate]; exact hx.2) ?_)
    rw [wrap64_nat (by omega) (by omega)]
    exact h2
/-- trans_IsPermutation -/
def permB (f : List Int) : Bool := isT f && decide ((imageOf f).length = f.length)
theorem trans_IsPermutation_ev (f : List Int) : Ev (fun k => trans_IsPermutation.f k f) (permB f) := by
  unfold trans_IsPermutation.f permB
  refine ev_bind _ (trans_Valid_ev f) (ev_ite (fun hv => ev_bind _ (trans_Rank_ev f) (ev_some ?_)) (fun hv => ev_some (by simp [hv])))
  simp only [imgT, hv, if_true, Bool.true_and]
  rw [Bool.eq_iff_iff]
  simp
  omega
def invT (f : List Int) : List Int := if permB f = true then invL f else []
theorem trans_Inverse_ev (f : List Int) : Ev (fun k => trans_Inverse.f k f) (invT f) := by
  unfold trans_Inverse.f invT
  refine ev_bind _ (trans_IsPermutation_ev f) (ev_ite (fun hp => ?_) (fun hp => ev_some (by rw [if_neg hp])))
  have hv : isT f = true := by unfold permB at hp; simp only [Bool.and_eq_true] at hp; exact hp.1
  obtain ⟨_, hl, hm⟩ := isT_iff.1 hv
  rw [if_pos hp]
  refine ev_pos (by omega) (ev_pos (by omega) ?_)
  exact trans_Inverse_loop f (by omega) hm f.length 0 (by omega)
/-! semigroupref11_Valid: is it a transformation -/

theorem semigroupref11_Valid_loop (l : List Int) (hl : l.length ≤ 32) (d : Nat) : ∀ i : Nat, i + d = l.length → Ev (fun k => semigroupref11_Valid.l0 k l l (l.length : Int) (i : Int)) ((l.drop i).all (fun x => decide (0 ≤ x) && decide (x < l.length))) := by
  induction d with
  | zero =>
    intro i hd
    refine Ev.step (fun _ => semigroupref11_Valid.l0.eq_2 ..) (ev_neg (by omega) (ev_some ?_))
    rw [List.drop_eq_nil_of_le (by omega)]; rfl
  | succ d ih =>
    intro i hd
    refine Ev.step (fun _ => semigroupref11_Valid.l0.eq_2 ..) (ev_pos (by omega) (ev_pos (by omega) (ev_pos (by omega) ?_)))
    rw [List.drop_eq_getElem_cons (show i < l.length by omega), List.all_cons, rd_lt (show i < l.length by omega)]
    refine ev_ite (fun h => ev_some ?_) (fun h => ev_ite (fun h2 => ev_some ?_) (fun h2 => ?_))
    · rw [decide_eq_false (show ¬ (0 ≤ l[i]) by omega)]; rfl
    · rw [decide_eq_false (show ¬ (l[i] < l.length) by omega), Bool.and_false]; rfl
    · rw [decide_eq_true (show 0 ≤ l[i] by omega), decide_eq_true (show l[i] < l.length by omega), wrap64_nat (by omega) (by omega)]
      exact ih (i + 1) (by omega)
theorem semigroupref11_Valid_ev (l : List Int) : Ev (fun k => semigroupref11_Valid.f k l) (isT l) := by
  unfold semigroupref11_Valid.f isT
  refine ev_ite (fun h => ?_) (fun h => ?_)
  · refine Ev.step (fun _ => semigroupref11_Valid.j0.eq_2 ..) (ev_pos rfl (ev_some ?_))
    rw [decide_eq_false (show ¬ (1 ≤ l.length) by omega)]; rfl
  · refine Ev.step (fun _ => semigroupref11_Valid.j0.eq_2 ..) (ev_ite (fun h2 => ev_some ?_) (fun h2 => ?_))
    · rw [decide_eq_false (show ¬ (l.length ≤ 32) by simp at h2; omega)]; simp
    · have h3 : l.length ≤ 32 := by simp at h2; omega
      rw [decide_eq_true h3, decide_eq_true (show 1 ≤ l.length by omega)]
      exact semigroupref11_Valid_loop l h3 l.length 0 (by omega)
/-! semigroupref03_Members.l0: the places that hold true -/
theorem semigroupref03_Members_members (s : List Bool) (hl : s.length ≤ 17592186044416) (d : Nat) : ∀ i : Nat, i + d = s.length → Ev (fun k => semigroupref03_Members.l0 k ((iota i).filter (fun x => rdOf false s x)) s (s.length : Int) (i : Int)) (membersOf s) := by
  induction d with
  | zero =>
    intro i hd
    refine Ev.step (fun _ => semigroupref03_Members.l0.eq_2 ..) (ev_neg (by omega) (ev_some ?_))
    rw [show i = s.length by omega]; rfl
  | succ d ih =>
    intro i hd
    have h := ih (i + 1) (by omega)
    rw [iota_succ, List.filter_append] at h
    refine Ev.step (fun _ => semigroupref03_Members.l0.eq_2 ..) (ev_pos (by omega) (ev_pos (by omega) (ev_pos (by omega) ?_)))
    rw [wrap64_nat (by omega) (by omega)]
    refine ev_ite (fun hb => ev_pos ?_ ?_) (fun hb => ?_)
    · have := List.length_filter_le (fun x => rdOf false s x) (iota i)
      rw [iota_length] at this
      omega
    · rw [List.filter_cons_of_pos hb] at h
      exact h
    · rw [List.filter_cons_of_neg hb, List.filter_nil, List.append_nil] at h
      exact h
theorem semigroupref03_Set_loop (l : List Int) (n : Nat) (hl : l.length ≤ 9223372036854775806) (d : Nat) : ∀ i : Nat, i + d = l.length → Ev (fun k => semigroupref03_Set.l0 k (n : Int) (marks n (l.take i)) l (l.length : Int) (i : Int)) (marks n l) := by
  induction d with
  | zero =>
    intro i hd
    refine Ev.step (fun _ => semigroupref03_Set.l0.eq_2 ..) (ev_neg (by omega) (ev_some ?_))
    rw [List.take_of_length_le (by omega)]
  | succ d ih =>
    intro i hd
    have hi : i < l.length := by omega
    have h2 := ih (i + 1) (by omega)
    rw [List.take_succ_eq_append_getElem hi] at h2
    refine Ev.step (fun _ => semigroupref03_Set.l0.eq_2 ..) (ev_pos (by omega) (ev_pos (by omega) (ev_pos (by omega) ?_)))
    rw [wrap64_nat (by omega) (by omega), rd_lt hi]
    refine ev_ite (fun h0 => ev_ite (fun h1 => ?_) (fun h1 => ?_)) (fun h0 => ?_)
    · refine ev_pos h0 (ev_pos (by rw [marks_length]; exact h1) ?_)
      rw [marks_set h0]; exact h2
    · rwa [marks_out (by omega)] at h2
    · rwa [marks_out (by omega)] at h2
theorem semigroupref03_Set_ev (l : List Int) (n : Nat) (hl : l.length ≤ 9223372036854775806) (hn : n ≤ 1000000000) : Ev (fun k => semigroupref03_Set.f k l (n : Int)) (marks n l) := by
  unfold semigroupref03_Set.f
  refine ev_pos (by omega) (ev_pos (by omega) ?_)
  have := semigroupref03_Set_loop l n hl l.length 0 (by omega)
  rw [List.take_zero, marks_nil] at this
  exact this
theorem semigroupref03_Members_ev (s : List Bool) (hl : s.length ≤ 17592186044416) : Ev (fun k => semigroupref03_Members.f k s) (membersOf s) := semigroupref03_Members_members s hl s.length 0 (by omega)
theorem semigroupref11_Image_ev (f : List Int) (hl : f.length ≤ 1000000000) : Ev (fun k => semigroupref11_Image.f k f) (imageOf f) := by
  unfold semigroupref11_Image.f
  exact ev_bind _ (semigroupref03_Set_ev f f.length (by omega) hl) (ev_bind _ (semigroupref03_Members_ev _ (by rw [marks_length]; omega)) (ev_some rfl))
/-! semigroupref11_Inverse: the loop that fills the inverse -/
theorem semigroupref11_Inverse_loop (f : List Int) (hl : f.length ≤ 35184372088832) (hf : ∀ x ∈ f, 0 ≤ x ∧ x < f.length) (d : Nat) : ∀ i : Nat, i + d = f.length →
    Ev (fun k => semigroupref11_Inverse.l0 k ((List.range i).foldl (fun (acc : List Int) (j : Nat) => acc.set (rd f (j : Int)).toNat (j : Int)) (List.replicate f.length 0)) f (f.length : Int) (i : Int)) (invL f) := by
  induction d with
  | zero =>
    intro i hd
    refine Ev.step (fun _ => semigroupref11_Inverse.l0.eq_2 ..) (ev_neg (by omega) (ev_some ?_))
    rw [show i = f.length by omega]; rfl
  | succ d ih =>
    intro i hd
    have hi : i < f.length := by omega
    have hx := hf f[i] (List.getElem_mem hi)
    have h2 := ih (i + 1) (by omega)
    rw [fold_succ] at h2
    refine Ev.step (fun _ => semigroupref11_Inverse.l0.eq_2 ..) (ev_pos (by omega) (ev_pos (by omega) (ev_pos (by omega) ?_)))
    refine ev_pos (by rw [rd_lt hi]; exact hx.1) (ev_pos (by rw [rd_lt hi, fold_length, List.length_replicate]; exact hx.2) ?_)
    rw [wrap64_nat (by omega) (by omega)]
    exact h2
theorem semigroupref11_IsPermutation_ev (f : List Int) : Ev (fun k => semigroupref11_IsPermutation.f k f) (permB f) := by
  unfold semigroupref11_IsPermutation.f permB
  refine ev_bind _ (semigroupref11_Valid_ev f) (ev_ite (fun hv => ?_) (fun hv => ev_some (by simp [hv])))
  have hl := (isT_iff.1 hv).2.1
  refine ev_bind _ (semigroupref11_Image_ev f (by omega)) (ev_some ?_)
  rw [hv, Bool.true_and, Bool.eq_iff_iff]
  simp
  omega
theorem semigroupref11_Inverse_ev (f : List Int) (hv : isT f = true) : Ev (fun k => semigroupref11_Inverse.f k f) (invL f) := by
  unfold semigroupref11_Inverse.f
  obtain ⟨_, hl, hm⟩ := isT_iff.1 hv
  refine ev_pos (by omega) (ev_pos (by omega) ?_)
  exact semigroupref11_Inverse_loop f (by omega) hm f.length 0 (by omega)
/-! semigroupref03_Same: equal lists of numbers -/
theorem semigroupref03_Same_loop (a b : List Int) (hl : a.length ≤ 9223372036854775806) (he : a.length = b.length) (d : Nat) : ∀ i : Nat, i + d = a.length → Ev (fun k => semigroupref03_Same.l0 k a b (a.length : Int) (i : Int)) (decide (a.drop i = b.drop i)) := by
  induction d with
  | zero =>
    intro i hd
    refine Ev.step (fun _ => semigroupref03_Same.l0.eq_2 ..) (ev_neg (by omega) (ev_some ?_))
    rw [List.drop_eq_nil_of_le (by omega), List.drop_eq_nil_of_le (by omega)]; rfl
  | succ d ih =>
    intro i hd
    refine Ev.step (fun _ => semigroupref03_Same.l0.eq_2 ..) (ev_pos (by omega) (ev_pos (by omega) (ev_pos (by omega) (ev_pos (by omega) ?_))))
    rw [List.drop_eq_getElem_cons (show i < a.length by omega), List.drop_eq_getElem_cons (show i < b.length by omega), rd_lt (show i < a.length by omega), rd_lt (show i < b.length by omega)]
    refine ev_ite (fun h => ?_) (fun h => ev_some (decide_eq_false (fun e => h (List.cons.inj e).1)).symm)
    rw [wrap64_nat (by omega) (by omega)]
    refine ev_to (ih (i + 1) (by omega)) (decide_eq_decide.2 ⟨fun e => by rw [h, e], fun e => (List.cons.inj e).2⟩)
theorem semigroupref03_Same_ev (a b : List Int) (hl : a.length ≤ 9223372036854775806) : Ev (fun k => semigroupref03_Same.f k a b) (decide (a = b)) := by
  unfold semigroupref03_Same.f
  refine ev_ite (fun h => ?_) (fun h => ev_some ?_)
  · have := semigroupref03_Same_loop a b hl (by omega) a.length 0 (by omega)
    simpa using this
  · rw [decide_eq_false]
    rintro rfl
    exact h rfl
theorem awake_ev : Ev (fun k => semigrouplaw11_awake.f k) true := Ev.of (fun k => semigrouplaw11_awake.mono k) (k := 8) (by decide +kernel)
theorem TransInverts : semigrouplaw11_TransInverts.Pure := by
  intro f _
  apply Ev.rounds
  unfold semigrouplaw11_TransInverts.f
  refine ev_bind _ (trans_IsPermutation_ev f) (ev_bind _ (trans_Inverse_ev f) (ev_bind _ (semigroupref11_IsPermutation_ev f) (ev_neg (by simp) (ev_ite (fun hp => ?_) (fun hp => ?_)))))
  · have hp' := hp
    unfold permB at hp'
    simp only [Bool.and_eq_true, decide_eq_true_eq] at hp'
    obtain ⟨hv, hr⟩ := hp'
    obtain ⟨n1, n2, hm⟩ := isT_iff.1 hv
    obtain ⟨hn, hs⟩ := perm_of hr
    have hi : isT (invL f) = true := isT_of (inv_isTr f) n1 n2
    have hl := (inv_isTr f).1
    have e : invT f = invL f := if_pos hp
    rw [e]
    have c1 : Ev (fun k => trans_Compose.f k f (invL f)) (iota f.length) := by
      have := trans_Compose_ev f (invL f)
      rwa [show Comp f (invL f) = cmp f (invL f) from if_pos ⟨hl.symm, hv, hi⟩, cmp_inv hm hn] at this
    have c2 : Ev (fun k => trans_Compose.f k (invL f) f) (iota f.length) := by
      have := trans_Compose_ev (invL f) f
      rwa [show Comp (invL f) f = cmp (invL f) f from if_pos ⟨hl, hi, hv⟩, inv_cmp hm hn hs] at this
    have c3 : Ev (fun k => trans_Identity.f k (f.length : Int)) (iota f.length) := by
      have := trans_Identity_ev (f.length : Int)
      rwa [show idT (f.length : Int) = iota f.length by simp [idT]; omega] at this
    have s : ∀ a : List Int, a.length ≤ 32 → Ev (fun k => semigroupref03_Same.f k a a) true := fun a ha => by simpa using semigroupref03_Same_ev a a (by omega)
    have r1 : Ev (fun k => trans_Rank.f k f) ((imageOf f).length : Int) := by simpa [imgT, hv] using trans_Rank_ev f
    refine ev_bind _ c3 (ev_bind _ (semigroupref11_Inverse_ev f hv) (ev_bind _ (s _ (by omega)) (ev_pos rfl (ev_bind _ c1 (ev_bind _ (s _ (by rw [iota_length]; exact n2)) (ev_pos rfl (ev_bind _ c2 (ev_bind _ (s _ (by rw [iota_length]; exact n2)) (ev_pos rfl (ev_bind _ r1 (ev_pos (by omega) (ev_bind _ awake_ev (ev_some rfl)))))))))))))
  · refine ev_pos ?_ (ev_bind _ awake_ev (ev_some rfl))
    simp [invT, hp]

end Go.Proofs.Ytimepajbnongoaa.Pure
