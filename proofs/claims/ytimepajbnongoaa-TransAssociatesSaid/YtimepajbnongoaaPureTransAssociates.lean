/- Products are associative, the identity is neutral, and the rank of a product is at most that of each factor: for all lists of whole numbers that are transformations of as many points. -/
import Derived.Test.YtimepajbnongoaaPTransAssociatesx
import Derived.Test.YtimepajbnongoaaBase
namespace Go.Proofs.Ytimepajbnongoaa.Pure
open Go.RowKit Go.Proofs.Ytimepajbnongoaa.PTransAssociates Go.Proofs.YtimepajbnongoaaW.PrintWords Go.Proofs.YtimepajbnongoaaW.PrintLast Go.Proofs.Ytimepajbnongoaa.Base

/-! trans_Valid: is it a transformation -/

theorem trans_Valid_loop (l : List Int) (hl : l.length ≤ 32) (d : Nat) : ∀ i : Nat, i + d = l.length → Ev (fun k => trans_Valid.l0 k l l (l.length : Int) (i : Int)) ((l.drop i).all (fun x => decide (0 ≤ x) && decide (x < l.length))) := by
  induction d with
  | zero =>
    intro i hd
    refine Ev.step (fun _ => trans_Valid.l0.eq_2 ..) (ev_neg (by omega) (ev_some ?_))
    rw [List.drop_eq_nil_of_le (by omega)]; rfl
  | succ d ih =>
    intro i hd
    refine Ev.step (fun _ => trans_Valid.l0.eq_2 ..) (ev_pos (by omega) (ev_pos (by omega) (ev_pos (by omega) ?_)))
    rw [List.drop_eq_getElem_cons (show i < l.length by omega), List.all_cons, rd_lt (show i < l.length by omega)]
    refine ev_ite (fun h => ev_some ?_) (fun h => ev_ite (fun h2 => ev_some ?_) (fun h2 => ?_))
    · rw [decide_eq_false (show ¬ (0 ≤ l[i]) by omega)]; rfl
    · rw [decide_eq_false (show ¬ (l[i] < l.length) by omega), Bool.and_false]; rfl
    · rw [decide_eq_true (show 0 ≤ l[i] by omega), decide_eq_true (show l[i] < l.length by omega), wrap64_nat (by omega) (by omega)]
      exact ih (i + 1) (by omega)
theorem trans_Valid_ev (l : List Int) : Ev (fun k => trans_Valid.f k l) (isT l) := by
  unfold trans_Valid.f isT
  refine ev_ite (fun h => ?_) (fun h => ?_)
  · refine Ev.step (fun _ => trans_Valid.j0.eq_2 ..) (ev_pos rfl (ev_some ?_))
    rw [decide_eq_false (show ¬ (1 ≤ l.length) by omega)]; rfl
  · refine Ev.step (fun _ => trans_Valid.j0.eq_2 ..) (ev_ite (fun h2 => ev_some ?_) (fun h2 => ?_))
    · rw [decide_eq_false (show ¬ (l.length ≤ 32) by simp at h2; omega)]; simp
    · have h3 : l.length ≤ 32 := by simp at h2; omega
      rw [decide_eq_true h3, decide_eq_true (show 1 ≤ l.length by omega)]
      exact trans_Valid_loop l h3 l.length 0 (by omega)
/-! trans_compose: the product -/
theorem trans_compose_loop (f g : List Int) (hl : f.length ≤ 35184372088832) (h : ∀ x ∈ f, 0 ≤ x ∧ x < g.length) (d : Nat) : ∀ i : Nat, i + d = f.length → Ev (fun k => trans_compose.l0 k g (fillAt (cmp f g) 0 i) f (f.length : Int) (i : Int)) (cmp f g) := by
  have hc : (cmp f g).length = f.length := cmp_length f g
  induction d with
  | zero =>
    intro i hd
    refine Ev.step (fun _ => trans_compose.l0.eq_2 ..) (ev_neg (by omega) (ev_some ?_))
    rw [show i = (cmp f g).length by omega, fillAt_all]
  | succ d ih =>
    intro i hd
    have hi : i < f.length := by omega
    have hx := h f[i] (List.getElem_mem hi)
    refine Ev.step (fun _ => trans_compose.l0.eq_2 ..) (ev_pos (by omega) (ev_pos (by omega) (ev_pos (by omega) ?_)))
    rw [rd_lt hi]
    refine ev_pos hx.1 (ev_pos hx.2 (ev_pos (by rw [fillAt_length _ _ (by omega)]; omega) ?_))
    have e : rd g f[i] = (cmp f g)[i] := by simp [cmp]
    rw [wrap64_nat (by omega) (by omega), e, Int.toNat_natCast, fillAt_set _ _ (by omega)]
    exact ih (i + 1) (by omega)
theorem trans_compose_ev (f g : List Int) (hl : f.length ≤ 35184372088832) (h : ∀ x ∈ f, 0 ≤ x ∧ x < g.length) : Ev (fun k => trans_compose.f k f g) (cmp f g) := by
  unfold trans_compose.f
  refine ev_pos (by omega) (ev_pos (by omega) ?_)
  have := trans_compose_loop f g hl h f.length 0 (by omega)
  rwa [fillAt_zero, cmp_length] at this
/-! trans_Compose -/
def Comp (f g : List Int) : List Int := if f.length = g.length ∧ isT f = true ∧ isT g = true then cmp f g else []
theorem trans_Compose_ev (f g : List Int) : Ev (fun k => trans_Compose.f k f g) (Comp f g) := by
  unfold trans_Compose.f Comp
  refine ev_ite (fun h => ?_) (fun h => ev_some (by rw [if_neg (by omega)]))
  refine ev_bind _ (trans_Valid_ev f) (ev_ite (fun hf => ev_bind _ (trans_Valid_ev g) (ev_ite (fun hg => ?_) (fun hg => ev_some (by rw [if_neg (by simp [hg])])))) (fun hf => ev_some (by rw [if_neg (by simp [hf])])))
  obtain ⟨_, hl, hm⟩ := isT_iff.1 hf
  have hn : f.length = g.length := by omega
  refine ev_bind _ (trans_compose_ev f g (by omega) (fun x hx => by have := hm x hx; omega)) (ev_some ?_)
  rw [if_pos ⟨hn, hf, hg⟩]
/-! partition_Discrete: 0, 1, .. -/
theorem partition_Discrete_loop (n : Nat) (hl : n ≤ 35184372088832) (d : Nat) : ∀ i : Nat, i + d = n → Ev (fun k => partition_Discrete.l0 k (fillAt (iota n) 0 i) (n : Int) (i : Int)) (iota n) := by
  have hn := iota_length n
  induction d with
  | zero =>
    intro i hd
    refine Ev.step (fun _ => partition_Discrete.l0.eq_2 ..) (ev_neg (by omega) (ev_some ?_))
    rw [show i = (iota n).length by omega, fillAt_all]
  | succ d ih =>
    intro i hd
    refine Ev.step (fun _ => partition_Discrete.l0.eq_2 ..) (ev_pos (by omega) (ev_pos (by omega) (ev_pos (by rw [fillAt_length _ _ (by omega)]; omega) ?_)))
    have hi : i < (iota n).length := by omega
    have e : (i : Int) = (iota n)[i] := (iota_get hi).symm
    have h := ih (i + 1) (by omega)
    rw [← fillAt_set _ _ hi, ← e] at h
    rw [wrap64_nat (by omega) (by omega), Int.toNat_natCast]
    exact h
theorem partition_Discrete_ev (n : Int) (h0 : 0 ≤ n) (h1 : n ≤ 4096) : Ev (fun k => partition_Discrete.f k n) (iota n.toNat) := by
  unfold partition_Discrete.f
  refine ev_neg (by omega) (Ev.step (fun _ => partition_Discrete.j0.eq_2 ..) (ev_neg (by simp; omega) (ev_pos h0 (ev_pos (by omega) (ev_bind1 ?_)))))
  have h := partition_Discrete_loop n.toNat (by omega) n.toNat 0 (by omega)
  rw [fillAt_zero, iota_length] at h
  rw [List.length_replicate]
  exact h
/-- trans_Identity -/
def idT (n : Int) : List Int := if 1 ≤ n ∧ n ≤ 32 then iota n.toNat else []
theorem trans_Identity_ev (n : Int) : Ev (fun k => trans_Identity.f k n) (idT n) := by
  unfold trans_Identity.f idT
  refine ev_ite (fun h => ev_some (by rw [if_neg (by omega)])) (fun h => ev_ite (fun h2 => ev_some (by rw [if_neg (by omega)])) (fun h2 => ?_))
  rw [if_pos (by omega)]
  exact ev_bind _ (partition_Discrete_ev n (by omega) (by omega)) (ev_some rfl)
/-! trans_Image.l1: the places that hold true -/
theorem trans_Image_members (s : List Bool) (hl : s.length ≤ 17592186044416) (d : Nat) : ∀ i : Nat, i + d = s.length → Ev (fun k => trans_Image.l1 k ((iota i).filter (fun x => rdOf false s x)) s (s.length : Int) (i : Int)) (membersOf s) := by
  induction d with
  | zero =>
    intro i hd
    refine Ev.step (fun _ => trans_Image.l1.eq_2 ..) (ev_neg (by omega) (ev_some ?_))
    rw [show i = s.length by omega]; rfl
  | succ d ih =>
    intro i hd
    have h := ih (i + 1) (by omega)
    rw [iota_succ, List.filter_append] at h
    refine Ev.step (fun _ => trans_Image.l1.eq_2 ..) (ev_pos (by omega) (ev_pos (by omega) (ev_pos (by omega) ?_)))
    rw [wrap64_nat (by omega) (by omega)]
    refine ev_ite (fun hb => ev_pos ?_ ?_) (fun hb => ?_)
    · have := List.length_filter_le (fun x => rdOf false s x) (iota i)
      rw [iota_length] at this
      omega
    · rw [List.filter_cons_of_pos hb] at h
      exact h
    · rw [List.filter_cons_of_neg hb, List.filter_nil, List.append_nil] at h
      exact h
theorem trans_Image_loop (f : List Int) (hl : f.length ≤ 32) (h : ∀ x ∈ f, 0 ≤ x ∧ x < f.length) (d : Nat) : ∀ i : Nat, i + d = f.length → Ev (fun k => trans_Image.l0 k (marks f.length (f.take i)) f (f.length : Int) (i : Int)) (imageOf f) := by
  induction d with
  | zero =>
    intro i hd
    refine Ev.step (fun _ => trans_Image.l0.eq_2 ..) (ev_neg (by omega) ?_)
    rw [List.take_of_length_le (by omega)]
    have := trans_Image_members (marks f.length f) (by rw [marks_length]; omega) f.length 0 (by rw [marks_length]; omega)
    exact this
  | succ d ih =>
    intro i hd
    have hi : i < f.length := by omega
    have hx := h f[i] (List.getElem_mem hi)
    refine Ev.step (fun _ => trans_Image.l0.eq_2 ..) (ev_pos (by omega) (ev_pos (by omega) (ev_pos (by omega) ?_)))
    rw [rd_lt hi]
    refine ev_pos hx.1 (ev_pos (by rw [marks_length]; omega) ?_)
    rw [wrap64_nat (by omega) (by omega), marks_set hx.1]
    have := ih (i + 1) (by omega)
    rwa [List.take_succ_eq_append_getElem hi] at this
/-- trans_Image -/
def imgT (f : List Int) : List Int := if isT f = true then imageOf f else []
theorem trans_Image_ev (f : List Int) : Ev (fun k => trans_Image.f k f) (imgT f) := by
  unfold trans_Image.f imgT
  refine ev_bind _ (trans_Valid_ev f) (ev_ite (fun hv => ?_) (fun hv => ev_some (by rw [if_neg hv])))
  obtain ⟨_, hl, hm⟩ := isT_iff.1 hv
  refine ev_pos (by omega) (ev_pos (by omega) ?_)
  rw [if_pos hv]
  have := trans_Image_loop f hl hm f.length 0 (by omega)
  rwa [List.take_zero, marks_nil] at this
theorem trans_Rank_ev (f : List Int) : Ev (fun k => trans_Rank.f k f) ((imgT f).length : Int) := by
  unfold trans_Rank.f
  exact ev_bind _ (trans_Image_ev f) (ev_some rfl)
/-! semigroupref11_Valid: is it a transformation -/

theorem semigroupref11_Valid_loop (l : List Int) (hl : l.length ≤ 32) (d : Nat) : ∀ i : Nat, i + d = l.length → Ev (fun k => semigroupref11_Valid.l0 k l l (l.length : Int) (i : Int)) ((l.drop i).all (fun x => decide (0 ≤ x) && decide (x < l.length))) := by
  induction d with
  | zero =>
    intro i hd
    refine Ev.step (fun _ => semigroupref11_Valid.l0.eq_2 ..) (ev_neg (by omega) (ev_some ?_))
    rw [List.drop_eq_nil_of_le (by omega)]; rfl
  | succ d ih =>
    intro i hd
    refine Ev.step (fun _ => semigroupref11_Valid.l0.eq_2 ..) (ev_pos (by omega) (ev_pos (by omega) (ev_pos (by omega) ?_)))
    rw [List.drop_eq_getElem_cons (show i < l.length by omega), List.all_cons, rd_lt (show i < l.length by omega)]
    refine ev_ite (fun h => ev_some ?_) (fun h => ev_ite (fun h2 => ev_some ?_) (fun h2 => ?_))
    · rw [decide_eq_false (show ¬ (0 ≤ l[i]) by omega)]; rfl
    · rw [decide_eq_false (show ¬ (l[i] < l.length) by omega), Bool.and_false]; rfl
    · rw [decide_eq_true (show 0 ≤ l[i] by omega), decide_eq_true (show l[i] < l.length by omega), wrap64_nat (by omega) (by omega)]
      exact ih (i + 1) (by omega)
theorem semigroupref11_Valid_ev (l : List Int) : Ev (fun k => semigroupref11_Valid.f k l) (isT l) := by
  unfold semigroupref11_Valid.f isT
  refine ev_ite (fun h => ?_) (fun h => ?_)
  · refine Ev.step (fun _ => semigroupref11_Valid.j0.eq_2 ..) (ev_pos rfl (ev_some ?_))
    rw [decide_eq_false (show ¬ (1 ≤ l.length) by omega)]; rfl
  · refine Ev.step (fun _ => semigroupref11_Valid.j0.eq_2 ..) (ev_ite (fun h2 => ev_some ?_) (fun h2 => ?_))
    · rw [decide_eq_false (show ¬ (l.length ≤ 32) by simp at h2; omega)]; simp
    · have h3 : l.length ≤ 32 := by simp at h2; omega
      rw [decide_eq_true h3, decide_eq_true (show 1 ≤ l.length by omega)]
      exact semigroupref11_Valid_loop l h3 l.length 0 (by omega)
def pairB (f g : List Int) : Bool := isT f && (isT g && decide (f.length = g.length))
theorem pair_ev (f g : List Int) : Ev (fun k => semigrouplaw11_pair.f k f g) (pairB f g) := by
  unfold semigrouplaw11_pair.f pairB
  refine ev_bind _ (semigroupref11_Valid_ev f) (ev_ite (fun hf => ?_) (fun hf => ev_some (by simp [hf])))
  refine ev_bind _ (semigroupref11_Valid_ev g) (ev_ite (fun hg => ev_some ?_) (fun hg => ev_some (by simp [hg])))
  rw [hf, hg]
  by_cases h : f.length = g.length
  · simp [h]
  · simp [h]; omega
theorem pairB_iff {f g : List Int} : pairB f g = true ↔ isT f = true ∧ isT g = true ∧ f.length = g.length := by simp [pairB]
/-! semigroupref03_Same: equal lists of numbers -/
theorem semigroupref03_Same_loop (a b : List Int) (hl : a.length ≤ 9223372036854775806) (he : a.length = b.length) (d : Nat) : ∀ i : Nat, i + d = a.length → Ev (fun k => semigroupref03_Same.l0 k a b (a.length : Int) (i : Int)) (decide (a.drop i = b.drop i)) := by
  induction d with
  | zero =>
    intro i hd
    refine Ev.step (fun _ => semigroupref03_Same.l0.eq_2 ..) (ev_neg (by omega) (ev_some ?_))
    rw [List.drop_eq_nil_of_le (by omega), List.drop_eq_nil_of_le (by omega)]; rfl
  | succ d ih =>
    intro i hd
    refine Ev.step (fun _ => semigroupref03_Same.l0.eq_2 ..) (ev_pos (by omega) (ev_pos (by omega) (ev_pos (by omega) (ev_pos (by omega) ?_))))
    rw [List.drop_eq_getElem_cons (show i < a.length by omega), List.drop_eq_getElem_cons (show i < b.length by omega), rd_lt (show i < a.length by omega), rd_lt (show i < b.length by omega)]
    refine ev_ite (fun h => ?_) (fun h => ev_some (decide_eq_false (fun e => h (List.cons.inj e).1)).symm)
    rw [wrap64_nat (by omega) (by omega)]
    refine ev_to (ih (i + 1) (by omega)) (decide_eq_decide.2 ⟨fun e => by rw [h, e], fun e => (List.cons.inj e).2⟩)
theorem semigroupref03_Same_ev (a b : List Int) (hl : a.length ≤ 9223372036854775806) : Ev (fun k => semigroupref03_Same.f k a b) (decide (a = b)) := by
  unfold semigroupref03_Same.f
  refine ev_ite (fun h => ?_) (fun h => ev_some ?_)
  · have := semigroupref03_Same_loop a b hl (by omega) a.length 0 (by omega)
    simpa using this
  · rw [decide_eq_false]
    rintro rfl
    exact h rfl
theorem awake_ev : Ev (fun k => semigrouplaw11_awake.f k) true := Ev.of (fun k => semigrouplaw11_awake.mono k) (k := 8) (by decide +kernel)
theorem comp_of {f g : List Int} (h : f.length = g.length) (hf : isT f = true) (hg : isT g = true) : Comp f g = cmp f g := if_pos ⟨h, hf, hg⟩
theorem TransAssociates : semigrouplaw11_TransAssociates.Pure := by
  intro f g h _ _ _
  apply Ev.rounds
  unfold semigrouplaw11_TransAssociates.f
  have idle : ∀ a b c : List Int, Ev (fun k => semigrouplaw11_TransAssociates.j0 k a b c true) true := fun a b c =>
    Ev.step (fun _ => semigrouplaw11_TransAssociates.j0.eq_2 ..) (ev_pos rfl (ev_bind _ awake_ev (ev_some rfl)))
  refine ev_bind _ (pair_ev f g) (ev_ite (fun h1 => ev_bind _ (pair_ev g h) ?_) (fun _ => idle _ _ _))
  obtain ⟨tf, tg, lfg⟩ := pairB_iff.1 h1
  cases h2 : pairB g h with
  | false => exact idle _ _ _
  | true =>
    obtain ⟨_, th, lgh⟩ := pairB_iff.1 h2
    obtain ⟨n1, n2, mf⟩ := isT_iff.1 tf
    obtain ⟨_, _, mg⟩ := isT_iff.1 tg
    have tfg := cmp_isT tf tg lfg
    have tgh := cmp_isT tg th lgh
    have lf : ∀ x y : List Int, (cmp x y).length = x.length := cmp_length
    have c1 : Ev (fun k => trans_Compose.f k f g) (cmp f g) := comp_of lfg tf tg ▸ trans_Compose_ev f g
    have c2 : Ev (fun k => trans_Compose.f k (cmp f g) h) (cmp (cmp f g) h) := comp_of (by rw [lf]; omega) tfg th ▸ trans_Compose_ev (cmp f g) h
    have c3 : Ev (fun k => trans_Compose.f k g h) (cmp g h) := comp_of lgh tg th ▸ trans_Compose_ev g h
    have c4 : Ev (fun k => trans_Compose.f k f (cmp g h)) (cmp f (cmp g h)) := comp_of (by rw [lf]; omega) tf tgh ▸ trans_Compose_ev f (cmp g h)
    have hid : idT (f.length : Int) = iota f.length := by simp [idT]; omega
    have ti : isT (iota f.length) = true := isT_of (isTr_iota _) n1 n2
    have c5 : Ev (fun k => trans_Identity.f k (f.length : Int)) (iota f.length) := hid ▸ trans_Identity_ev (f.length : Int)
    have c6 : Ev (fun k => trans_Compose.f k (iota f.length) f) f := by
      have := trans_Compose_ev (iota f.length) f
      rwa [comp_of (iota_length _) ti tf, iota_cmp] at this
    have c7 : Ev (fun k => trans_Compose.f k f (iota f.length)) f := by
      have := trans_Compose_ev f (iota f.length)
      rwa [comp_of (iota_length _).symm tf ti, cmp_iota mf] at this
    have r1 : Ev (fun k => trans_Rank.f k (cmp f g)) ((imageOf (cmp f g)).length : Int) := by simpa [imgT, tfg] using trans_Rank_ev (cmp f g)
    have r2 : Ev (fun k => trans_Rank.f k f) ((imageOf f).length : Int) := by simpa [imgT, tf] using trans_Rank_ev f
    have r3 : Ev (fun k => trans_Rank.f k g) ((imageOf g).length : Int) := by simpa [imgT, tg] using trans_Rank_ev g
    have s : ∀ a : List Int, a.length ≤ 32 → Ev (fun k => semigroupref03_Same.f k a a) true := fun a ha => by simpa using semigroupref03_Same_ev a a (by omega)
    have e1 : cmp (cmp f g) h = cmp f (cmp g h) := cmp_assoc (by rw [← lfg]; exact mf)
    refine Ev.step (fun _ => semigrouplaw11_TransAssociates.j0.eq_2 ..) (ev_neg (by decide) ?_)
    refine ev_bind _ c1 (ev_bind _ c2 (ev_bind _ c3 (ev_bind _ c4 (ev_bind _ c5 (ev_bind _ c1 (ev_bind _ r1 (ev_pos (by rw [lf, lf]) ?_)))))))
    rw [e1]
    refine ev_bind _ (s _ (by rw [lf]; omega)) (ev_pos rfl (ev_bind _ c6 (ev_bind _ (s _ n2) (ev_pos rfl (ev_bind _ c7 (ev_bind _ (s _ n2) (ev_pos rfl ?_)))))))
    refine ev_pos (by have := rank_pos tfg; omega) (ev_bind _ r2 (ev_pos (by have := rank_cmp_left (g := g) mf; omega) (ev_bind _ r3 (ev_pos (by have := rank_cmp_right lfg mf; omega) (ev_bind _ awake_ev (ev_some rfl))))))

end Go.Proofs.Ytimepajbnongoaa.Pure
