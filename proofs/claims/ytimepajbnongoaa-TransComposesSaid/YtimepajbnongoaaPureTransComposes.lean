/- The product of any two transformations, as the reference has it: for all lists of whole numbers. -/
import Derived.Test.YtimepajbnongoaaPTransComposesx
import Derived.Test.YtimepajbnongoaaBase
namespace Go.Proofs.Ytimepajbnongoaa.Pure
open Go.RowKit Go.Proofs.Ytimepajbnongoaa.PTransComposes Go.Proofs.YtimepajbnongoaaW.PrintWords Go.Proofs.YtimepajbnongoaaW.PrintLast Go.Proofs.Ytimepajbnongoaa.Base

/-! trans_Valid: is it a transformation -/

theorem trans_Valid_loop (l : List Int) (hl : l.length ≤ 32) (d : Nat) : ∀ i : Nat, i + d = l.length → Ev (fun k => trans_Valid.l0 k l l (l.length : Int) (i : Int)) ((l.drop i).all (fun x => decide (0 ≤ x) && decide (x < l.length))) := by
  induction d with
  | zero =>
    intro i hd
    refine Ev.step (fun _ => trans_Valid.l0.eq_2 ..) (ev_neg (by omega) (ev_some ?_))
    rw [List.drop_eq_nil_of_le (by omega)]; rfl
  | succ d ih =>
    intro i hd
    refine Ev.step (fun _ => trans_Valid.l0.eq_2 ..) (ev_pos (by omega) (ev_pos (by omega) (ev_pos (by omega) ?_)))
    rw [List.drop_eq_getElem_cons (show i < l.length by omega), List.all_cons, rd_lt (show i < l.length by omega)]
    refine ev_ite (fun h => ev_some ?_) (fun h => ev_ite (fun h2 => ev_some ?_) (fun h2 => ?_))
    · rw [decide_eq_false (show ¬ (0 ≤ l[i]) by omega)]; rfl
    · rw [decide_eq_false (show ¬ (l[i] < l.length) by omega), Bool.and_false]; rfl
    · rw [decide_eq_true (show 0 ≤ l[i] by omega), decide_eq_true (show l[i] < l.length by omega), wrap64_nat (by omega) (by omega)]
      exact ih (i + 1) (by omega)
theorem trans_Valid_ev (l : List Int) : Ev (fun k => trans_Valid.f k l) (isT l) := by
  unfold trans_Valid.f isT
  refine ev_ite (fun h => ?_) (fun h => ?_)
  · refine Ev.step (fun _ => trans_Valid.j0.eq_2 ..) (ev_pos rfl (ev_some ?_))
    rw [decide_eq_false (show ¬ (1 ≤ l.length) by omega)]; rfl
  · refine Ev.step (fun _ => trans_Valid.j0.eq_2 ..) (ev_ite (fun h2 => ev_some ?_) (fun h2 => ?_))
    · rw [decide_eq_false (show ¬ (l.length ≤ 32) by simp at h2; omega)]; simp
    · have h3 : l.length ≤ 32 := by simp at h2; omega
      rw [decide_eq_true h3, decide_eq_true (show 1 ≤ l.length by omega)]
      exact trans_Valid_loop l h3 l.length 0 (by omega)
/-! trans_compose: the product -/
theorem trans_compose_loop (f g : List Int) (hl : f.length ≤ 35184372088832) (h : ∀ x ∈ f, 0 ≤ x ∧ x < g.length) (d : Nat) : ∀ i : Nat, i + d = f.length → Ev (fun k => trans_compose.l0 k g (fillAt (cmp f g) 0 i) f (f.length : Int) (i : Int)) (cmp f g) := by
  have hc : (cmp f g).length = f.length := cmp_length f g
  induction d with
  | zero =>
    intro i hd
    refine Ev.step (fun _ => trans_compose.l0.eq_2 ..) (ev_neg (by omega) (ev_some ?_))
    rw [show i = (cmp f g).length by omega, fillAt_all]
  | succ d ih =>
    intro i hd
    have hi : i < f.length := by omega
    have hx := h f[i] (List.getElem_mem hi)
    refine Ev.step (fun _ => trans_compose.l0.eq_2 ..) (ev_pos (by omega) (ev_pos (by omega) (ev_pos (by omega) ?_)))
    rw [rd_lt hi]
    refine ev_pos hx.1 (ev_pos hx.2 (ev_pos (by rw [fillAt_length _ _ (by omega)]; omega) ?_))
    have e : rd g f[i] = (cmp f g)[i] := by simp [cmp]
    rw [wrap64_nat (by omega) (by omega), e, Int.toNat_natCast, fillAt_set _ _ (by omega)]
    exact ih (i + 1) (by omega)
theorem trans_compose_ev (f g : List Int) (hl : f.length ≤ 35184372088832) (h : ∀ x ∈ f, 0 ≤ x ∧ x < g.length) : Ev (fun k => trans_compose.f k f g) (cmp f g) := by
  unfold trans_compose.f
  refine ev_pos (by omega) (ev_pos (by omega) ?_)
  have := trans_compose_loop f g hl h f.length 0 (by omega)
  rwa [fillAt_zero, cmp_length] at this
/-! trans_Compose -/
def Comp (f g : List Int) : List Int := if f.length = g.length ∧ isT f = true ∧ isT g = true then cmp f g else []
theorem trans_Compose_ev (f g : List Int) : Ev (fun k => trans_Compose.f k f g) (Comp f g) := by
  unfold trans_Compose.f Comp
  refine ev_ite (fun h => ?_) (fun h => ev_some (by rw [if_neg (by omega)]))
  refine ev_bind _ (trans_Valid_ev f) (ev_ite (fun hf => ev_bind _ (trans_Valid_ev g) (ev_ite (fun hg => ?_) (fun hg => ev_some (by rw [if_neg (by simp [hg])])))) (fun hf => ev_some (by rw [if_neg (by simp [hf])])))
  obtain ⟨_, hl, hm⟩ := isT_iff.1 hf
  have hn : f.length = g.length := by omega
  refine ev_bind _ (trans_compose_ev f g (by omega) (fun x hx => by have := hm x hx; omega)) (ev_some ?_)
  rw [if_pos ⟨hn, hf, hg⟩]
/-! semigroupref03_Same: equal lists of numbers -/
theorem semigroupref03_Same_loop (a b : List Int) (hl : a.length ≤ 9223372036854775806) (he : a.length = b.length) (d : Nat) : ∀ i : Nat, i + d = a.length → Ev (fun k => semigroupref03_Same.l0 k a b (a.length : Int) (i : Int)) (decide (a.drop i = b.drop i)) := by
  induction d with
  | zero =>
    intro i hd
    refine Ev.step (fun _ => semigroupref03_Same.l0.eq_2 ..) (ev_neg (by omega) (ev_some ?_))
    rw [List.drop_eq_nil_of_le (by omega), List.drop_eq_nil_of_le (by omega)]; rfl
  | succ d ih =>
    intro i hd
    refine Ev.step (fun _ => semigroupref03_Same.l0.eq_2 ..) (ev_pos (by omega) (ev_pos (by omega) (ev_pos (by omega) (ev_pos (by omega) ?_))))
    rw [List.drop_eq_getElem_cons (show i < a.length by omega), List.drop_eq_getElem_cons (show i < b.length by omega), rd_lt (show i < a.length by omega), rd_lt (show i < b.length by omega)]
    refine ev_ite (fun h => ?_) (fun h => ev_some (decide_eq_false (fun e => h (List.cons.inj e).1)).symm)
    rw [wrap64_nat (by omega) (by omega)]
    refine ev_to (ih (i + 1) (by omega)) (decide_eq_decide.2 ⟨fun e => by rw [h, e], fun e => (List.cons.inj e).2⟩)
theorem semigroupref03_Same_ev (a b : List Int) (hl : a.length ≤ 9223372036854775806) : Ev (fun k => semigroupref03_Same.f k a b) (decide (a = b)) := by
  unfold semigroupref03_Same.f
  refine ev_ite (fun h => ?_) (fun h => ev_some ?_)
  · have := semigroupref03_Same_loop a b hl (by omega) a.length 0 (by omega)
    simpa using this
  · rw [decide_eq_false]
    rintro rfl
    exact h rfl
theorem awake_ev : Ev (fun k => semigrouplaw11_awake.f k) true := Ev.of (fun k => semigrouplaw11_awake.mono k) (k := 8) (by decide +kernel)
/-! semigroupref11_Valid: is it a transformation -/

theorem semigroupref11_Valid_loop (l : List Int) (hl : l.length ≤ 32) (d : Nat) : ∀ i : Nat, i + d = l.length → Ev (fun k => semigroupref11_Valid.l0 k l l (l.length : Int) (i : Int)) ((l.drop i).all (fun x => decide (0 ≤ x) && decide (x < l.length))) := by
  induction d with
  | zero =>
    intro i hd
    refine Ev.step (fun _ => semigroupref11_Valid.l0.eq_2 ..) (ev_neg (by omega) (ev_some ?_))
    rw [List.drop_eq_nil_of_le (by omega)]; rfl
  | succ d ih =>
    intro i hd
    refine Ev.step (fun _ => semigroupref11_Valid.l0.eq_2 ..) (ev_pos (by omega) (ev_pos (by omega) (ev_pos (by omega) ?_)))
    rw [List.drop_eq_getElem_cons (show i < l.length by omega), List.all_cons, rd_lt (show i < l.length by omega)]
    refine ev_ite (fun h => ev_some ?_) (fun h => ev_ite (fun h2 => ev_some ?_) (fun h2 => ?_))
    · rw [decide_eq_false (show ¬ (0 ≤ l[i]) by omega)]; rfl
    · rw [decide_eq_false (show ¬ (l[i] < l.length) by omega), Bool.and_false]; rfl
    · rw [decide_eq_true (show 0 ≤ l[i] by omega), decide_eq_true (show l[i] < l.length by omega), wrap64_nat (by omega) (by omega)]
      exact ih (i + 1) (by omega)
theorem semigroupref11_Valid_ev (l : List Int) : Ev (fun k => semigroupref11_Valid.f k l) (isT l) := by
  unfold semigroupref11_Valid.f isT
  refine ev_ite (fun h => ?_) (fun h => ?_)
  · refine Ev.step (fun _ => semigroupref11_Valid.j0.eq_2 ..) (ev_pos rfl (ev_some ?_))
    rw [decide_eq_false (show ¬ (1 ≤ l.length) by omega)]; rfl
  · refine Ev.step (fun _ => semigroupref11_Valid.j0.eq_2 ..) (ev_ite (fun h2 => ev_some ?_) (fun h2 => ?_))
    · rw [decide_eq_false (show ¬ (l.length ≤ 32) by simp at h2; omega)]; simp
    · have h3 : l.length ≤ 32 := by simp at h2; omega
      rw [decide_eq_true h3, decide_eq_true (show 1 ≤ l.length by omega)]
      exact semigroupref11_Valid_loop l h3 l.length 0 (by omega)
def pairB (f g : List Int) : Bool := isT f && (isT g && decide (f.length = g.length))
theorem pair_ev (f g : List Int) : Ev (fun k => semigrouplaw11_pair.f k f g) (pairB f g) := by
  unfold semigrouplaw11_pair.f pairB
  refine ev_bind _ (semigroupref11_Valid_ev f) (ev_ite (fun hf => ?_) (fun hf => ev_some (by simp [hf])))
  refine ev_bind _ (semigroupref11_Valid_ev g) (ev_ite (fun hg => ev_some ?_) (fun hg => ev_some (by simp [hg])))
  rw [hf, hg]
  by_cases h : f.length = g.length
  · simp [h]
  · simp [h]; omega
theorem pairB_iff {f g : List Int} : pairB f g = true ↔ isT f = true ∧ isT g = true ∧ f.length = g.length := by simp [pairB]
/-! semigroupref11_Compose: the product -/
theorem semigroupref11_Compose_loop (f g : List Int) (hl : f.length ≤ 35184372088832) (h : ∀ x ∈ f, 0 ≤ x ∧ x < g.length) (d : Nat) : ∀ i : Nat, i + d = f.length → Ev (fun k => semigroupref11_Compose.l0 k g (fillAt (cmp f g) 0 i) f (f.length : Int) (i : Int)) (cmp f g) := by
  have hc : (cmp f g).length = f.length := cmp_length f g
  induction d with
  | zero =>
    intro i hd
    refine Ev.step (fun _ => semigroupref11_Compose.l0.eq_2 ..) (ev_neg (by omega) (ev_some ?_))
    rw [show i = (cmp f g).length by omega, fillAt_all]
  | succ d ih =>
    intro i hd
    have hi : i < f.length := by omega
    have hx := h f[i] (List.getElem_mem hi)
    refine Ev.step (fun _ => semigroupref11_Compose.l0.eq_2 ..) (ev_pos (by omega) (ev_pos (by omega) (ev_pos (by omega) ?_)))
    rw [rd_lt hi]
    refine ev_pos hx.1 (ev_pos hx.2 (ev_pos (by rw [fillAt_length _ _ (by omega)]; omega) ?_))
    have e : rd g f[i] = (cmp f g)[i] := by simp [cmp]
    rw [wrap64_nat (by omega) (by omega), e, Int.toNat_natCast, fillAt_set _ _ (by omega)]
    exact ih (i + 1) (by omega)
theorem semigroupref11_Compose_ev (f g : List Int) (hl : f.length ≤ 35184372088832) (h : ∀ x ∈ f, 0 ≤ x ∧ x < g.length) : Ev (fun k => semigroupref11_Compose.f k f g) (cmp f g) := by
  unfold semigroupref11_Compose.f
  refine ev_pos (by omega) (ev_pos (by omega) ?_)
  have := semigroupref11_Compose_loop f g hl h f.length 0 (by omega)
  rwa [fillAt_zero, cmp_length] at this
theorem TransComposes : semigrouplaw11_TransComposes.Pure := by
  intro f g hf _
  apply Ev.rounds
  unfold semigrouplaw11_TransComposes.f
  have hs : (Comp f g).length ≤ 9223372036854775806 := by
    unfold Comp
    split
    · rw [cmp_length]; have := hf.1; omega
    · simp
  refine ev_bind _ (trans_Compose_ev f g) (ev_bind _ (pair_ev f g) (ev_ite (fun hp => ?_) (fun hp => ?_)))
  · obtain ⟨h1, h2, h3⟩ := pairB_iff.1 hp
    obtain ⟨_, hl, hm⟩ := isT_iff.1 h1
    refine ev_bind _ (semigroupref11_Compose_ev f g (by omega) (by rw [← h3]; exact hm)) (ev_bind _ (semigroupref03_Same_ev _ _ hs) (ev_pos ?_ (ev_bind _ awake_ev (ev_some rfl))))
    simp [Comp, h1, h2, h3]
  · refine ev_pos ?_ (ev_bind _ awake_ev (ev_some rfl))
    have : ¬ (f.length = g.length ∧ isT f = true ∧ isT g = true) := fun ⟨a, b, c⟩ => hp (pairB_iff.2 ⟨b, c, a⟩)
    simp [Comp, this]

end Go.Proofs.Ytimepajbnongoaa.Pure
