/- The image of any set of points, and that the image under a product is the image of the image. -/
import Derived.Test.YtimepajbnongoaaPTransAppliesx
import Derived.Test.YtimepajbnongoaaBase
namespace Go.Proofs.Ytimepajbnongoaa.Pure
open Go.RowKit Go.Proofs.Ytimepajbnongoaa.PTransApplies Go.Proofs.YtimepajbnongoaaW.PrintWords Go.Proofs.YtimepajbnongoaaW.PrintLast Go.Proofs.Ytimepajbnongoaa.Base

/-! trans_Valid: is it a transformation -/

theorem trans_Valid_loop (l : List Int) (hl : l.length ≤ 32) (d : Nat) : ∀ i : Nat, i + d = l.length → Ev (fun k => trans_Valid.l0 k l l (l.length : Int) (i : Int)) ((l.drop i).all (fun x => decide (0 ≤ x) && decide (x < l.length))) := by
  induction d with
  | zero =>
    intro i hd
    refine Ev.step (fun _ => trans_Valid.l0.eq_2 ..) (ev_neg (by omega) (ev_some ?_))
    rw [List.drop_eq_nil_of_le (by omega)]; rfl
  | succ d ih =>
    intro i hd
    refine Ev.step (fun _ => trans_Valid.l0.eq_2 ..) (ev_pos (by omega) (ev_pos (by omega) (ev_pos (by omega) ?_)))
    rw [List.drop_eq_getElem_cons (show i < l.length by omega), List.all_cons, rd_lt (show i < l.length by omega)]
    refine ev_ite (fun h => ev_some ?_) (fun h => ev_ite (fun h2 => ev_some ?_) (fun h2 => ?_))
    · rw [decide_eq_false (show ¬ (0 ≤ l[i]) by omega)]; rfl
    · rw [decide_eq_false (show ¬ (l[i] < l.length) by omega), Bool.and_false]; rfl
    · rw [decide_eq_true (show 0 ≤ l[i] by omega), decide_eq_true (show l[i] < l.length by omega), wrap64_nat (by omega) (by omega)]
      exact ih (i + 1) (by omega)
theorem trans_Valid_ev (l : List Int) : Ev (fun k => trans_Valid.f k l) (isT l) := by
  unfold trans_Valid.f isT
  refine ev_ite (fun h => ?_) (fun h => ?_)
  · refine Ev.step (fun _ => trans_Valid.j0.eq_2 ..) (ev_pos rfl (ev_some ?_))
    rw [decide_eq_false (show ¬ (1 ≤ l.length) by omega)]; rfl
  · refine Ev.step (fun _ => trans_Valid.j0.eq_2 ..) (ev_ite (fun h2 => ev_some ?_) (fun h2 => ?_))
    · rw [decide_eq_false (show ¬ (l.length ≤ 32) by simp at h2; omega)]; simp
    · have h3 : l.length ≤ 32 := by simp at h2; omega
      rw [decide_eq_true h3, decide_eq_true (show 1 ≤ l.length by omega)]
      exact trans_Valid_loop l h3 l.length 0 (by omega)
/-! trans_compose: the product -/
theorem trans_compose_loop (f g : List Int) (hl : f.length ≤ 35184372088832) (h : ∀ x ∈ f, 0 ≤ x ∧ x < g.length) (d : Nat) : ∀ i : Nat, i + d = f.length → Ev (fun k => trans_compose.l0 k g (fillAt (cmp f g) 0 i) f (f.length : Int) (i : Int)) (cmp f g) := by
  have hc : (cmp f g).length = f.length := cmp_length f g
  induction d with
  | zero =>
    intro i hd
    refine Ev.step (fun _ => trans_compose.l0.eq_2 ..) (ev_neg (by omega) (ev_some ?_))
    rw [show i = (cmp f g).length by omega, fillAt_all]
  | succ d ih =>
    intro i hd
    have hi : i < f.length := by omega
    have hx := h f[i] (List.getElem_mem hi)
    refine Ev.step (fun _ => trans_compose.l0.eq_2 ..) (ev_pos (by omega) (ev_pos (by omega) (ev_pos (by omega) ?_)))
    rw [rd_lt hi]
    refine ev_pos hx.1 (ev_pos hx.2 (ev_pos (by rw [fillAt_length _ _ (by omega)]; omega) ?_))
    have e : rd g f[i] = (cmp f g)[i] := by simp [cmp]
    rw [wrap64_nat (by omega) (by omega), e, Int.toNat_natCast, fillAt_set _ _ (by omega)]
    exact ih (i + 1) (by omega)
theorem trans_compose_ev (f g : List Int) (hl : f.length ≤ 35184372088832) (h : ∀ x ∈ f, 0 ≤ x ∧ x < g.length) : Ev (fun k => trans_compose.f k f g) (cmp f g) := by
  unfold trans_compose.f
  refine ev_pos (by omega) (ev_pos (by omega) ?_)
  have := trans_compose_loop f g hl h f.length 0 (by omega)
  rwa [fillAt_zero, cmp_length] at this
/-! trans_Compose -/
def Comp (f g : List Int) : List Int := if f.length = g.length ∧ isT f = true ∧ isT g = true then cmp f g else []
theorem trans_Compose_ev (f g : List Int) : Ev (fun k => trans_Compose.f k f g) (Comp f g) := by
  unfold trans_Compose.f Comp
  refine ev_ite (fun h => ?_) (fun h => ev_some (by rw [if_neg (by omega)]))
  refine ev_bind _ (trans_Valid_ev f) (ev_ite (fun hf => ev_bind _ (trans_Valid_ev g) (ev_ite (fun hg => ?_) (fun hg => ev_some (by rw [if_neg (by simp [hg])])))) (fun hf => ev_some (by rw [if_neg (by simp [hf])])))
  obtain ⟨_, hl, hm⟩ := isT_iff.1 hf
  have hn : f.length = g.length := by omega
  refine ev_bind _ (trans_compose_ev f g (by omega) (fun x hx => by have := hm x hx; omega)) (ev_some ?_)
  rw [if_pos ⟨hn, hf, hg⟩]
/-! semigroupref11_Valid: is it a transformation -/

theorem semigroupref11_Valid_loop (l : List Int) (hl : l.length ≤ 32) (d : Nat) : ∀ i : Nat, i + d = l.length → Ev (fun k => semigroupref11_Valid.l0 k l l (l.length : Int) (i : Int)) ((l.drop i).all (fun x => decide (0 ≤ x) && decide (x < l.length))) := by
  induction d with
  | zero =>
    intro i hd
    refine Ev.step (fun _ => semigroupref11_Valid.l0.eq_2 ..) (ev_neg (by omega) (ev_some ?_))
    rw [List.drop_eq_nil_of_le (by omega)]; rfl
  | succ d ih =>
    intro i hd
    refine Ev.step (fun _ => semigroupref11_Valid.l0.eq_2 ..) (ev_pos (by omega) (ev_pos (by omega) (ev_pos (by omega) ?_)))
    rw [List.drop_eq_getElem_cons (show i < l.length by omega), List.all_cons, rd_lt (show i < l.length by omega)]
    refine ev_ite (fun h => ev_some ?_) (fun h => ev_ite (fun h2 => ev_some ?_) (fun h2 => ?_))
    · rw [decide_eq_false (show ¬ (0 ≤ l[i]) by omega)]; rfl
    · rw [decide_eq_false (show ¬ (l[i] < l.length) by omega), Bool.and_false]; rfl
    · rw [decide_eq_true (show 0 ≤ l[i] by omega), decide_eq_true (show l[i] < l.length by omega), wrap64_nat (by omega) (by omega)]
      exact ih (i + 1) (by omega)
theorem semigroupref11_Valid_ev (l : List Int) : Ev (fun k => semigroupref11_Valid.f k l) (isT l) := by
  unfold semigroupref11_Valid.f isT
  refine ev_ite (fun h => ?_) (fun h => ?_)
  · refine Ev.step (fun _ => semigroupref11_Valid.j0.eq_2 ..) (ev_pos rfl (ev_some ?_))
    rw [decide_eq_false (show ¬ (1 ≤ l.length) by omega)]; rfl
  · refine Ev.step (fun _ => semigroupref11_Valid.j0.eq_2 ..) (ev_ite (fun h2 => ev_some ?_) (fun h2 => ?_))
    · rw [decide_eq_false (show ¬ (l.length ≤ 32) by simp at h2; omega)]; simp
    · have h3 : l.length ≤ 32 := by simp at h2; omega
      rw [decide_eq_true h3, decide_eq_true (show 1 ≤ l.length by omega)]
      exact semigroupref11_Valid_loop l h3 l.length 0 (by omega)
def pairB (f g : List Int) : Bool := isT f && (isT g && decide (f.length = g.length))
theorem pair_ev (f g : List Int) : Ev (fun k => semigrouplaw11_pair.f k f g) (pairB f g) := by
  unfold semigrouplaw11_pair.f pairB
  refine ev_bind _ (semigroupref11_Valid_ev f) (ev_ite (fun hf => ?_) (fun hf => ev_some (by simp [hf])))
  refine ev_bind _ (semigroupref11_Valid_ev g) (ev_ite (fun hg => ev_some ?_) (fun hg => ev_some (by simp [hg])))
  rw [hf, hg]
  by_cases h : f.length = g.length
  · simp [h]
  · simp [h]; omega
theorem pairB_iff {f g : List Int} : pairB f g = true ↔ isT f = true ∧ isT g = true ∧ f.length = g.length := by simp [pairB]
theorem awake_ev : Ev (fun k => semigrouplaw11_awake.f k) true := Ev.of (fun k => semigrouplaw11_awake.mono k) (k := 8) (by decide +kernel)
theorem trans_Apply_loop (f : List Int) (s : Nat) (hs : s < 18446744073709551616) (hl : f.length ≤ 32) (hf : ∀ x ∈ f, 0 ≤ x ∧ x < f.length) (d : Nat) : ∀ i : Nat, i + d = f.length →
    Ev (fun k => trans_Apply.l0 k (s : Int) (apN f s i : Int) f (f.length : Int) (i : Int)) (apN f s f.length : Int) := by
  induction d with
  | zero =>
    intro i hd
    refine Ev.step (fun _ => trans_Apply.l0.eq_2 ..) (ev_neg (by omega) (ev_some ?_))
    rw [show i = f.length by omega]
  | succ d ih =>
    intro i hd
    have hi : i < f.length := by omega
    have hx := hf f[i] (List.getElem_mem hi)
    have hap := apN_lt s (fun x hx => by have := hf x hx; omega) i (show i ≤ f.length by omega)
    refine Ev.step (fun _ => trans_Apply.l0.eq_2 ..) (ev_pos (by omega) (ev_pos (by omega) (ev_pos (by omega) ?_)))
    rw [wrap_u64 (n := (i : Int)) (by omega) (by omega), wrap64_nat (by omega) (by omega), rd_lt hi, wrap_u64 (n := f[i]) (by omega) (by omega)]
    refine ev_pos (by omega) (ev_ite (fun h => ev_pos hx.1 ?_) (fun h => ?_))
    · have h2 := ih (i + 1) (by omega)
      rw [has64_iff s i hs (by omega)] at h
      rw [apN_succ] at h2
      rw [if_pos h, rd_lt hi] at h2
      have : (2 : Nat) ^ (f[i]).toNat < 2 ^ 64 := Nat.pow_lt_pow_right (by decide) (by omega)
      have e : shl .u64 1 f[i] = ((2 ^ (f[i]).toNat : Nat) : Int) := by
        conv => lhs; rw [← Int.toNat_of_nonneg hx.1]
        exact shl64 _ (by omega)
      rw [e, or64 _ _ hap (by omega)]
      exact h2
    · have h2 := ih (i + 1) (by omega)
      rw [has64_iff s i hs (by omega)] at h
      rw [apN_succ] at h2
      rw [if_neg h] at h2
      exact h2
theorem trans_Apply_ev (f : List Int) (s : Nat) (hs : s < 18446744073709551616) (hv : isT f = true) : Ev (fun k => trans_Apply.f k f (s : Int)) (apN f s f.length : Int) := by
  unfold trans_Apply.f
  obtain ⟨_, hl, hm⟩ := isT_iff.1 hv
  exact ev_bind _ (trans_Valid_ev f) (ev_pos hv (trans_Apply_loop f s hs hl hm f.length 0 (by omega)))
theorem law_loop (f g : List Int) (s : Nat) (t : Int) (hs : s < 18446744073709551616) (hl : f.length ≤ 32) (hf : ∀ x ∈ f, 0 ≤ x ∧ x < f.length) (hend : Ev (fun k => semigrouplaw11_TransApplies.l0 k f g (s : Int) t (apN f s f.length : Int) f (f.length : Int) (f.length : Int)) true) (d : Nat) : ∀ i : Nat, i + d = f.length →
    Ev (fun k => semigrouplaw11_TransApplies.l0 k f g (s : Int) t (apN f s i : Int) f (f.length : Int) (i : Int)) true := by
  induction d with
  | zero =>
    intro i hd
    rw [show i = f.length by omega]; exact hend
  | succ d ih =>
    intro i hd
    have hi : i < f.length := by omega
    have hx := hf f[i] (List.getElem_mem hi)
    have hap := apN_lt s (fun x hx => by have := hf x hx; omega) i (show i ≤ f.length by omega)
    refine Ev.step (fun _ => semigrouplaw11_TransApplies.l0.eq_2 ..) (ev_pos (by omega) (ev_pos (by omega) (ev_pos (by omega) ?_)))
    have h2 := ih (i + 1) (by omega)
    rw [apN_succ] at h2
    refine ev_bind (decide (s.testBit i = true)) ?_ (ev_ite (fun h => ev_bind ((2 ^ (f[i]).toNat : Nat) : Int) ?_ ?_) (fun h => ?_))
    · unfold semigroupref02_Has.f
      rw [wrap_u64 (n := (i : Int)) (by omega) (by omega)]
      refine ev_pos (by omega) (ev_some ?_)
      rw [Bool.eq_iff_iff, beq_iff_eq, has64_iff s i hs (by omega), decide_eq_true_eq]
    · unfold semigroupref02_Bit.f
      rw [rd_lt hi, wrap_u64 (n := f[i]) (by omega) (by omega)]
      refine ev_pos hx.1 (ev_some ?_)
      conv => lhs; rw [← Int.toNat_of_nonneg hx.1]
      exact shl64 _ (by omega)
    · rw [if_pos (of_decide_eq_true h), rd_lt hi] at h2
      have : (2 : Nat) ^ (f[i]).toNat < 2 ^ 64 := Nat.pow_lt_pow_right (by decide) (by omega)
      rw [or64 _ _ hap (by omega), wrap64_nat (by omega) (by omega)]
      exact h2
    · rw [if_neg (by simpa using h)] at h2
      rw [wrap64_nat (by omega) (by omega)]
      exact h2
theorem TransApplies : semigrouplaw11_TransApplies.Pure := by
  intro f g s _ _ hs
  apply Ev.rounds
  unfold semigrouplaw11_TransApplies.f
  obtain ⟨s, rfl⟩ : ∃ m : Nat, s = m := ⟨s.toNat, by simp [Lit.wf, IntKind.min, IntKind.max, IntKind.signed, IntKind.bits] at hs; omega⟩
  have hs' : s < 18446744073709551616 := by simp [Lit.wf, IntKind.min, IntKind.max, IntKind.signed, IntKind.bits] at hs; omega
  by_cases hv : isT f = true
  · obtain ⟨n1, n2, hm⟩ := isT_iff.1 hv
    have hap := apN_lt s (fun x hx => by have := hm x hx; omega) f.length (Nat.le_refl _)
    refine ev_bind _ (trans_Apply_ev f s hs' hv) (ev_bind _ (semigroupref11_Valid_ev f) (ev_pos hv ?_))
    refine law_loop f g s _ hs' n2 hm ?_ f.length 0 (by omega)
    refine Ev.step (fun _ => semigrouplaw11_TransApplies.l0.eq_2 ..) (ev_neg (by omega) (ev_pos rfl ?_))
    refine ev_bind _ (pair_ev f g) (ev_ite (fun hp => ?_) (fun _ => ev_bind _ awake_ev (ev_some rfl)))
    obtain ⟨_, tg, hl⟩ := pairB_iff.1 hp
    have hc : Ev (fun k => trans_Compose.f k f g) (cmp f g) := by
      have := trans_Compose_ev f g
      rwa [show Comp f g = cmp f g from if_pos ⟨hl, hv, tg⟩] at this
    refine ev_bind _ hc (ev_bind _ (trans_Apply_ev (cmp f g) s hs' (cmp_isT hv tg hl)) (ev_bind _ (trans_Apply_ev g _ hap tg) (ev_pos ?_ (ev_bind _ awake_ev (ev_some rfl)))))
    rw [cmp_length, ← hl, apN_cmp s hm hl]
  · refine ev_bind 0 ?_ (ev_bind _ (semigroupref11_Valid_ev f) (ev_neg hv (ev_pos rfl (ev_bind _ awake_ev (ev_some rfl)))))
    unfold trans_Apply.f
    exact ev_bind _ (trans_Valid_ev f) (ev_neg hv (ev_some rfl))

end Go.Proofs.Ytimepajbnongoaa.Pure
