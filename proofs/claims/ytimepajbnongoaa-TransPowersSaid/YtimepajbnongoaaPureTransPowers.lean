/- Any power of any transformation, as the reference has it. -/
import Derived.Test.YtimepajbnongoaaPTransPowersx
import Derived.Test.YtimepajbnongoaaBase
namespace Go.Proofs.Ytimepajbnongoaa.Pure
open Go.RowKit Go.Proofs.Ytimepajbnongoaa.PTransPowers Go.Proofs.YtimepajbnongoaaW.PrintWords Go.Proofs.YtimepajbnongoaaW.PrintLast Go.Proofs.Ytimepajbnongoaa.Base

/-! partition_Discrete: 0, 1, .. -/
theorem partition_Discrete_loop (n : Nat) (hl : n ≤ 35184372088832) (d : Nat) : ∀ i : Nat, i + d = n → Ev (fun k => partition_Discrete.l0 k (fillAt (iota n) 0 i) (n : Int) (i : Int)) (iota n) := by
  have hn := iota_length n
  induction d with
  | zero =>
    intro i hd
    refine Ev.step (fun _ => partition_Discrete.l0.eq_2 ..) (ev_neg (by omega) (ev_some ?_))
    rw [show i = (iota n).length by omega, fillAt_all]
  | succ d ih =>
    intro i hd
    refine Ev.step (fun _ => partition_Discrete.l0.eq_2 ..) (ev_pos (by omega) (ev_pos (by omega) (ev_pos (by rw [fillAt_length _ _ (by omega)]; omega) ?_)))
    have hi : i < (iota n).length := by omega
    have e : (i : Int) = (iota n)[i] := (iota_get hi).symm
    have h := ih (i + 1) (by omega)
    rw [← fillAt_set _ _ hi, ← e] at h
    rw [wrap64_nat (by omega) (by omega), Int.toNat_natCast]
    exact h
theorem partition_Discrete_ev (n : Int) (h0 : 0 ≤ n) (h1 : n ≤ 4096) : Ev (fun k => partition_Discrete.f k n) (iota n.toNat) := by
  unfold partition_Discrete.f
  refine ev_neg (by omega) (Ev.step (fun _ => partition_Discrete.j0.eq_2 ..) (ev_neg (by simp; omega) (ev_pos h0 (ev_pos (by omega) (ev_bind1 ?_)))))
  have h := partition_Discrete_loop n.toNat (by omega) n.toNat 0 (by omega)
  rw [fillAt_zero, iota_length] at h
  rw [List.length_replicate]
  exact h
/-- trans_Identity -/
def idT (n : Int) : List Int := if 1 ≤ n ∧ n ≤ 32 then iota n.toNat else []
theorem trans_Identity_ev (n : Int) : Ev (fun k => trans_Identity.f k n) (idT n) := by
  unfold trans_Identity.f idT
  refine ev_ite (fun h => ev_some (by rw [if_neg (by omega)])) (fun h => ev_ite (fun h2 => ev_some (by rw [if_neg (by omega)])) (fun h2 => ?_))
  rw [if_pos (by omega)]
  exact ev_bind _ (partition_Discrete_ev n (by omega) (by omega)) (ev_some rfl)
/-! trans_Valid: is it a transformation -/

theorem trans_Valid_loop (l : List Int) (hl : l.length ≤ 32) (d : Nat) : ∀ i : Nat, i + d = l.length → Ev (fun k => trans_Valid.l0 k l l (l.length : Int) (i : Int)) ((l.drop i).all (fun x => decide (0 ≤ x) && decide (x < l.length))) := by
  induction d with
  | zero =>
    intro i hd
    refine Ev.step (fun _ => trans_Valid.l0.eq_2 ..) (ev_neg (by omega) (ev_some ?_))
    rw [List.drop_eq_nil_of_le (by omega)]; rfl
  | succ d ih =>
    intro i hd
    refine Ev.step (fun _ => trans_Valid.l0.eq_2 ..) (ev_pos (by omega) (ev_pos (by omega) (ev_pos (by omega) ?_)))
    rw [List.drop_eq_getElem_cons (show i < l.length by omega), List.all_cons, rd_lt (show i < l.length by omega)]
    refine ev_ite (fun h => ev_some ?_) (fun h => ev_ite (fun h2 => ev_some ?_) (fun h2 => ?_))
    · rw [decide_eq_false (show ¬ (0 ≤ l[i]) by omega)]; rfl
    · rw [decide_eq_false (show ¬ (l[i] < l.length) by omega), Bool.and_false]; rfl
    · rw [decide_eq_true (show 0 ≤ l[i] by omega), decide_eq_true (show l[i] < l.length by omega), wrap64_nat (by omega) (by omega)]
      exact ih (i + 1) (by omega)
theorem trans_Valid_ev (l : List Int) : Ev (fun k => trans_Valid.f k l) (isT l) := by
  unfold trans_Valid.f isT
  refine ev_ite (fun h => ?_) (fun h => ?_)
  · refine Ev.step (fun _ => trans_Valid.j0.eq_2 ..) (ev_pos rfl (ev_some ?_))
    rw [decide_eq_false (show ¬ (1 ≤ l.length) by omega)]; rfl
  · refine Ev.step (fun _ => trans_Valid.j0.eq_2 ..) (ev_ite (fun h2 => ev_some ?_) (fun h2 => ?_))
    · rw [decide_eq_false (show ¬ (l.length ≤ 32) by simp at h2; omega)]; simp
    · have h3 : l.length ≤ 32 := by simp at h2; omega
      rw [decide_eq_true h3, decide_eq_true (show 1 ≤ l.length by omega)]
      exact trans_Valid_loop l h3 l.length 0 (by omega)
/-! trans_compose: the product -/
theorem trans_compose_loop (f g : List Int) (hl : f.length ≤ 35184372088832) (h : ∀ x ∈ f, 0 ≤ x ∧ x < g.length) (d : Nat) : ∀ i : Nat, i + d = f.length → Ev (fun k => trans_compose.l0 k g (fillAt (cmp f g) 0 i) f (f.length : Int) (i : Int)) (cmp f g) := by
  have hc : (cmp f g).length = f.length := cmp_length f g
  induction d with
  | zero =>
    intro i hd
    refine Ev.step (fun _ => trans_compose.l0.eq_2 ..) (ev_neg (by omega) (ev_some ?_))
    rw [show i = (cmp f g).length by omega, fillAt_all]
  | succ d ih =>
    intro i hd
    have hi : i < f.length := by omega
    have hx := h f[i] (List.getElem_mem hi)
    refine Ev.step (fun _ => trans_compose.l0.eq_2 ..) (ev_pos (by omega) (ev_pos (by omega) (ev_pos (by omega) ?_)))
    rw [rd_lt hi]
    refine ev_pos hx.1 (ev_pos hx.2 (ev_pos (by rw [fillAt_length _ _ (by omega)]; omega) ?_))
    have e : rd g f[i] = (cmp f g)[i] := by simp [cmp]
    rw [wrap64_nat (by omega) (by omega), e, Int.toNat_natCast, fillAt_set _ _ (by omega)]
    exact ih (i + 1) (by omega)
theorem trans_compose_ev (f g : List Int) (hl : f.length ≤ 35184372088832) (h : ∀ x ∈ f, 0 ≤ x ∧ x < g.length) : Ev (fun k => trans_compose.f k f g) (cmp f g) := by
  unfold trans_compose.f
  refine ev_pos (by omega) (ev_pos (by omega) ?_)
  have := trans_compose_loop f g hl h f.length 0 (by omega)
  rwa [fillAt_zero, cmp_length] at this
theorem trans_Power_loop (n : Nat) (hn : n ≤ 32) (m : Nat) : ∀ out sq : List Int, isTr n out → isTr n sq → m ≤ 9223372036854775807 → Ev (fun k => trans_Power.l0 k (m : Int) out sq) (powL m out sq) := by
  induction m using Nat.strongRecOn with
  | _ m ih =>
    intro out sq ho hs hm
    refine Ev.step (fun _ => trans_Power.l0.eq_2 ..) ?_
    have hsq := isTr_cmp hs hs
    rcases Nat.eq_zero_or_pos m with rfl | h
    · rw [powL_zero]
      exact ev_neg (by omega) (ev_some rfl)
    · have e2 : wrap64 (Int.tdiv (m : Int) 2) = ((m / 2 : Nat) : Int) := by
        rw [show Int.tdiv (m : Int) 2 = ((m / 2 : Nat) : Int) from rfl]; exact wrap64_eq (by omega) (by omega)
      have e3 : Int.tmod (m : Int) 2 = ((m % 2 : Nat) : Int) := rfl
      rw [powL_pos h, e2, e3]
      refine ev_pos (by omega) (ev_ite (fun h1 => ?_) (fun h1 => ?_))
      · rw [if_pos (by omega)]
        exact ev_bind _ (trans_compose_ev out sq (by rw [ho.1]; omega) (by rw [hs.1]; exact ho.2)) (ev_bind _ (trans_compose_ev sq sq (by rw [hs.1]; omega) (by rw [hs.1]; exact hs.2)) (ih _ (by omega) _ _ (isTr_cmp ho hs) hsq (by omega)))
      · rw [if_neg (by omega)]
        exact ev_bind _ (trans_compose_ev sq sq (by rw [hs.1]; omega) (by rw [hs.1]; exact hs.2)) (ih _ (by omega) _ _ ho hsq (by omega))
/-- trans_Power -/
def powT (f : List Int) (m : Int) : List Int := if isT f = true ∧ 0 ≤ m then powL m.toNat (iota f.length) f else []
theorem trans_Power_ev (f : List Int) (m : Int) (hm : m ≤ 9223372036854775807) : Ev (fun k => trans_Power.f k f m) (powT f m) := by
  unfold trans_Power.f powT
  refine ev_bind _ (trans_Valid_ev f) (ev_ite (fun hv => ?_) (fun hv => ?_))
  · refine Ev.step (fun _ => trans_Power.j0.eq_2 ..) (ev_ite (fun h => ev_some (by rw [if_neg (by simp at h; omega)])) (fun h => ?_))
    have h0 : 0 ≤ m := by simp at h; omega
    obtain ⟨h1, h2, h3⟩ := isT_iff.1 hv
    rw [if_pos ⟨hv, h0⟩]
    have hi : Ev (fun k => trans_Identity.f k (f.length : Int)) (iota f.length) := by
      have := trans_Identity_ev (f.length : Int)
      rwa [show idT (f.length : Int) = iota f.length by simp [idT]; omega] at this
    refine ev_bind _ hi (ev_bind _ hi (ev_bind f ?_ ?_))
    · have := trans_compose_ev (iota f.length) f (by rw [iota_length]; omega) (fun x hx => mem_iota.1 hx)
      rwa [iota_cmp] at this
    · have := trans_Power_loop f.length h2 m.toNat (iota f.length) f (isTr_iota _) (isTr_of hv) (by omega)
      rwa [Int.toNat_of_nonneg h0] at this
  · refine Ev.step (fun _ => trans_Power.j0.eq_2 ..) (ev_pos rfl (ev_some ?_))
    rw [if_neg (by simp [hv])]
/-! semigroupref03_Discrete: 0, 1, .. -/
theorem semigroupref03_Discrete_loop (n : Nat) (hl : n ≤ 35184372088832) (d : Nat) : ∀ i : Nat, i + d = n → Ev (fun k => semigroupref03_Discrete.l0 k (fillAt (iota n) 0 i) (n : Int) (i : Int)) (iota n) := by
  have hn := iota_length n
  induction d with
  | zero =>
    intro i hd
    refine Ev.step (fun _ => semigroupref03_Discrete.l0.eq_2 ..) (ev_neg (by omega) (ev_some ?_))
    rw [show i = (iota n).length by omega, fillAt_all]
  | succ d ih =>
    intro i hd
    refine Ev.step (fun _ => semigroupref03_Discrete.l0.eq_2 ..) (ev_pos (by omega) (ev_pos (by omega) (ev_pos (by rw [fillAt_length _ _ (by omega)]; omega) ?_)))
    have hi : i < (iota n).length := by omega
    have e : (i : Int) = (iota n)[i] := (iota_get hi).symm
    have h := ih (i + 1) (by omega)
    rw [← fillAt_set _ _ hi, ← e] at h
    rw [wrap64_nat (by omega) (by omega), Int.toNat_natCast]
    exact h
theorem semigroupref03_Discrete_ev (n : Int) (h0 : 0 ≤ n) (h1 : n ≤ 35184372088832) : Ev (fun k => semigroupref03_Discrete.f k n) (iota n.toNat) := by
  unfold semigroupref03_Discrete.f
  refine ev_pos h0 (ev_pos (by omega) (ev_bind1 ?_))
  have h := semigroupref03_Discrete_loop n.toNat (by omega) n.toNat 0 (by omega)
  rw [fillAt_zero, iota_length] at h
  rw [List.length_replicate]
  exact h
/-! semigroupref11_Compose: the product -/
theorem semigroupref11_Compose_loop (f g : List Int) (hl : f.length ≤ 35184372088832) (h : ∀ x ∈ f, 0 ≤ x ∧ x < g.length) (d : Nat) : ∀ i : Nat, i + d = f.length → Ev (fun k => semigroupref11_Compose.l0 k g (fillAt (cmp f g) 0 i) f (f.length : Int) (i : Int)) (cmp f g) := by
  have hc : (cmp f g).length = f.length := cmp_length f g
  induction d with
  | zero =>
    intro i hd
    refine Ev.step (fun _ => semigroupref11_Compose.l0.eq_2 ..) (ev_neg (by omega) (ev_some ?_))
    rw [show i = (cmp f g).length by omega, fillAt_all]
  | succ d ih =>
    intro i hd
    have hi : i < f.length := by omega
    have hx := h f[i] (List.getElem_mem hi)
    refine Ev.step (fun _ => semigroupref11_Compose.l0.eq_2 ..) (ev_pos (by omega) (ev_pos (by omega) (ev_pos (by omega) ?_)))
    rw [rd_lt hi]
    refine ev_pos hx.1 (ev_pos hx.2 (ev_pos (by rw [fillAt_length _ _ (by omega)]; omega) ?_))
    have e : rd g f[i] = (cmp f g)[i] := by simp [cmp]
    rw [wrap64_nat (by omega) (by omega), e, Int.toNat_natCast, fillAt_set _ _ (by omega)]
    exact ih (i + 1) (by omega)
theorem semigroupref11_Compose_ev (f g : List Int) (hl : f.length ≤ 35184372088832) (h : ∀ x ∈ f, 0 ≤ x ∧ x < g.length) : Ev (fun k => semigroupref11_Compose.f k f g) (cmp f g) := by
  unfold semigroupref11_Compose.f
  refine ev_pos (by omega) (ev_pos (by omega) ?_)
  have := semigroupref11_Compose_loop f g hl h f.length 0 (by omega)
  rwa [fillAt_zero, cmp_length] at this
theorem semigroupref11_Power_loop (n : Nat) (hn : n ≤ 32) (m : Nat) : ∀ out sq : List Int, isTr n out → isTr n sq → m ≤ 9223372036854775807 → Ev (fun k => semigroupref11_Power.l0 k sq (m : Int) out) (powL m out sq) := by
  induction m using Nat.strongRecOn with
  | _ m ih =>
    intro out sq ho hs hm
    refine Ev.step (fun _ => semigroupref11_Power.l0.eq_2 ..) ?_
    have hsq := isTr_cmp hs hs
    rcases Nat.eq_zero_or_pos m with rfl | h
    · rw [powL_zero]
      exact ev_neg (by omega) (ev_some rfl)
    · have e2 : wrap64 (Int.tdiv (m : Int) 2) = ((m / 2 : Nat) : Int) := by
        rw [show Int.tdiv (m : Int) 2 = ((m / 2 : Nat) : Int) from rfl]; exact wrap64_eq (by omega) (by omega)
      have e3 : Int.tmod (m : Int) 2 = ((m % 2 : Nat) : Int) := rfl
      rw [powL_pos h, e2, e3]
      refine ev_pos (by omega) (ev_ite (fun h1 => ?_) (fun h1 => ?_))
      · rw [if_pos (by omega)]
        exact ev_bind _ (semigroupref11_Compose_ev out sq (by rw [ho.1]; omega) (by rw [hs.1]; exact ho.2)) (ev_bind _ (semigroupref11_Compose_ev sq sq (by rw [hs.1]; omega) (by rw [hs.1]; exact hs.2)) (ih _ (by omega) _ _ (isTr_cmp ho hs) hsq (by omega)))
      · rw [if_neg (by omega)]
        exact ev_bind _ (semigroupref11_Compose_ev sq sq (by rw [hs.1]; omega) (by rw [hs.1]; exact hs.2)) (ih _ (by omega) _ _ ho hsq (by omega))
theorem semigroupref11_Power_ev (f : List Int) (m : Int) (hv : isT f = true) (h0 : 0 ≤ m) (hm : m ≤ 9223372036854775807) : Ev (fun k => semigroupref11_Power.f k f m) (powL m.toNat (iota f.length) f) := by
  unfold semigroupref11_Power.f
  obtain ⟨h1, h2, h3⟩ := isT_iff.1 hv
  refine ev_bind _ (semigroupref03_Discrete_ev (f.length : Int) (by omega) (by omega)) ?_
  have := semigroupref11_Power_loop f.length h2 m.toNat (iota f.length) f (isTr_iota _) (isTr_of hv) (by omega)
  rwa [Int.toNat_of_nonneg h0] at this
/-! semigroupref11_Valid: is it a transformation -/

theorem semigroupref11_Valid_loop (l : List Int) (hl : l.length ≤ 32) (d : Nat) : ∀ i : Nat, i + d = l.length → Ev (fun k => semigroupref11_Valid.l0 k l l (l.length : Int) (i : Int)) ((l.drop i).all (fun x => decide (0 ≤ x) && decide (x < l.length))) := by
  induction d with
  | zero =>
    intro i hd
    refine Ev.step (fun _ => semigroupref11_Valid.l0.eq_2 ..) (ev_neg (by omega) (ev_some ?_))
    rw [List.drop_eq_nil_of_le (by omega)]; rfl
  | succ d ih =>
    intro i hd
    refine Ev.step (fun _ => semigroupref11_Valid.l0.eq_2 ..) (ev_pos (by omega) (ev_pos (by omega) (ev_pos (by omega) ?_)))
    rw [List.drop_eq_getElem_cons (show i < l.length by omega), List.all_cons, rd_lt (show i < l.length by omega)]
    refine ev_ite (fun h => ev_some ?_) (fun h => ev_ite (fun h2 => ev_some ?_) (fun h2 => ?_))
    · rw [decide_eq_false (show ¬ (0 ≤ l[i]) by omega)]; rfl
    · rw [decide_eq_false (show ¬ (l[i] < l.length) by omega), Bool.and_false]; rfl
    · rw [decide_eq_true (show 0 ≤ l[i] by omega), decide_eq_true (show l[i] < l.length by omega), wrap64_nat (by omega) (by omega)]
      exact ih (i + 1) (by omega)
theorem semigroupref11_Valid_ev (l : List Int) : Ev (fun k => semigroupref11_Valid.f k l) (isT l) := by
  unfold semigroupref11_Valid.f isT
  refine ev_ite (fun h => ?_) (fun h => ?_)
  · refine Ev.step (fun _ => semigroupref11_Valid.j0.eq_2 ..) (ev_pos rfl (ev_some ?_))
    rw [decide_eq_false (show ¬ (1 ≤ l.length) by omega)]; rfl
  · refine Ev.step (fun _ => semigroupref11_Valid.j0.eq_2 ..) (ev_ite (fun h2 => ev_some ?_) (fun h2 => ?_))
    · rw [decide_eq_false (show ¬ (l.length ≤ 32) by simp at h2; omega)]; simp
    · have h3 : l.length ≤ 32 := by simp at h2; omega
      rw [decide_eq_true h3, decide_eq_true (show 1 ≤ l.length by omega)]
      exact semigroupref11_Valid_loop l h3 l.length 0 (by omega)
/-! trans_Compose -/
def Comp (f g : List Int) : List Int := if f.length = g.length ∧ isT f = true ∧ isT g = true then cmp f g else []
theorem trans_Compose_ev (f g : List Int) : Ev (fun k => trans_Compose.f k f g) (Comp f g) := by
  unfold trans_Compose.f Comp
  refine ev_ite (fun h => ?_) (fun h => ev_some (by rw [if_neg (by omega)]))
  refine ev_bind _ (trans_Valid_ev f) (ev_ite (fun hf => ev_bind _ (trans_Valid_ev g) (ev_ite (fun hg => ?_) (fun hg => ev_some (by rw [if_neg (by simp [hg])])))) (fun hf => ev_some (by rw [if_neg (by simp [hf])])))
  obtain ⟨_, hl, hm⟩ := isT_iff.1 hf
  have hn : f.length = g.length := by omega
  refine ev_bind _ (trans_compose_ev f g (by omega) (fun x hx => by have := hm x hx; omega)) (ev_some ?_)
  rw [if_pos ⟨hn, hf, hg⟩]
/-! semigroupref03_Same: equal lists of numbers -/
theorem semigroupref03_Same_loop (a b : List Int) (hl : a.length ≤ 9223372036854775806) (he : a.length = b.length) (d : Nat) : ∀ i : Nat, i + d = a.length → Ev (fun k => semigroupref03_Same.l0 k a b (a.length : Int) (i : Int)) (decide (a.drop i = b.drop i)) := by
  induction d with
  | zero =>
    intro i hd
    refine Ev.step (fun _ => semigroupref03_Same.l0.eq_2 ..) (ev_neg (by omega) (ev_some ?_))
    rw [List.drop_eq_nil_of_le (by omega), List.drop_eq_nil_of_le (by omega)]; rfl
  | succ d ih =>
    intro i hd
    refine Ev.step (fun _ => semigroupref03_Same.l0.eq_2 ..) (ev_pos (by omega) (ev_pos (by omega) (ev_pos (by omega) (ev_pos (by omega) ?_))))
    rw [List.drop_eq_getElem_cons (show i < a.length by omega), List.drop_eq_getElem_cons (show i < b.length by omega), rd_lt (show i < a.length by omega), rd_lt (show i < b.length by omega)]
    refine ev_ite (fun h => ?_) (fun h => ev_some (decide_eq_false (fun e => h (List.cons.inj e).1)).symm)
    rw [wrap64_nat (by omega) (by omega)]
    refine ev_to (ih (i + 1) (by omega)) (decide_eq_decide.2 ⟨fun e => by rw [h, e], fun e => (List.cons.inj e).2⟩)
theorem semigroupref03_Same_ev (a b : List Int) (hl : a.length ≤ 9223372036854775806) : Ev (fun k => semigroupref03_Same.f k a b) (decide (a = b)) := by
  unfold semigroupref03_Same.f
  refine ev_ite (fun h => ?_) (fun h => ev_some ?_)
  · have := semigroupref03_Same_loop a b hl (by omega) a.length 0 (by omega)
    simpa using this
  · rw [decide_eq_false]
    rintro rfl
    exact h rfl
theorem awake_ev : Ev (fun k => semigrouplaw11_awake.f k) true := Ev.of (fun k => semigrouplaw11_awake.mono k) (k := 8) (by decide +kernel)
theorem TransPowers : semigrouplaw11_TransPowers.Pure := by
  intro f m hf hm
  obtain ⟨hm0, hm1⟩ := wf64 hm
  have hlen : (powT f m).length ≤ 9223372036854775806 := by
    unfold powT
    split
    · rename_i h
      have := (isT_iff.1 h.1).2.1
      rw [powL_length, iota_length]; omega
    · simp
  apply Ev.rounds
  unfold semigrouplaw11_TransPowers.f
  refine ev_bind _ (trans_Power_ev f m hm1) (ev_bind _ (semigroupref11_Valid_ev f) (ev_ite (fun hv => ?_) (fun hv => ?_)))
  · refine Ev.step (fun _ => semigrouplaw11_TransPowers.j0.eq_2 ..) (ev_ite (fun h => ?_) (fun h => ?_))
    · refine ev_pos ?_ (ev_bind _ awake_ev (ev_some rfl))
      simp at h
      simp [powT, show ¬ (0 ≤ m) by omega]
    · have h0 : 0 ≤ m := by simp at h; omega
      refine ev_bind _ (semigroupref11_Power_ev f m hv h0 hm1) (ev_bind _ (semigroupref03_Same_ev _ _ hlen) (ev_pos ?_ (ev_bind _ awake_ev (ev_some rfl))))
      simp [powT, hv, h0]
  · refine Ev.step (fun _ => semigrouplaw11_TransPowers.j0.eq_2 ..) (ev_pos rfl (ev_pos ?_ (ev_bind _ awake_ev (ev_some rfl))))
    simp [powT, hv]

end Go.Proofs.Ytimepajbnongoaa.Pure
