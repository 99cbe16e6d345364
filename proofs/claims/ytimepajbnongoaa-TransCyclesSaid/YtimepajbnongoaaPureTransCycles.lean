/- Index and period, the idempotent power and the cycles of any transformation, as the reference has them. -/
import Derived.Test.YtimepajbnongoaaPTransCyclesx
import Derived.Test.YtimepajbnongoaaBase
namespace Go.Proofs.Ytimepajbnongoaa.Pure
open Go.RowKit Go.Proofs.Ytimepajbnongoaa.PTransCycles Go.Proofs.YtimepajbnongoaaW.PrintWords Go.Proofs.YtimepajbnongoaaW.PrintLast Go.Proofs.Ytimepajbnongoaa.Base

/-! partition_Discrete: 0, 1, .. -/
theorem partition_Discrete_loop (n : Nat) (hl : n ≤ 35184372088832) (d : Nat) : ∀ i : Nat, i + d = n → Ev (fun k => partition_Discrete.l0 k (fillAt (iota n) 0 i) (n : Int) (i : Int)) (iota n) := by
  have hn := iota_length n
  induction d with
  | zero =>
    intro i hd
    refine Ev.step (fun _ => partition_Discrete.l0.eq_2 ..) (ev_neg (by omega) (ev_some ?_))
    rw [show i = (iota n).length by omega, fillAt_all]
  | succ d ih =>
    intro i hd
    refine Ev.step (fun _ => partition_Discrete.l0.eq_2 ..) (ev_pos (by omega) (ev_pos (by omega) (ev_pos (by rw [fillAt_length _ _ (by omega)]; omega) ?_)))
    have hi : i < (iota n).length := by omega
    have e : (i : Int) = (iota n)[i] := (iota_get hi).symm
    have h := ih (i + 1) (by omega)
    rw [← fillAt_set _ _ hi, ← e] at h
    rw [wrap64_nat (by omega) (by omega), Int.toNat_natCast]
    exact h
theorem partition_Discrete_ev (n : Int) (h0 : 0 ≤ n) (h1 : n ≤ 4096) : Ev (fun k => partition_Discrete.f k n) (iota n.toNat) := by
  unfold partition_Discrete.f
  refine ev_neg (by omega) (Ev.step (fun _ => partition_Discrete.j0.eq_2 ..) (ev_neg (by simp; omega) (ev_pos h0 (ev_pos (by omega) (ev_bind1 ?_)))))
  have h := partition_Discrete_loop n.toNat (by omega) n.toNat 0 (by omega)
  rw [fillAt_zero, iota_length] at h
  rw [List.length_replicate]
  exact h
/-- trans_Identity -/
def idT (n : Int) : List Int := if 1 ≤ n ∧ n ≤ 32 then iota n.toNat else []
theorem trans_Identity_ev (n : Int) : Ev (fun k => trans_Identity.f k n) (idT n) := by
  unfold trans_Identity.f idT
  refine ev_ite (fun h => ev_some (by rw [if_neg (by omega)])) (fun h => ev_ite (fun h2 => ev_some (by rw [if_neg (by omega)])) (fun h2 => ?_))
  rw [if_pos (by omega)]
  exact ev_bind _ (partition_Discrete_ev n (by omega) (by omega)) (ev_some rfl)
/-! trans_Valid: is it a transformation -/

theorem trans_Valid_loop (l : List Int) (hl : l.length ≤ 32) (d : Nat) : ∀ i : Nat, i + d = l.length → Ev (fun k => trans_Valid.l0 k l l (l.length : Int) (i : Int)) ((l.drop i).all (fun x => decide (0 ≤ x) && decide (x < l.length))) := by
  induction d with
  | zero =>
    intro i hd
    refine Ev.step (fun _ => trans_Valid.l0.eq_2 ..) (ev_neg (by omega) (ev_some ?_))
    rw [List.drop_eq_nil_of_le (by omega)]; rfl
  | succ d ih =>
    intro i hd
    refine Ev.step (fun _ => trans_Valid.l0.eq_2 ..) (ev_pos (by omega) (ev_pos (by omega) (ev_pos (by omega) ?_)))
    rw [List.drop_eq_getElem_cons (show i < l.length by omega), List.all_cons, rd_lt (show i < l.length by omega)]
    refine ev_ite (fun h => ev_some ?_) (fun h => ev_ite (fun h2 => ev_some ?_) (fun h2 => ?_))
    · rw [decide_eq_false (show ¬ (0 ≤ l[i]) by omega)]; rfl
    · rw [decide_eq_false (show ¬ (l[i] < l.length) by omega), Bool.and_false]; rfl
    · rw [decide_eq_true (show 0 ≤ l[i] by omega), decide_eq_true (show l[i] < l.length by omega), wrap64_nat (by omega) (by omega)]
      exact ih (i + 1) (by omega)
theorem trans_Valid_ev (l : List Int) : Ev (fun k => trans_Valid.f k l) (isT l) := by
  unfold trans_Valid.f isT
  refine ev_ite (fun h => ?_) (fun h => ?_)
  · refine Ev.step (fun _ => trans_Valid.j0.eq_2 ..) (ev_pos rfl (ev_some ?_))
    rw [decide_eq_false (show ¬ (1 ≤ l.length) by omega)]; rfl
  · refine Ev.step (fun _ => trans_Valid.j0.eq_2 ..) (ev_ite (fun h2 => ev_some ?_) (fun h2 => ?_))
    · rw [decide_eq_false (show ¬ (l.length ≤ 32) by simp at h2; omega)]; simp
    · have h3 : l.length ≤ 32 := by simp at h2; omega
      rw [decide_eq_true h3, decide_eq_true (show 1 ≤ l.length by omega)]
      exact trans_Valid_loop l h3 l.length 0 (by omega)
/-! trans_compose: the product -/
theorem trans_compose_loop (f g : List Int) (hl : f.length ≤ 35184372088832) (h : ∀ x ∈ f, 0 ≤ x ∧ x < g.length) (d : Nat) : ∀ i : Nat, i + d = f.length → Ev (fun k => trans_compose.l0 k g (fillAt (cmp f g) 0 i) f (f.length : Int) (i : Int)) (cmp f g) := by
  have hc : (cmp f g).length = f.length := cmp_length f g
  induction d with
  | zero =>
    intro i hd
    refine Ev.step (fun _ => trans_compose.l0.eq_2 ..) (ev_neg (by omega) (ev_some ?_))
    rw [show i = (cmp f g).length by omega, fillAt_all]
  | succ d ih =>
    intro i hd
    have hi : i < f.length := by omega
    have hx := h f[i] (List.getElem_mem hi)
    refine Ev.step (fun _ => trans_compose.l0.eq_2 ..) (ev_pos (by omega) (ev_pos (by omega) (ev_pos (by omega) ?_)))
    rw [rd_lt hi]
    refine ev_pos hx.1 (ev_pos hx.2 (ev_pos (by rw [fillAt_length _ _ (by omega)]; omega) ?_))
    have e : rd g f[i] = (cmp f g)[i] := by simp [cmp]
    rw [wrap64_nat (by omega) (by omega), e, Int.toNat_natCast, fillAt_set _ _ (by omega)]
    exact ih (i + 1) (by omega)
theorem trans_compose_ev (f g : List Int) (hl : f.length ≤ 35184372088832) (h : ∀ x ∈ f, 0 ≤ x ∧ x < g.length) : Ev (fun k => trans_compose.f k f g) (cmp f g) := by
  unfold trans_compose.f
  refine ev_pos (by omega) (ev_pos (by omega) ?_)
  have := trans_compose_loop f g hl h f.length 0 (by omega)
  rwa [fillAt_zero, cmp_length] at this
theorem trans_Power_loop (n : Nat) (hn : n ≤ 32) (m : Nat) : ∀ out sq : List Int, isTr n out → isTr n sq → m ≤ 9223372036854775807 → Ev (fun k => trans_Power.l0 k (m : Int) out sq) (powL m out sq) := by
  induction m using Nat.strongRecOn with
  | _ m ih =>
    intro out sq ho hs hm
    refine Ev.step (fun _ => trans_Power.l0.eq_2 ..) ?_
    have hsq := isTr_cmp hs hs
    rcases Nat.eq_zero_or_pos m with rfl | h
    · rw [powL_zero]
      exact ev_neg (by omega) (ev_some rfl)
    · have e2 : wrap64 (Int.tdiv (m : Int) 2) = ((m / 2 : Nat) : Int) := by
        rw [show Int.tdiv (m : Int) 2 = ((m / 2 : Nat) : Int) from rfl]; exact wrap64_eq (by omega) (by omega)
      have e3 : Int.tmod (m : Int) 2 = ((m % 2 : Nat) : Int) := rfl
      rw [powL_pos h, e2, e3]
      refine ev_pos (by omega) (ev_ite (fun h1 => ?_) (fun h1 => ?_))
      · rw [if_pos (by omega)]
        exact ev_bind _ (trans_compose_ev out sq (by rw [ho.1]; omega) (by rw [hs.1]; exact ho.2)) (ev_bind _ (trans_compose_ev sq sq (by rw [hs.1]; omega) (by rw [hs.1]; exact hs.2)) (ih _ (by omega) _ _ (isTr_cmp ho hs) hsq (by omega)))
      · rw [if_neg (by omega)]
        exact ev_bind _ (trans_compose_ev sq sq (by rw [hs.1]; omega) (by rw [hs.1]; exact hs.2)) (ih _ (by omega) _ _ ho hsq (by omega))
/-- trans_Power -/
def powT (f : List Int) (m : Int) : List Int := if isT f = true ∧ 0 ≤ m then powL m.toNat (iota f.length) f else []
theorem trans_Power_ev (f : List Int) (m : Int) (hm : m ≤ 9223372036854775807) : Ev (fun k => trans_Power.f k f m) (powT f m) := by
  unfold trans_Power.f powT
  refine ev_bind _ (trans_Valid_ev f) (ev_ite (fun hv => ?_) (fun hv => ?_))
  · refine Ev.step (fun _ => trans_Power.j0.eq_2 ..) (ev_ite (fun h => ev_some (by rw [if_neg (by simp at h; omega)])) (fun h => ?_))
    have h0 : 0 ≤ m := by simp at h; omega
    obtain ⟨h1, h2, h3⟩ := isT_iff.1 hv
    rw [if_pos ⟨hv, h0⟩]
    have hi : Ev (fun k => trans_Identity.f k (f.length : Int)) (iota f.length) := by
      have := trans_Identity_ev (f.length : Int)
      rwa [show idT (f.length : Int) = iota f.length by simp [idT]; omega] at this
    refine ev_bind _ hi (ev_bind _ hi (ev_bind f ?_ ?_))
    · have := trans_compose_ev (iota f.length) f (by rw [iota_length]; omega) (fun x hx => mem_iota.1 hx)
      rwa [iota_cmp] at this
    · have := trans_Power_loop f.length h2 m.toNat (iota f.length) f (isTr_iota _) (isTr_of hv) (by omega)
      rwa [Int.toNat_of_nonneg h0] at this
  · refine Ev.step (fun _ => trans_Power.j0.eq_2 ..) (ev_pos rfl (ev_some ?_))
    rw [if_neg (by simp [hv])]
/-! Iteration of a transformation: x, f x, f (f x), .. -/
/-- m steps from x. -/
def it (f : List Int) : Nat → Int → Int
  | 0, x => x
  | m + 1, x => rd f (it f m x)
theorem it_succ (f : List Int) (m : Nat) (x : Int) : it f (m + 1) x = rd f (it f m x) := rfl
theorem it_range {n : Nat} {f : List Int} (hf : isTr n f) {x : Int} (h0 : 0 ≤ x) (h1 : x < n) : ∀ m, 0 ≤ it f m x ∧ it f m x < n
  | 0 => ⟨h0, h1⟩
  | m + 1 => by
    have ih := it_range hf h0 h1 m
    exact hf.2 _ (rd_mem ih.1 (by rw [hf.1]; exact ih.2))
theorem it_add (f : List Int) (a : Nat) (x : Int) : ∀ b, it f (a + b) x = it f b (it f a x)
  | 0 => rfl
  | b + 1 => by
    show rd f (it f (a + b) x) = rd f (it f b (it f a x))
    rw [it_add f a x b]
/-- A path that runs into a cycle: t steps to it, c steps round it. -/
structure Rho (f : List Int) (x : Int) (t c : Nat) : Prop where
  pos : 1 ≤ c
  back : it f (t + c) x = it f t x
  apart : ∀ a b, a < b → b < t + c → it f a x ≠ it f b x
theorem Rho.shift {f : List Int} {x : Int} {t c : Nat} (h : Rho f x t c) {a : Nat} (ha : t ≤ a) : it f (a + c) x = it f a x := by
  obtain ⟨d, rfl⟩ := Nat.le.dest ha
  rw [show t + d + c = (t + c) + d by omega, it_add, h.back, ← it_add]
theorem Rho.turns {f : List Int} {x : Int} {t c : Nat} (h : Rho f x t c) {a : Nat} (ha : t ≤ a) (k : Nat) : it f (a + c * k) x = it f a x := by
  induction k with
  | zero => rfl
  | succ k ih => rw [Nat.mul_succ, ← Nat.add_assoc, h.shift (by omega), ih]
/-- The place within the path that m steps lead to. -/
def redN (t c m : Nat) : Nat := if m < t then m else t + (m - t) % c
theorem Rho.red {f : List Int} {x : Int} {t c : Nat} (h : Rho f x t c) (m : Nat) : it f m x = it f (redN t c m) x := by
  unfold redN
  split
  · rfl
  · have e : m = t + (m - t) % c + c * ((m - t) / c) := by
      have := Nat.mod_add_div (m - t) c
      omega
    conv => lhs; rw [e]
    exact h.turns (by omega) _
theorem Rho.red_lt {f : List Int} {x : Int} {t c : Nat} (h : Rho f x t c) (m : Nat) : redN t c m < t + c := by
  unfold redN
  have := h.pos
  split
  · omega
  · have := Nat.mod_lt (m - t) (show c > 0 by omega)
    omega
theorem Rho.iff {f : List Int} {x : Int} {t c : Nat} (h : Rho f x t c) {a b : Nat} (hab : a < b) : it f a x = it f b x ↔ t ≤ a ∧ c ∣ b - a := by
  constructor
  · intro e
    have er : redN t c a = redN t c b := by
      rw [h.red a, h.red b] at e
      have ha := h.red_lt a
      have hb := h.red_lt b
      rcases Nat.lt_trichotomy (redN t c a) (redN t c b) with h1 | h1 | h1
      · exact absurd e (h.apart _ _ h1 hb)
      · exact h1
      · exact absurd e.symm (h.apart _ _ h1 ha)
    unfold redN at er
    split at er
    · split at er
      · omega
      · have := Nat.zero_le ((b - t) % c)
        omega
    · rw [if_neg (by omega)] at er
      refine ⟨by omega, ?_⟩
      have e2 : (b - t) % c = (a - t) % c := by omega
      have := (Nat.sub_mod_eq_zero_of_mod_eq e2)
      rw [show b - t - (a - t) = b - a by omega] at this
      exact Nat.dvd_of_mod_eq_zero this
  · rintro ⟨h1, k, hk⟩
    rw [show b = a + c * k by omega, h.turns h1]
/-- Different points in a range: no more than the range has. -/
theorem it_count {n : Nat} {f : List Int} (hf : isTr n f) {x : Int} (h0 : 0 ≤ x) (h1 : x < n) {m : Nat} (h : ∀ a b, a < b → b < m → it f a x ≠ it f b x) : m ≤ n := by
  have hn : ((List.range m).map (fun a => it f a x)).Nodup := by
    unfold List.Nodup
    rw [List.pairwise_map]
    exact (List.pairwise_lt_range (n := m)).imp_of_mem (fun {a b} _ hb hab => h a b hab (List.mem_range.1 hb))
  have := nodup_le hn (m := iota n) (fun y hy => by
    obtain ⟨a, _, rfl⟩ := List.mem_map.1 hy
    exact mem_iota.2 (it_range hf h0 h1 a))
  simpa [iota_length] using this
theorem Rho.le {n : Nat} {f : List Int} (hf : isTr n f) {x : Int} (h0 : 0 ≤ x) (h1 : x < n) {t c : Nat} (h : Rho f x t c) : t + c ≤ n := it_count hf h0 h1 h.apart
/-- When each point was met: 1 + the number of steps, 0: not yet. -/
def seenL (f : List Int) (n : Nat) (x : Int) : Nat → List Int
  | 0 => List.replicate n 0
  | m + 1 => (seenL f n x m).set (it f m x).toNat ((m : Int) + 1)
theorem seenL_length (f : List Int) (n : Nat) (x : Int) : ∀ m, (seenL f n x m).length = n
  | 0 => by simp [seenL]
  | m + 1 => by rw [seenL, List.length_set, seenL_length f n x m]
theorem seenL_at {n : Nat} {f : List Int} (hf : isTr n f) {x : Int} (h0 : 0 ≤ x) (h1 : x < n) : ∀ m, (∀ a b, a < b → b < m → it f a x ≠ it f b x) → (∀ j, j < m → rd (seenL f n x m) (it f j x) = (j : Int) + 1) ∧ (∀ y : Int, 0 ≤ y → y < n → (∀ j, j < m → it f j x ≠ y) → rd (seenL f n x m) y = 0)
  | 0, _ => ⟨fun j hj => by omega, fun y h2 h3 _ => by
      have : y.toNat < n := by omega
      simp [seenL, rd, this]⟩
  | m + 1, ha => by
    have ih := seenL_at hf h0 h1 m (fun a b hab hb => ha a b hab (by omega))
    have hm := it_range hf h0 h1 m
    refine ⟨fun j hj => ?_, fun y h2 h3 hy => ?_⟩
    · by_cases e : j = m
      · subst e
        exact rd_set_self hm.1 (by rw [seenL_length]; exact hm.2)
      · have hj2 := it_range hf h0 h1 j
        rw [seenL, rd_set_ne hm.1 hj2.1 (fun e2 => ha j m (by omega) (by omega) e2.symm)]
        exact ih.1 j (by omega)
    · rw [seenL, rd_set_ne hm.1 h2 (hy m (by omega))]
      exact ih.2 y h2 h3 (fun j hj => hy j (by omega))
/-- The m-th power, of n points. -/
def pw (f : List Int) (n m : Nat) : List Int := (iota n).map (fun x => it f m x)
theorem pw_length (f : List Int) (n m : Nat) : (pw f n m).length = n := by simp [pw, iota_length]
theorem pw_zero (f : List Int) (n : Nat) : pw f n 0 = iota n := by
  unfold pw
  conv => rhs; rw [← List.map_id (iota n)]
  rfl
theorem pw_rd {f : List Int} {n m : Nat} {x : Int} (h0 : 0 ≤ x) (h1 : x < n) : rd (pw f n m) x = it f m x := by
  have := rd_cmp (f := iota n) (g := pw f n m) (x := x)
  have h2 : x.toNat < (pw f n m).length := by rw [pw_length]; omega
  rw [show rd (pw f n m) x = (pw f n m)[x.toNat] by simp only [rd, List.getD_eq_getElem?_getD, List.getElem?_eq_getElem h2, Option.getD_some]]
  simp only [pw, List.getElem_map, iota_get, Int.toNat_of_nonneg h0]
theorem pw_isTr {f : List Int} {n : Nat} (hf : isTr n f) (m : Nat) : isTr n (pw f n m) := by
  refine ⟨pw_length _ _ _, fun y hy => ?_⟩
  obtain ⟨x, hx, rfl⟩ := List.mem_map.1 hy
  have hx := mem_iota.1 hx
  exact it_range hf hx.1 hx.2 m
theorem pw_one {f : List Int} {n : Nat} (hf : isTr n f) : pw f n 1 = f := by
  obtain ⟨rfl, h⟩ := hf
  exact iota_cmp f
theorem cmp_pw {f : List Int} {n : Nat} (hf : isTr n f) (a b : Nat) : cmp (pw f n a) (pw f n b) = pw f n (a + b) := by
  show ((iota n).map (fun x => it f a x)).map (fun x => rd (pw f n b) x) = _
  rw [List.map_map]
  apply List.map_congr_left
  intro x hx
  have hx := mem_iota.1 hx
  have h := it_range hf hx.1 hx.2 a
  show rd (pw f n b) (it f a x) = it f (a + b) x
  rw [pw_rd h.1 h.2, it_add]
theorem pw_eq_iff {f : List Int} {n a b : Nat} : pw f n a = pw f n b ↔ ∀ x : Int, 0 ≤ x → x < n → it f a x = it f b x := by
  constructor
  · intro e x h0 h1
    rw [← pw_rd (f := f) (m := a) h0 h1, ← pw_rd (f := f) (m := b) h0 h1, e]
  · intro h
    apply List.map_congr_left
    intro x hx
    have hx := mem_iota.1 hx
    exact h x hx.1 hx.2
theorem powL_pw {f : List Int} {n : Nat} (hf : isTr n f) (k : Nat) : ∀ a b, powL k (pw f n a) (pw f n b) = pw f n (a + k * b) := by
  induction k using Nat.strongRecOn with
  | _ k ih =>
    intro a b
    rcases Nat.eq_zero_or_pos k with rfl | h
    · rw [powL_zero]; simp
    · rw [powL_pos h, cmp_pw hf, cmp_pw hf]
      have e : k = 2 * (k / 2) + k % 2 := by omega
      have hm : k / 2 * (b + b) = 2 * (k / 2) * b := by rw [← Nat.two_mul, ← Nat.mul_assoc, Nat.mul_comm (k / 2) 2]
      split
      · rename_i h1
        rw [ih _ (by omega), hm]
        congr 1
        conv => rhs; rw [e, h1, Nat.add_mul, Nat.one_mul]
        omega
      · rename_i h1
        rw [ih _ (by omega), hm]
        congr 1
        conv => rhs; rw [e, show k % 2 = 0 by omega, Nat.add_zero]
theorem powT_pw {f : List Int} (hf : isT f = true) (m : Nat) : powL m (iota f.length) f = pw f f.length m := by
  have h := powL_pw (isTr_of hf) m 0 1
  rwa [pw_zero, pw_one (isTr_of hf), Nat.zero_add, Nat.mul_one] at h
/-- Index and period of the powers. -/
structure Idx (f : List Int) (n I P : Nat) : Prop where
  i1 : 1 ≤ I
  i2 : I ≤ n
  p1 : 1 ≤ P
  iff : ∀ a b, 1 ≤ a → a < b → (pw f n a = pw f n b ↔ I ≤ a ∧ P ∣ b - a)
/-- Each path runs into a cycle. -/
theorem rho_ex {n : Nat} {f : List Int} (hf : isTr n f) {x : Int} (h0 : 0 ≤ x) (h1 : x < n) : ∃ t c, Rho f x t c := by
  have key : ∀ d m, m + d = n + 1 → (∀ a b, a < b → b < m → it f a x ≠ it f b x) → ∃ t c, Rho f x t c := by
    intro d
    induction d with
    | zero =>
      intro m hm ha
      have := it_count hf h0 h1 ha
      omega
    | succ d ih =>
      intro m hm ha
      by_cases h : ∃ t, t < m ∧ it f t x = it f m x
      · obtain ⟨t, ht, he⟩ := h
        exact ⟨t, m - t, by omega, by rw [show t + (m - t) = m by omega]; exact he.symm, fun a b hab hb => ha a b hab (by omega)⟩
      · refine ih (m + 1) (by omega) (fun a b hab hb => ?_)
        by_cases e : b = m
        · subst e
          exact fun e2 => h ⟨a, hab, e2⟩
        · exact ha a b hab (by omega)
  exact key (n + 1) 0 (by omega) (fun a b _ hb => by omega)
theorem trans_gcd_ev (b : Nat) : ∀ a : Nat, Ev (fun k => trans_gcd.f k (a : Int) (b : Int)) (Nat.gcd a b : Int) := by
  unfold trans_gcd.f
  induction b using Nat.strongRecOn with
  | _ b ih =>
    intro a
    refine Ev.step (fun _ => trans_gcd.l0.eq_2 ..) (ev_ite (fun h => ev_some ?_) (fun h => ?_))
    · have : b = 0 := by omega
      subst this; simp
    · have := ih (a % b) (Nat.mod_lt _ (by omega)) b
      rw [Nat.gcd_comm b, ← Nat.gcd_rec, Nat.gcd_comm] at this
      exact this
theorem div32 {c : Nat} (h1 : 1 ≤ c) (h2 : c ≤ 32) : c ∣ 144403552893600 := by
  have : ∀ c : Fin 33, 1 ≤ c.val → c.val ∣ 144403552893600 := by decide
  exact this ⟨c, by omega⟩ h1
theorem div16 {c : Nat} (h1 : 1 ≤ c) (h2 : c ≤ 16) : c ∣ 720720 := by
  have : ∀ c : Fin 17, 1 ≤ c.val → c.val ∣ 720720 := by decide
  exact this ⟨c, by omega⟩ h1
/-- What is known after the paths of the first i points. -/
structure IdxTo (f : List Int) (i I P : Nat) : Prop where
  i1 : 1 ≤ I
  i2 : I ≤ f.length
  p1 : 1 ≤ P
  all : ∀ L, (∀ c, 1 ≤ c → c ≤ f.length → c ∣ L) → P ∣ L
  div : ∀ m, P ∣ m ↔ ∀ j : Nat, j < i → ∀ t c, Rho f (j : Int) t c → c ∣ m
  iff : ∀ a b, 1 ≤ a → a < b → ((I ≤ a ∧ P ∣ b - a) ↔ ∀ j : Nat, j < i → it f a (j : Int) = it f b (j : Int))
  rho : ∀ j : Nat, j < i → ∃ t c, Rho f (j : Int) t c
theorem IdxTo.le {f : List Int} {i I P : Nat} (h : IdxTo f i I P) (hl : f.length ≤ 32) : P ≤ 144403552893600 := Nat.le_of_dvd (by decide) (h.all _ (fun _ h1 h2 => div32 h1 (by omega)))
theorem Rho.uniq {f : List Int} {x : Int} {t c t' c' : Nat} (h : Rho f x t c) (h' : Rho f x t' c') : t = t' ∧ c = c' := by
  have p := h.pos
  have p' := h'.pos
  have e1 := (h.iff (show t < t + c by omega)).2 ⟨Nat.le_refl _, by rw [Nat.add_sub_cancel_left]; exact Nat.dvd_refl _⟩
  have e2 := (h'.iff (show t' < t' + c' by omega)).2 ⟨Nat.le_refl _, by rw [Nat.add_sub_cancel_left]; exact Nat.dvd_refl _⟩
  obtain ⟨a1, a2⟩ := (h'.iff (show t < t + c by omega)).1 e1
  obtain ⟨b1, b2⟩ := (h.iff (show t' < t' + c' by omega)).1 e2
  rw [Nat.add_sub_cancel_left] at a2 b2
  exact ⟨by omega, Nat.dvd_antisymm b2 a2⟩
theorem IdxTo.succ {f : List Int} {i I P t c : Nat} (hf : isTr f.length f) (h : IdxTo f i I P) (hi : i < f.length) (hr : Rho f (i : Int) t c) : IdxTo f (i + 1) (max I t) (Nat.lcm P c) := by
  have hle := hr.le hf (by omega) (by omega)
  have hc := hr.pos
  refine ⟨by have := h.i1; omega, by have := h.i2; omega, Nat.lcm_pos h.p1 hc, fun L hL => Nat.lcm_dvd (h.all L hL) (hL c hc (by omega)), fun m => ?_, fun a b ha hab => ?_, fun j hj => ?_⟩
  · constructor
    · intro hm j hj t' c' hr'
      by_cases e : j = i
      · subst e
        rw [← (hr.uniq hr').2]
        exact Nat.dvd_trans (Nat.dvd_lcm_right _ _) hm
      · exact (h.div m).1 (Nat.dvd_trans (Nat.dvd_lcm_left _ _) hm) j (by omega) t' c' hr'
    · intro hm
      exact Nat.lcm_dvd ((h.div m).2 (fun j hj => hm j (by omega))) (hm i (by omega) t c hr)
  · constructor
    · rintro ⟨h1, h2⟩ j hj
      by_cases e : j = i
      · subst e
        exact (hr.iff hab).2 ⟨by omega, Nat.dvd_trans (Nat.dvd_lcm_right _ _) h2⟩
      · exact (h.iff a b ha hab).1 ⟨by omega, Nat.dvd_trans (Nat.dvd_lcm_left _ _) h2⟩ j (by omega)
    · intro h1
      obtain ⟨h2, h3⟩ := (h.iff a b ha hab).2 (fun j hj => h1 j (by omega))
      obtain ⟨h4, h5⟩ := (hr.iff hab).1 (h1 i (by omega))
      exact ⟨by omega, Nat.lcm_dvd h3 h5⟩
  · by_cases e : j = i
    · subst e; exact ⟨t, c, hr⟩
    · exact h.rho j (by omega)
theorem IdxTo.idx {f : List Int} {I P : Nat} (h : IdxTo f f.length I P) : Idx f f.length I P := by
  refine ⟨h.i1, h.i2, h.p1, fun a b ha hab => ?_⟩
  rw [h.iff a b ha hab, pw_eq_iff]
  constructor
  · intro e j hj
    exact e j (by omega) (by omega)
  · intro e x h0 h1
    have := e x.toNat (by omega)
    rwa [Int.toNat_of_nonneg h0] at this
theorem IdxTo.zero (f : List Int) (h : 1 ≤ f.length) : IdxTo f 0 1 1 := by
  refine ⟨Nat.le_refl _, h, Nat.le_refl _, fun L _ => Nat.one_dvd _, fun m => ⟨fun _ j hj => by omega, fun _ => Nat.one_dvd _⟩, fun a b ha hab => ⟨fun _ j hj => by omega, fun _ => ⟨ha, Nat.one_dvd _⟩⟩, fun j hj => by omega⟩
/-- One path, step by step. -/
theorem trans_IndexPeriod_path {f : List Int} (hf : isTr f.length f) (hl : f.length ≤ 32) {i : Nat} (hi : i < f.length) (I P : Nat) (hP : 1 ≤ P) (hP2 : P ≤ 144403552893600) {r : Int × Int} (R : ∀ t c, Rho f (i : Int) t c → Nat.lcm P c ≤ 144403552893600 → Ev (fun k => trans_IndexPeriod.l0 k f (max I t : Nat) (Nat.lcm P c : Nat) (f.length : Int) ((i + 1 : Nat) : Int)) r) (hlc : ∀ t c, Rho f (i : Int) t c → Nat.lcm P c ≤ 144403552893600) (d : Nat) : ∀ m : Nat, m + d = f.length + 1 → (∀ a b, a < b → b < m → it f a (i : Int) ≠ it f b (i : Int)) → Ev (fun k => trans_IndexPeriod.l1 k f (I : Int) (P : Int) (seenL f f.length (i : Int) m) (it f m (i : Int)) (m : Int) (f.length : Int) (i : Int)) r := by
  induction d with
  | zero =>
    intro m hm ha
    have := it_count hf (x := (i : Int)) (by omega) (by omega) ha
    omega
  | succ d ih =>
    intro m hm ha
    have hx := it_range hf (x := (i : Int)) (by omega) (by omega) m
    have hs := seenL_at hf (x := (i : Int)) (by omega) (by omega) m ha
    refine Ev.step (fun _ => trans_IndexPeriod.l1.eq_2 ..) (ev_pos hx.1 (ev_pos (by rw [seenL_length]; exact hx.2) (ev_ite (fun h => ?_) (fun h => ?_))))
    · rw [wrap64_nat (by omega) (by omega)]
      refine ev_pos hx.2 (ih (m + 1) (by omega) (fun a b hab hb => ?_))
      by_cases e : b = m
      · subst e
        intro e2
        rw [← e2, hs.1 a hab] at h
        omega
      · exact ha a b hab (by omega)
    · obtain ⟨t, ht, he⟩ : ∃ t, t < m ∧ it f t (i : Int) = it f m (i : Int) := by
        refine Decidable.byContradiction fun hn => h (hs.2 _ hx.1 hx.2 (fun j hj e => hn ⟨j, hj, e⟩))
      have hv := hs.1 t ht
      rw [he] at hv
      have hr : Rho f (i : Int) t (m - t) := ⟨by omega, by rw [show t + (m - t) = m by omega]; exact he.symm, fun a b hab hb => ha a b hab (by omega)⟩
      have hle := hr.le hf (by omega) (by omega)
      rw [hv]
      have e1 : wrap64 (wrap64 ((m : Int) - ((t : Int) + 1)) + 1) = ((m - t : Nat) : Int) := by
        rw [wrap64_eq (n := (m : Int) - ((t : Int) + 1)) (by omega) (by omega), wrap64_eq (by omega) (by omega)]; omega
      have e2 : mx (I : Int) (wrap64 ((t : Int) + 1 - 1)) = ((max I t : Nat) : Int) := by
        rw [wrap64_eq (by omega) (by omega)]
        unfold mx
        split <;> omega
      have hc := hr.pos
      have hg : 0 < Nat.gcd P (m - t) := Nat.gcd_pos_of_pos_left _ hP
      have hq : P / Nat.gcd P (m - t) ≤ P := Nat.div_le_self _ _
      have e4 : P / Nat.gcd P (m - t) * (m - t) = Nat.lcm P (m - t) := by
        rw [Nat.lcm, ← Nat.mul_div_right_comm (Nat.gcd_dvd_left _ _)]
      have hb := hlc _ _ hr
      have e3 : wrap64 (wrap64 (Int.tdiv (P : Int) (Nat.gcd P (m - t) : Int)) * ((m - t : Nat) : Int)) = ((Nat.lcm P (m - t) : Nat) : Int) := by
        rw [show Int.tdiv (P : Int) (Nat.gcd P (m - t) : Int) = ((P / Nat.gcd P (m - t) : Nat) : Int) from rfl]
        generalize P / Nat.gcd P (m - t) = Q at hq e4 ⊢
        rw [wrap64_eq (n := (Q : Int)) (by omega) (by omega)]
        rw [show (Q : Int) * ((m - t : Nat) : Int) = ((Q * (m - t) : Nat) : Int) from rfl, e4]
        exact wrap64_eq (by omega) (by omega)
      rw [e1, e2]
      refine ev_bind _ (trans_gcd_ev (m - t) P) (ev_neg (by omega) ?_)
      rw [e3, wrap64_nat (by omega) (by omega)]
      exact R t (m - t) hr hb
theorem trans_IndexPeriod_loop {f : List Int} (hf : isTr f.length f) (hl : f.length ≤ 32) (d : Nat) : ∀ i I P : Nat, i + d = f.length → IdxTo f i I P → ∃ I' P', IdxTo f f.length I' P' ∧ Ev (fun k => trans_IndexPeriod.l0 k f (I : Int) (P : Int) (f.length : Int) (i : Int)) ((I' : Int), (P' : Int)) := by
  induction d with
  | zero =>
    intro i I P hd h
    obtain rfl : i = f.length := by omega
    exact ⟨I, P, h, Ev.step (fun _ => trans_IndexPeriod.l0.eq_2 ..) (ev_neg (by omega) (ev_some rfl))⟩
  | succ d ih =>
    intro i I P hd h
    have hi : i < f.length := by omega
    obtain ⟨t, c, hr⟩ := rho_ex hf (x := (i : Int)) (by omega) (by omega)
    have hs := h.succ hf hi hr
    obtain ⟨I', P', h1, h2⟩ := ih (i + 1) _ _ (by omega) hs
    refine ⟨I', P', h1, ?_⟩
    refine Ev.step (fun _ => trans_IndexPeriod.l0.eq_2 ..) (ev_pos (by omega) (ev_pos (by omega) (ev_pos (by omega) ?_)))
    have hlc : ∀ t c, Rho f (i : Int) t c → Nat.lcm P c ≤ 144403552893600 := fun t c hr => (h.succ hf hi hr).le hl
    refine trans_IndexPeriod_path hf hl hi I P h.p1 (h.le hl) (r := ((I' : Int), (P' : Int))) (fun t' c' hr' _ => ?_) hlc (f.length + 1) 0 (by omega) (fun a b _ hb => by omega)
    obtain ⟨rfl, rfl⟩ := hr.uniq hr'
    exact h2
theorem trans_IndexPeriod_ev (f : List Int) (hv : isT f = true) : ∃ I P, IdxTo f f.length I P ∧ Ev (fun k => trans_IndexPeriod.f k f) ((I : Int), (P : Int)) := by
  obtain ⟨h1, h2, h3⟩ := isT_iff.1 hv
  obtain ⟨I, P, hi, he⟩ := trans_IndexPeriod_loop (isTr_of hv) h2 f.length 0 1 1 (by omega) (IdxTo.zero f h1)
  refine ⟨I, P, hi, ?_⟩
  unfold trans_IndexPeriod.f
  exact ev_bind _ (trans_Valid_ev f) (ev_pos hv he)
theorem trans_IndexPeriod_no (f : List Int) (hv : ¬ isT f = true) : Ev (fun k => trans_IndexPeriod.f k f) (0, 0) := by
  unfold trans_IndexPeriod.f
  exact ev_bind _ (trans_Valid_ev f) (ev_neg hv (ev_some rfl))
/-- The exponent of the idempotent power. -/
def omN (I P : Nat) : Nat := (I + P - 1) / P * P
theorem omN_spec {I P : Nat} (hP : 1 ≤ P) : I ≤ omN I P ∧ omN I P ≤ I + P - 1 ∧ P ∣ omN I P := by
  unfold omN
  have h := Nat.div_add_mod (I + P - 1) P
  have h2 := Nat.mod_lt (I + P - 1) (show P > 0 by omega)
  rw [Nat.mul_comm] at h
  exact ⟨by omega, by omega, Nat.dvd_mul_left _ _⟩
theorem trans_Omega_ev (f : List Int) (hv : isT f = true) {I P : Nat} (h : IdxTo f f.length I P) (he : Ev (fun k => trans_IndexPeriod.f k f) ((I : Int), (P : Int))) : Ev (fun k => trans_Omega.f k f) (pw f f.length (omN I P)) := by
  obtain ⟨h1, h2, h3⟩ := isT_iff.1 hv
  have hP := h.le h2
  have hP1 := h.p1
  have hI := h.i2
  have hI1 := h.i1
  obtain ⟨o1, o2, o3⟩ := omN_spec (I := I) hP1
  unfold trans_Omega.f
  refine ev_bind _ (trans_Valid_ev f) (ev_pos hv (ev_bind _ he (ev_neg (by show ¬ ((P : Int) = 0); omega) ?_)))
  have e : wrap64 (wrap64 (Int.tdiv (wrap64 (wrap64 ((I : Int) + (P : Int)) - 1)) (P : Int)) * (P : Int)) = ((omN I P : Nat) : Int) := by
    rw [wrap64_eq (n := (I : Int) + P) (by omega) (by omega), wrap64_eq (n := (I : Int) + P - 1) (by omega) (by omega)]
    rw [show (I : Int) + P - 1 = ((I + P - 1 : Nat) : Int) by omega, show Int.tdiv ((I + P - 1 : Nat) : Int) (P : Int) = (((I + P - 1) / P : Nat) : Int) from rfl]
    have hd := Nat.div_le_self (I + P - 1) P
    have ho : omN I P = (I + P - 1) / P * P := rfl
    generalize (I + P - 1) / P = Q at hd ho ⊢
    rw [wrap64_eq (n := (Q : Int)) (by omega) (by omega), show (Q : Int) * (P : Int) = ((Q * P : Nat) : Int) from rfl, ← ho]
    exact wrap64_eq (by omega) (by omega)
  show Ev (fun k => (trans_Power.f k f (wrap64 (wrap64 (Int.tdiv (wrap64 (wrap64 ((I : Int) + (P : Int)) - 1)) (P : Int)) * (P : Int)))).bind fun t => some t) _
  rw [e]
  refine ev_bind _ (trans_Power_ev f (omN I P : Nat) (by omega)) (ev_some ?_)
  rw [powT, if_pos ⟨hv, by omega⟩, Int.toNat_natCast, powT_pw hv]
theorem trans_Omega_no (f : List Int) (hv : ¬ isT f = true) : Ev (fun k => trans_Omega.f k f) [] := by
  unfold trans_Omega.f
  exact ev_bind _ (trans_Valid_ev f) (ev_neg hv (ev_some rfl))
/-- How far the path from i goes before it is not above i. -/
def cycEnd (f : List Int) (i : Int) : Nat → Nat → Nat
  | 0, m => m
  | d + 1, m => if it f m i > i then cycEnd f i d (m + 1) else m
/-- The first m points of the path. -/
def path (f : List Int) (i : Int) (m : Nat) : List Int := (List.range m).map (fun k => it f k i)
theorem path_length (f : List Int) (i : Int) (m : Nat) : (path f i m).length = m := by simp [path]
theorem path_one (f : List Int) (i : Int) : path f i 1 = [i] := rfl
theorem path_succ (f : List Int) (i : Int) (m : Nat) : path f i (m + 1) = path f i m ++ [it f m i] := by simp [path, List.range_succ]
theorem rd_path {f : List Int} {i : Int} {m k : Nat} (h : k < m) : rd (path f i m) (k : Int) = it f k i := by
  rw [rd_lt (show k < (path f i m).length by rw [path_length]; exact h)]
  simp [path]
/-- The cycles with a least point below i. -/
def cycL (f : List Int) : Nat → List (List Int)
  | 0 => []
  | i + 1 => if it f (cycEnd f (i : Int) f.length 1) (i : Int) = (i : Int) then cycL f i ++ [path f (i : Int) (cycEnd f (i : Int) f.length 1)] else cycL f i
theorem cycL_length (f : List Int) : ∀ i, (cycL f i).length ≤ i
  | 0 => by simp [cycL]
  | i + 1 => by
    have := cycL_length f i
    unfold cycL
    split
    · rw [List.length_append, List.length_singleton]; omega
    · omega
theorem cycEnd_le (f : List Int) (i : Int) : ∀ d m, cycEnd f i d m ≤ m + d
  | 0, m => by simp [cycEnd]
  | d + 1, m => by
    unfold cycEnd
    split
    · have := cycEnd_le f i d (m + 1); omega
    · omega
theorem cycEnd_ge (f : List Int) (i : Int) : ∀ d m, m ≤ cycEnd f i d m
  | 0, m => by simp [cycEnd]
  | d + 1, m => by
    unfold cycEnd
    split
    · have := cycEnd_ge f i d (m + 1); omega
    · omega
theorem cycEnd_above (f : List Int) (i : Int) : ∀ d m k, m ≤ k → k < cycEnd f i d m → it f k i > i
  | 0, m, k => by simp [cycEnd]; omega
  | d + 1, m, k => by
    unfold cycEnd
    split
    · rename_i h
      intro h1 h2
      by_cases e : k = m
      · subst e; exact h
      · exact cycEnd_above f i d (m + 1) k (by omega) h2
    · intro h1 h2; omega
theorem cycEnd_stop (f : List Int) (i : Int) : ∀ d m k, m ≤ k → k < m + d → it f k i ≤ i → cycEnd f i d m ≤ k
  | 0, m, k => by omega
  | d + 1, m, k => by
    unfold cycEnd
    split
    · rename_i h
      intro h1 h2 h3
      exact cycEnd_stop f i d (m + 1) k (by by_cases e : k = m; (subst e; omega); omega) (by omega) h3
    · intro h1 _ _; exact h1
theorem cycL_rows (f : List Int) : ∀ i, ∀ x ∈ cycL f i, x.length ≤ f.length + 1
  | 0 => by simp [cycL]
  | i + 1 => by
    intro x
    unfold cycL
    have := cycEnd_le f (i : Int) f.length 1
    split
    · intro hx
      rcases List.mem_append.1 hx with h | h
      · exact cycL_rows f i x h
      · rw [List.mem_singleton.1 h, path_length]; omega
    · exact cycL_rows f i x
theorem trans_Cycles_path {f : List Int} (hf : isTr f.length f) (hl : f.length ≤ 32) {i : Nat} (hi : i < f.length) (L : List (List Int)) (hL : L.length ≤ 32) {r : List (List Int)} (d : Nat) : ∀ m : Nat, m + d = f.length + 1 → 1 ≤ m → Ev (fun k => trans_Cycles.l0 k f (if it f (cycEnd f (i : Int) d m) (i : Int) = (i : Int) then L ++ [path f (i : Int) (cycEnd f (i : Int) d m)] else L) (f.length : Int) ((i + 1 : Nat) : Int)) r → Ev (fun k => trans_Cycles.l1 k f L (i : Int) (path f (i : Int) m) (it f m (i : Int)) (f.length : Int) (i : Int)) r := by
  induction d with
  | zero =>
    intro m hm h1 R
    have hp := path_length f (i : Int) m
    refine Ev.step (fun _ => trans_Cycles.l1.eq_2 ..) ?_
    rw [wrap64_nat (by omega) (by omega)]
    rw [show cycEnd f (i : Int) 0 m = m from rfl] at R
    refine ev_ite (fun h => ev_neg (by omega) ?_) (fun h => ?_) <;>
      exact ev_ite (fun h2 => ev_pos (by omega) (by rwa [if_pos h2] at R)) (fun h2 => by rwa [if_neg h2] at R)
  | succ d ih =>
    intro m hm h1 R
    have hp := path_length f (i : Int) m
    have hx := it_range hf (x := (i : Int)) (by omega) (by omega) m
    refine Ev.step (fun _ => trans_Cycles.l1.eq_2 ..) ?_
    rw [show cycEnd f (i : Int) (d + 1) m = if it f m (i : Int) > (i : Int) then cycEnd f (i : Int) d (m + 1) else m from rfl] at R
    refine ev_ite (fun h => ?_) (fun h => ?_)
    · rw [if_pos h] at R
      refine ev_pos (by omega) (ev_pos (by omega) (ev_pos hx.1 (ev_pos hx.2 ?_)))
      rw [← path_succ]
      exact ih (m + 1) (by omega) (by omega) R
    · rw [if_neg h] at R
      rw [wrap64_nat (by omega) (by omega)]
      exact ev_ite (fun h2 => ev_pos (by omega) (by rwa [if_pos h2] at R)) (fun h2 => by rwa [if_neg h2] at R)
theorem trans_Cycles_loop {f : List Int} (hf : isTr f.length f) (hl : f.length ≤ 32) (d : Nat) : ∀ i : Nat, i + d = f.length → Ev (fun k => trans_Cycles.l0 k f (cycL f i) (f.length : Int) (i : Int)) (cycL f f.length) := by
  induction d with
  | zero =>
    intro i hd
    obtain rfl : i = f.length := by omega
    exact Ev.step (fun _ => trans_Cycles.l0.eq_2 ..) (ev_neg (by omega) (ev_some rfl))
  | succ d ih =>
    intro i hd
    have hi : i < f.length := by omega
    have := cycL_length f i
    refine Ev.step (fun _ => trans_Cycles.l0.eq_2 ..) (ev_pos (by omega) (ev_pos (by omega) (ev_pos (by omega) ?_)))
    exact trans_Cycles_path hf hl hi (cycL f i) (by omega) f.length 1 (by omega) (by omega) (ih (i + 1) (by omega))
theorem trans_Cycles_ev (f : List Int) : Ev (fun k => trans_Cycles.f k f) (if isT f = true then cycL f f.length else []) := by
  unfold trans_Cycles.f
  refine ev_bind _ (trans_Valid_ev f) (ev_ite (fun hv => ?_) (fun hv => ev_some (by rw [if_neg hv])))
  rw [if_pos hv]
  exact trans_Cycles_loop (isTr_of hv) (isT_iff.1 hv).2.1 f.length 0 (by omega)
/-! semigroupref03_Same: equal lists of numbers -/
theorem semigroupref03_Same_loop (a b : List Int) (hl : a.length ≤ 9223372036854775806) (he : a.length = b.length) (d : Nat) : ∀ i : Nat, i + d = a.length → Ev (fun k => semigroupref03_Same.l0 k a b (a.length : Int) (i : Int)) (decide (a.drop i = b.drop i)) := by
  induction d with
  | zero =>
    intro i hd
    refine Ev.step (fun _ => semigroupref03_Same.l0.eq_2 ..) (ev_neg (by omega) (ev_some ?_))
    rw [List.drop_eq_nil_of_le (by omega), List.drop_eq_nil_of_le (by omega)]; rfl
  | succ d ih =>
    intro i hd
    refine Ev.step (fun _ => semigroupref03_Same.l0.eq_2 ..) (ev_pos (by omega) (ev_pos (by omega) (ev_pos (by omega) (ev_pos (by omega) ?_))))
    rw [List.drop_eq_getElem_cons (show i < a.length by omega), List.drop_eq_getElem_cons (show i < b.length by omega), rd_lt (show i < a.length by omega), rd_lt (show i < b.length by omega)]
    refine ev_ite (fun h => ?_) (fun h => ev_some (decide_eq_false (fun e => h (List.cons.inj e).1)).symm)
    rw [wrap64_nat (by omega) (by omega)]
    refine ev_to (ih (i + 1) (by omega)) (decide_eq_decide.2 ⟨fun e => by rw [h, e], fun e => (List.cons.inj e).2⟩)
theorem semigroupref03_Same_ev (a b : List Int) (hl : a.length ≤ 9223372036854775806) : Ev (fun k => semigroupref03_Same.f k a b) (decide (a = b)) := by
  unfold semigroupref03_Same.f
  refine ev_ite (fun h => ?_) (fun h => ev_some ?_)
  · have := semigroupref03_Same_loop a b hl (by omega) a.length 0 (by omega)
    simpa using this
  · rw [decide_eq_false]
    rintro rfl
    exact h rfl
/-! semigroupref11_Compose: the product -/
theorem semigroupref11_Compose_loop (f g : List Int) (hl : f.length ≤ 35184372088832) (h : ∀ x ∈ f, 0 ≤ x ∧ x < g.length) (d : Nat) : ∀ i : Nat, i + d = f.length → Ev (fun k => semigroupref11_Compose.l0 k g (fillAt (cmp f g) 0 i) f (f.length : Int) (i : Int)) (cmp f g) := by
  have hc : (cmp f g).length = f.length := cmp_length f g
  induction d with
  | zero =>
    intro i hd
    refine Ev.step (fun _ => semigroupref11_Compose.l0.eq_2 ..) (ev_neg (by omega) (ev_some ?_))
    rw [show i = (cmp f g).length by omega, fillAt_all]
  | succ d ih =>
    intro i hd
    have hi : i < f.length := by omega
    have hx := h f[i] (List.getElem_mem hi)
    refine Ev.step (fun _ => semigroupref11_Compose.l0.eq_2 ..) (ev_pos (by omega) (ev_pos (by omega) (ev_pos (by omega) ?_)))
    rw [rd_lt hi]
    refine ev_pos hx.1 (ev_pos hx.2 (ev_pos (by rw [fillAt_length _ _ (by omega)]; omega) ?_))
    have e : rd g f[i] = (cmp f g)[i] := by simp [cmp]
    rw [wrap64_nat (by omega) (by omega), e, Int.toNat_natCast, fillAt_set _ _ (by omega)]
    exact ih (i + 1) (by omega)
theorem semigroupref11_Compose_ev (f g : List Int) (hl : f.length ≤ 35184372088832) (h : ∀ x ∈ f, 0 ≤ x ∧ x < g.length) : Ev (fun k => semigroupref11_Compose.f k f g) (cmp f g) := by
  unfold semigroupref11_Compose.f
  refine ev_pos (by omega) (ev_pos (by omega) ?_)
  have := semigroupref11_Compose_loop f g hl h f.length 0 (by omega)
  rwa [fillAt_zero, cmp_length] at this
/-- The first m powers. -/
def pwl (f : List Int) (n m : Nat) : List (List Int) := (List.range m).map (fun k => pw f n (k + 1))
theorem pwl_length (f : List Int) (n m : Nat) : (pwl f n m).length = m := by simp [pwl]
theorem pwl_succ (f : List Int) (n m : Nat) : pwl f n m ++ [pw f n (m + 1)] = pwl f n (m + 1) := by simp [pwl, List.range_succ]
theorem rd_pwl {f : List Int} {n m k : Nat} (h : k < m) : rd_L1 (pwl f n m) (k : Int) = pw f n (k + 1) := by
  show rdR (pwl f n m) (k : Int) = _
  rw [rdR_lt (by rw [pwl_length]; exact h)]
  simp [pwl]
theorem semigroupref11_Powers_scan {f : List Int} {n I P : Nat} (hx : Idx f n I P) (hs : n ≤ 32) (hP : P ≤ 5000000) {m : Nat} (hm : m + 1 < I + P) {r : List (List Int) × Int} (R : Ev (fun k => semigroupref11_Powers.l0 k f (pwl f n (m + 1))) r) (d : Nat) : ∀ j : Nat, j + d = m → Ev (fun k => semigroupref11_Powers.l1 k f (pwl f n m) (pw f n (m + 1)) (m : Int) (j : Int)) r := by
  have hI := hx.i2
  induction d with
  | zero =>
    intro j hj
    refine Ev.step (fun _ => semigroupref11_Powers.l1.eq_2 ..) (ev_neg (by omega) (ev_pos (by rw [pwl_length]; omega) ?_))
    rw [pwl_succ]; exact R
  | succ d ih =>
    intro j hj
    refine Ev.step (fun _ => semigroupref11_Powers.l1.eq_2 ..) (ev_pos (by omega) (ev_pos (by omega) (ev_pos (by rw [pwl_length]; omega) ?_)))
    rw [rd_pwl (show j < m by omega)]
    refine ev_bind _ (semigroupref03_Same_ev _ _ (by rw [pw_length]; omega)) (ev_neg (fun e => ?_) ?_)
    · obtain ⟨h1, h2⟩ := (hx.iff (j + 1) (m + 1) (by omega) (by omega)).1 (of_decide_eq_true e)
      have := Nat.le_of_dvd (by omega) h2
      omega
    · rw [wrap64_nat (by omega) (by omega)]
      exact ih (j + 1) (by omega)
theorem semigroupref11_Powers_last {f : List Int} {n I P : Nat} (hx : Idx f n I P) (hs : n ≤ 32) (hP : P ≤ 5000000) (d : Nat) : ∀ j : Nat, j + d = I - 1 → Ev (fun k => semigroupref11_Powers.l1 k f (pwl f n (I + P - 1)) (pw f n (I + P - 1 + 1)) ((I + P - 1 : Nat) : Int) (j : Int)) (pwl f n (I + P - 1), ((I - 1 : Nat) : Int)) := by
  have hI := hx.i2
  have hI1 := hx.i1
  have hP1 := hx.p1
  induction d with
  | zero =>
    intro j hj
    refine Ev.step (fun _ => semigroupref11_Powers.l1.eq_2 ..) (ev_pos (by omega) (ev_pos (by omega) (ev_pos (by rw [pwl_length]; omega) ?_)))
    rw [rd_pwl (show j < I + P - 1 by omega)]
    refine ev_bind _ (semigroupref03_Same_ev _ _ (by rw [pw_length]; omega)) (ev_pos (decide_eq_true ((hx.iff (j + 1) (I + P - 1 + 1) (by omega) (by omega)).2 ⟨by omega, ?_⟩)) (ev_some (by rw [show j = I - 1 by omega])))
    rw [show I + P - 1 + 1 - (j + 1) = P by omega]
    exact Nat.dvd_refl _
  | succ d ih =>
    intro j hj
    refine Ev.step (fun _ => semigroupref11_Powers.l1.eq_2 ..) (ev_pos (by omega) (ev_pos (by omega) (ev_pos (by rw [pwl_length]; omega) ?_)))
    rw [rd_pwl (show j < I + P - 1 by omega)]
    refine ev_bind _ (semigroupref03_Same_ev _ _ (by rw [pw_length]; omega)) (ev_neg (fun e => ?_) ?_)
    · obtain ⟨h1, h2⟩ := (hx.iff (j + 1) (I + P - 1 + 1) (by omega) (by omega)).1 (of_decide_eq_true e)
      omega
    · rw [wrap64_nat (by omega) (by omega)]
      exact ih (j + 1) (by omega)
theorem semigroupref11_Powers_loop {f : List Int} {n I P : Nat} (hf : isTr n f) (hx : Idx f n I P) (hs : n ≤ 32) (hP : P ≤ 5000000) (d : Nat) : ∀ m : Nat, m + d = I + P - 1 → 1 ≤ m → Ev (fun k => semigroupref11_Powers.l0 k f (pwl f n m)) (pwl f n (I + P - 1), ((I - 1 : Nat) : Int)) := by
  have hI := hx.i2
  have hI1 := hx.i1
  have hP1 := hx.p1
  have first : ∀ m : Nat, 1 ≤ m → m ≤ I + P → (∀ r, Ev (fun k => semigroupref11_Powers.l1 k f (pwl f n m) (pw f n (m + 1)) (m : Int) 0) r → Ev (fun k => semigroupref11_Powers.l0 k f (pwl f n m)) r) := by
    intro m h1 h2 r R
    refine Ev.step (fun _ => semigroupref11_Powers.l0.eq_2 ..) ?_
    rw [pwl_length]
    have e : wrap64 ((m : Int) - 1) = ((m - 1 : Nat) : Int) := by rw [wrap64_eq (by omega) (by omega)]; omega
    rw [e, rd_pwl (show m - 1 < m by omega)]
    have hc := cmp_pw hf (m - 1 + 1) 1
    rw [pw_one hf, show m - 1 + 1 + 1 = m + 1 by omega] at hc
    have hp := pw_isTr hf (m - 1 + 1)
    have hev := semigroupref11_Compose_ev (pw f n (m - 1 + 1)) f (by rw [pw_length]; omega) (by rw [hf.1]; exact hp.2)
    rw [hc] at hev
    exact ev_pos (by omega) (ev_pos (by omega) (ev_bind _ hev R))
  induction d with
  | zero =>
    intro m hm h1
    obtain rfl : m = I + P - 1 := by omega
    exact first _ h1 (by omega) _ (semigroupref11_Powers_last hx hs hP (I - 1) 0 (by omega))
  | succ d ih =>
    intro m hm h1
    exact first _ h1 (by omega) _ (semigroupref11_Powers_scan hx hs hP (by omega) (ih (m + 1) (by omega) (by omega)) m 0 (by omega))
theorem semigroupref11_Powers_ev {f : List Int} {n I P : Nat} (hf : isTr n f) (hx : Idx f n I P) (hs : n ≤ 32) (hP : P ≤ 5000000) : Ev (fun k => semigroupref11_Powers.f k f) (pwl f n (I + P - 1), ((I - 1 : Nat) : Int)) := by
  unfold semigroupref11_Powers.f
  have hI1 := hx.i1
  have hP1 := hx.p1
  have := semigroupref11_Powers_loop hf hx hs hP (I + P - 2) 1 (by omega) (by omega)
  rwa [show pwl f n 1 = [f] by simp [pwl, pw_one hf]] at this
theorem semigroupref11_IndexPeriod_ev {f : List Int} {n I P : Nat} (hf : isTr n f) (hx : Idx f n I P) (hs : n ≤ 32) (hP : P ≤ 5000000) : Ev (fun k => semigroupref11_IndexPeriod.f k f) ((I : Int), (P : Int)) := by
  unfold semigroupref11_IndexPeriod.f
  have hI := hx.i2
  have hI1 := hx.i1
  have hP1 := hx.p1
  refine ev_bind _ (semigroupref11_Powers_ev hf hx hs hP) (ev_some ?_)
  show (wrap64 (((I - 1 : Nat) : Int) + 1), wrap64 (((pwl f n (I + P - 1)).length : Int) - ((I - 1 : Nat) : Int))) = _
  rw [pwl_length, wrap64_eq (by omega) (by omega), wrap64_eq (by omega) (by omega)]
  congr 1 <;> omega
theorem idem_iff {f : List Int} {n I P : Nat} (hf : isTr n f) (hx : Idx f n I P) {m : Nat} (hm : 1 ≤ m) : cmp (pw f n m) (pw f n m) = pw f n m ↔ I ≤ m ∧ P ∣ m := by
  rw [cmp_pw hf]
  have := hx.iff m (m + m) hm (by omega)
  rw [Nat.add_sub_cancel_left] at this
  rw [← this]
  exact eq_comm
theorem omN_least {I P m : Nat} (hP : 1 ≤ P) (h1 : I ≤ m) (h2 : P ∣ m) : omN I P ≤ m := by
  obtain ⟨k, rfl⟩ := h2
  unfold omN
  rw [Nat.mul_comm P k]
  apply Nat.mul_le_mul_right
  have : I + P - 1 < (k + 1) * P := by rw [Nat.add_mul, Nat.one_mul, Nat.mul_comm k P]; omega
  exact Nat.le_of_lt_succ ((Nat.div_lt_iff_lt_mul (by omega)).2 this)
theorem semigroupref11_Omega_loop {f : List Int} {n I P : Nat} (hf : isTr n f) (hx : Idx f n I P) (hs : n ≤ 32) (hP : P ≤ 5000000) (d : Nat) : ∀ j : Nat, j + d = omN I P - 1 → Ev (fun k => semigroupref11_Omega.l0 k (pwl f n (I + P - 1)) ((I + P - 1 : Nat) : Int) (j : Int)) (pw f n (omN I P)) := by
  have hI := hx.i2
  have hI1 := hx.i1
  have hP1 := hx.p1
  obtain ⟨o1, o2, o3⟩ := omN_spec (I := I) hP1
  have step : ∀ j : Nat, j < I + P - 1 → ∀ r, Ev (fun k => if decide (cmp (pw f n (j + 1)) (pw f n (j + 1)) = pw f n (j + 1)) = true then some (pw f n (j + 1)) else semigroupref11_Omega.l0 k (pwl f n (I + P - 1)) ((I + P - 1 : Nat) : Int) ((j + 1 : Nat) : Int)) r → Ev (fun k => semigroupref11_Omega.l0 k (pwl f n (I + P - 1)) ((I + P - 1 : Nat) : Int) (j : Int)) r := by
    intro j hj r R
    have hp := pw_isTr hf (j + 1)
    refine Ev.step (fun _ => semigroupref11_Omega.l0.eq_2 ..) (ev_pos (by omega) (ev_pos (by omega) (ev_pos (by rw [pwl_length]; omega) ?_)))
    rw [rd_pwl hj, wrap64_nat (by omega) (by omega)]
    exact ev_bind _ (semigroupref11_Compose_ev _ _ (by rw [pw_length]; omega) (by rw [hp.1]; exact hp.2)) (ev_bind _ (semigroupref03_Same_ev _ _ (by rw [cmp_length, pw_length]; omega)) R)
  induction d with
  | zero =>
    intro j hj
    refine step j (by omega) _ (ev_pos (decide_eq_true ((idem_iff hf hx (by omega)).2 ?_)) (ev_some ?_))
    · rw [show j + 1 = omN I P by omega]; exact ⟨o1, o3⟩
    · rw [show j + 1 = omN I P by omega]
  | succ d ih =>
    intro j hj
    refine step j (by omega) _ (ev_neg (fun e => ?_) (ih (j + 1) (by omega)))
    obtain ⟨h1, h2⟩ := (idem_iff hf hx (show 1 ≤ j + 1 by omega)).1 (of_decide_eq_true e)
    have := omN_least hP1 h1 h2
    omega
theorem semigroupref11_Omega_ev {f : List Int} {n I P : Nat} (hf : isTr n f) (hx : Idx f n I P) (hs : n ≤ 32) (hP : P ≤ 5000000) : Ev (fun k => semigroupref11_Omega.f k f) (pw f n (omN I P)) := by
  unfold semigroupref11_Omega.f
  refine ev_bind _ (semigroupref11_Powers_ev hf hx hs hP) ?_
  have := semigroupref11_Omega_loop hf hx hs hP (omN I P - 1) 0 (by omega)
  rw [← pwl_length f n (I + P - 1)] at this
  conv at this => enter [1, k]; rw [pwl_length]
  show Ev (fun k => semigroupref11_Omega.l0 k (pwl f n (I + P - 1)) ((pwl f n (I + P - 1)).length : Int) 0) _
  rw [pwl_length]
  exact semigroupref11_Omega_loop hf hx hs hP (omN I P - 1) 0 (by omega)
theorem semigroupref11_Cycles_path {f : List Int} (hf : isTr f.length f) (hl : f.length ≤ 32) {i : Nat} (hi : i < f.length) (L : List (List Int)) (hL : L.length ≤ 32) {r : List (List Int)} (d : Nat) : ∀ m : Nat, m + d = f.length + 1 → 1 ≤ m → Ev (fun k => semigroupref11_Cycles.l0 k f (if it f (cycEnd f (i : Int) d m) (i : Int) = (i : Int) then L ++ [path f (i : Int) (cycEnd f (i : Int) d m)] else L) (f.length : Int) ((i + 1 : Nat) : Int)) r → Ev (fun k => semigroupref11_Cycles.l1 k f L (i : Int) (path f (i : Int) m) (it f m (i : Int)) (f.length : Int) (i : Int)) r := by
  have last : ∀ m : Nat, 1 ≤ m → m ≤ f.length + 1 → rd (path f (i : Int) m) (wrap64 ((m : Int) - 1)) = it f (m - 1) (i : Int) ∧ wrap64 ((m : Int) - 1) = ((m - 1 : Nat) : Int) ∧ rd f (it f (m - 1) (i : Int)) = it f m (i : Int) := by
    intro m h1 hm
    have e : wrap64 ((m : Int) - 1) = ((m - 1 : Nat) : Int) := by rw [wrap64_eq (by omega) (by omega)]; omega
    refine ⟨by rw [e]; exact rd_path (by omega), e, ?_⟩
    rw [← it_succ, show m - 1 + 1 = m by omega]
  have hx := it_range hf (x := (i : Int)) (by omega) (by omega)
  induction d with
  | zero =>
    intro m hm h1 R
    have hp := path_length f (i : Int) m
    obtain ⟨e1, e2, e3⟩ := last m h1 (by omega)
    refine Ev.step (fun _ => semigroupref11_Cycles.l1.eq_2 ..) ?_
    rw [wrap64_nat (show (0 : Int) ≤ (i : Int) by omega) (by omega), hp, e1, e3]
    rw [show cycEnd f (i : Int) 0 m = m from rfl] at R
    refine ev_ite (fun h => ev_neg (by omega) ?_) (fun h => ?_) <;>
      refine ev_pos (by omega) (ev_pos (by omega) (ev_pos (hx _).1 (ev_pos (hx _).2 ?_))) <;>
      exact ev_ite (fun h2 => ev_pos (by omega) (by rwa [if_pos h2] at R)) (fun h2 => by rwa [if_neg h2] at R)
  | succ d ih =>
    intro m hm h1 R
    have hp := path_length f (i : Int) m
    obtain ⟨e1, e2, e3⟩ := last m h1 (by omega)
    refine Ev.step (fun _ => semigroupref11_Cycles.l1.eq_2 ..) ?_
    rw [show cycEnd f (i : Int) (d + 1) m = if it f m (i : Int) > (i : Int) then cycEnd f (i : Int) d (m + 1) else m from rfl] at R
    refine ev_ite (fun h => ?_) (fun h => ?_)
    · rw [if_pos h] at R
      refine ev_pos (by omega) (ev_pos (by omega) (ev_pos (hx m).1 (ev_pos (hx m).2 ?_)))
      rw [← path_succ]
      exact ih (m + 1) (by omega) (by omega) R
    · rw [if_neg h] at R
      rw [wrap64_nat (show (0 : Int) ≤ (i : Int) by omega) (by omega), hp, e1, e3]
      refine ev_pos (by omega) (ev_pos (by omega) (ev_pos (hx _).1 (ev_pos (hx _).2 ?_)))
      exact ev_ite (fun h2 => ev_pos (by omega) (by rwa [if_pos h2] at R)) (fun h2 => by rwa [if_neg h2] at R)
theorem semigroupref11_Cycles_loop {f : List Int} (hf : isTr f.length f) (hl : f.length ≤ 32) (d : Nat) : ∀ i : Nat, i + d = f.length → Ev (fun k => semigroupref11_Cycles.l0 k f (cycL f i) (f.length : Int) (i : Int)) (cycL f f.length) := by
  induction d with
  | zero =>
    intro i hd
    obtain rfl : i = f.length := by omega
    exact Ev.step (fun _ => semigroupref11_Cycles.l0.eq_2 ..) (ev_neg (by omega) (ev_some rfl))
  | succ d ih =>
    intro i hd
    have hi : i < f.length := by omega
    have := cycL_length f i
    refine Ev.step (fun _ => semigroupref11_Cycles.l0.eq_2 ..) (ev_pos (by omega) (ev_pos (by omega) (ev_pos (by omega) ?_)))
    exact semigroupref11_Cycles_path hf hl hi (cycL f i) (by omega) f.length 1 (by omega) (by omega) (ih (i + 1) (by omega))
theorem semigroupref11_Cycles_ev (f : List Int) (hv : isT f = true) : Ev (fun k => semigroupref11_Cycles.f k f) (cycL f f.length) := by
  unfold semigroupref11_Cycles.f
  exact semigroupref11_Cycles_loop (isTr_of hv) (isT_iff.1 hv).2.1 f.length 0 (by omega)
theorem semigroupref03_SameRows_loop (a b : List (List Int)) (hl : a.length ≤ 9223372036854775806) (he : a.length = b.length) (hr : ∀ x ∈ a, x.length ≤ 9223372036854775806) (d : Nat) : ∀ i : Nat, i + d = a.length → Ev (fun k => semigroupref03_SameRows.l0 k a b (a.length : Int) (i : Int)) (decide (a.drop i = b.drop i)) := by
  induction d with
  | zero =>
    intro i hd
    refine Ev.step (fun _ => semigroupref03_SameRows.l0.eq_2 ..) (ev_neg (by omega) (ev_some ?_))
    rw [List.drop_eq_nil_of_le (by omega), List.drop_eq_nil_of_le (by omega)]; rfl
  | succ d ih =>
    intro i hd
    have ha : i < a.length := by omega
    have hb : i < b.length := by omega
    refine Ev.step (fun _ => semigroupref03_SameRows.l0.eq_2 ..) (ev_pos (by omega) (ev_pos (by omega) (ev_pos (by omega) (ev_pos (by omega) ?_))))
    rw [List.drop_eq_getElem_cons ha, List.drop_eq_getElem_cons hb, show rd_L1 a (i : Int) = a[i] from rdR_lt ha, show rd_L1 b (i : Int) = b[i] from rdR_lt hb]
    refine ev_bind _ (semigroupref03_Same_ev a[i] b[i] (hr _ (List.getElem_mem ha))) (ev_ite (fun h => ?_) (fun h => ev_some (decide_eq_false (fun e => h (decide_eq_true (List.cons.inj e).1))).symm))
    rw [wrap64_nat (by omega) (by omega)]
    have h' := of_decide_eq_true h
    refine ev_to (ih (i + 1) (by omega)) (decide_eq_decide.2 ⟨fun e => by rw [h', e], fun e => (List.cons.inj e).2⟩)
theorem semigroupref03_SameRows_ev (a b : List (List Int)) (hl : a.length ≤ 9223372036854775806) (hr : ∀ x ∈ a, x.length ≤ 9223372036854775806) : Ev (fun k => semigroupref03_SameRows.f k a b) (decide (a = b)) := by
  unfold semigroupref03_SameRows.f
  refine ev_ite (fun h => ?_) (fun h => ev_some ?_)
  · have := semigroupref03_SameRows_loop a b hl (by omega) hr a.length 0 (by omega)
    simpa using this
  · rw [decide_eq_false]
    rintro rfl
    exact h rfl
/-! semigroupref11_Valid: is it a transformation -/

theorem semigroupref11_Valid_loop (l : List Int) (hl : l.length ≤ 32) (d : Nat) : ∀ i : Nat, i + d = l.length → Ev (fun k => semigroupref11_Valid.l0 k l l (l.length : Int) (i : Int)) ((l.drop i).all (fun x => decide (0 ≤ x) && decide (x < l.length))) := by
  induction d with
  | zero =>
    intro i hd
    refine Ev.step (fun _ => semigroupref11_Valid.l0.eq_2 ..) (ev_neg (by omega) (ev_some ?_))
    rw [List.drop_eq_nil_of_le (by omega)]; rfl
  | succ d ih =>
    intro i hd
    refine Ev.step (fun _ => semigroupref11_Valid.l0.eq_2 ..) (ev_pos (by omega) (ev_pos (by omega) (ev_pos (by omega) ?_)))
    rw [List.drop_eq_getElem_cons (show i < l.length by omega), List.all_cons, rd_lt (show i < l.length by omega)]
    refine ev_ite (fun h => ev_some ?_) (fun h => ev_ite (fun h2 => ev_some ?_) (fun h2 => ?_))
    · rw [decide_eq_false (show ¬ (0 ≤ l[i]) by omega)]; rfl
    · rw [decide_eq_false (show ¬ (l[i] < l.length) by omega), Bool.and_false]; rfl
    · rw [decide_eq_true (show 0 ≤ l[i] by omega), decide_eq_true (show l[i] < l.length by omega), wrap64_nat (by omega) (by omega)]
      exact ih (i + 1) (by omega)
theorem semigroupref11_Valid_ev (l : List Int) : Ev (fun k => semigroupref11_Valid.f k l) (isT l) := by
  unfold semigroupref11_Valid.f isT
  refine ev_ite (fun h => ?_) (fun h => ?_)
  · refine Ev.step (fun _ => semigroupref11_Valid.j0.eq_2 ..) (ev_pos rfl (ev_some ?_))
    rw [decide_eq_false (show ¬ (1 ≤ l.length) by omega)]; rfl
  · refine Ev.step (fun _ => semigroupref11_Valid.j0.eq_2 ..) (ev_ite (fun h2 => ev_some ?_) (fun h2 => ?_))
    · rw [decide_eq_false (show ¬ (l.length ≤ 32) by simp at h2; omega)]; simp
    · have h3 : l.length ≤ 32 := by simp at h2; omega
      rw [decide_eq_true h3, decide_eq_true (show 1 ≤ l.length by omega)]
      exact semigroupref11_Valid_loop l h3 l.length 0 (by omega)
theorem awake_ev : Ev (fun k => semigrouplaw11_awake.f k) true := Ev.of (fun k => semigrouplaw11_awake.mono k) (k := 8) (by decide +kernel)
theorem TransCycles : semigrouplaw11_TransCycles.Pure := by
  intro f hf0
  apply Ev.rounds
  unfold semigrouplaw11_TransCycles.f
  by_cases hv : isT f = true
  · obtain ⟨h1, h2, h3⟩ := isT_iff.1 hv
    obtain ⟨I, P, hi, he⟩ := trans_IndexPeriod_ev f hv
    have hcy := trans_Cycles_ev f
    rw [if_pos hv] at hcy
    have hcl := cycL_length f f.length
    have hcr := cycL_rows f f.length
    have hsr : Ev (fun k => semigroupref03_SameRows.f k (cycL f f.length) (cycL f f.length)) (decide (cycL f f.length = cycL f f.length)) := semigroupref03_SameRows_ev _ _ (by omega) (fun x hx => by have := hcr x hx; omega)
    refine ev_bind _ he (ev_bind _ (trans_Omega_ev f hv hi he) (ev_bind _ hcy (ev_bind _ (semigroupref11_Valid_ev f) (ev_pos hv (ev_ite (fun h => ?_) (fun h => ?_))))))
    · exact ev_bind _ (semigroupref11_Cycles_ev f hv) (ev_bind _ hsr (ev_pos (by simp) (ev_bind _ awake_ev (ev_some rfl))))
    · have hP : P ≤ 5000000 := Nat.le_trans (Nat.le_of_dvd (by decide) (hi.all 720720 (fun c c1 c2 => div16 c1 (by omega)))) (by decide)
      have hx := hi.idx
      refine ev_bind _ (semigroupref11_IndexPeriod_ev (isTr_of hv) hx h2 hP) (ev_pos rfl (ev_pos rfl (ev_bind _ (semigroupref11_Omega_ev (isTr_of hv) hx h2 hP) (ev_bind _ (semigroupref03_Same_ev _ _ (by rw [pw_length]; omega)) (ev_pos (by simp) ?_)))))
      exact ev_bind _ (semigroupref11_Cycles_ev f hv) (ev_bind _ hsr (ev_pos (by simp) (ev_bind _ awake_ev (ev_some rfl))))
  · have hcy := trans_Cycles_ev f
    rw [if_neg hv] at hcy
    exact ev_bind _ (trans_IndexPeriod_no f hv) (ev_bind _ (trans_Omega_no f hv) (ev_bind _ hcy (ev_bind _ (semigroupref11_Valid_ev f) (ev_neg hv (ev_pos rfl (ev_pos rfl (ev_pos rfl (ev_pos rfl (ev_bind _ awake_ev (ev_some rfl))))))))))

end Go.Proofs.Ytimepajbnongoaa.Pure
