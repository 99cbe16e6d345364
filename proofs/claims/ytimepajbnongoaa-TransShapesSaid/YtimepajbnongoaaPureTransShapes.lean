/- The image, the rank and the kernel of any transformation, as the reference has them. -/
import Derived.Test.YtimepajbnongoaaPTransShapesx
import Derived.Test.YtimepajbnongoaaBase
namespace Go.Proofs.Ytimepajbnongoaa.Pure
open Go.RowKit Go.Proofs.Ytimepajbnongoaa.PTransShapes Go.Proofs.YtimepajbnongoaaW.PrintWords Go.Proofs.YtimepajbnongoaaW.PrintLast Go.Proofs.YtimepajbnongoaaW.PrintMore Go.Proofs.Ytimepajbnongoaa.Base

/-! trans_Valid: is it a transformation -/

theorem trans_Valid_loop (l : List Int) (hl : l.length ≤ 32) (d : Nat) : ∀ i : Nat, i + d = l.length → Ev (fun k => trans_Valid.l0 k l l (l.length : Int) (i : Int)) ((l.drop i).all (fun x => decide (0 ≤ x) && decide (x < l.length))) := by
  induction d with
  | zero =>
    intro i hd
    refine Ev.step (fun _ => trans_Valid.l0.eq_2 ..) (ev_neg (by omega) (ev_some ?_))
    rw [List.drop_eq_nil_of_le (by omega)]; rfl
  | succ d ih =>
    intro i hd
    refine Ev.step (fun _ => trans_Valid.l0.eq_2 ..) (ev_pos (by omega) (ev_pos (by omega) (ev_pos (by omega) ?_)))
    rw [List.drop_eq_getElem_cons (show i < l.length by omega), List.all_cons, rd_lt (show i < l.length by omega)]
    refine ev_ite (fun h => ev_some ?_) (fun h => ev_ite (fun h2 => ev_some ?_) (fun h2 => ?_))
    · rw [decide_eq_false (show ¬ (0 ≤ l[i]) by omega)]; rfl
    · rw [decide_eq_false (show ¬ (l[i] < l.length) by omega), Bool.and_false]; rfl
    · rw [decide_eq_true (show 0 ≤ l[i] by omega), decide_eq_true (show l[i] < l.length by omega), wrap64_nat (by omega) (by omega)]
      exact ih (i + 1) (by omega)
theorem trans_Valid_ev (l : List Int) : Ev (fun k => trans_Valid.f k l) (isT l) := by
  unfold trans_Valid.f isT
  refine ev_ite (fun h => ?_) (fun h => ?_)
  · refine Ev.step (fun _ => trans_Valid.j0.eq_2 ..) (ev_pos rfl (ev_some ?_))
    rw [decide_eq_false (show ¬ (1 ≤ l.length) by omega)]; rfl
  · refine Ev.step (fun _ => trans_Valid.j0.eq_2 ..) (ev_ite (fun h2 => ev_some ?_) (fun h2 => ?_))
    · rw [decide_eq_false (show ¬ (l.length ≤ 32) by simp at h2; omega)]; simp
    · have h3 : l.length ≤ 32 := by simp at h2; omega
      rw [decide_eq_true h3, decide_eq_true (show 1 ≤ l.length by omega)]
      exact trans_Valid_loop l h3 l.length 0 (by omega)
/-! trans_Image.l1: the places that hold true -/
theorem trans_Image_members (s : List Bool) (hl : s.length ≤ 17592186044416) (d : Nat) : ∀ i : Nat, i + d = s.length → Ev (fun k => trans_Image.l1 k ((iota i).filter (fun x => rdOf false s x)) s (s.length : Int) (i : Int)) (membersOf s) := by
  induction d with
  | zero =>
    intro i hd
    refine Ev.step (fun _ => trans_Image.l1.eq_2 ..) (ev_neg (by omega) (ev_some ?_))
    rw [show i = s.length by omega]; rfl
  | succ d ih =>
    intro i hd
    have h := ih (i + 1) (by omega)
    rw [iota_succ, List.filter_append] at h
    refine Ev.step (fun _ => trans_Image.l1.eq_2 ..) (ev_pos (by omega) (ev_pos (by omega) (ev_pos (by omega) ?_)))
    rw [wrap64_nat (by omega) (by omega)]
    refine ev_ite (fun hb => ev_pos ?_ ?_) (fun hb => ?_)
    · have := List.length_filter_le (fun x => rdOf false s x) (iota i)
      rw [iota_length] at this
      omega
    · rw [List.filter_cons_of_pos hb] at h
      exact h
    · rw [List.filter_cons_of_neg hb, List.filter_nil, List.append_nil] at h
      exact h
theorem trans_Image_loop (f : List Int) (hl : f.length ≤ 32) (h : ∀ x ∈ f, 0 ≤ x ∧ x < f.length) (d : Nat) : ∀ i : Nat, i + d = f.length → Ev (fun k => trans_Image.l0 k (marks f.length (f.take i)) f (f.length : Int) (i : Int)) (imageOf f) := by
  induction d with
  | zero =>
    intro i hd
    refine Ev.step (fun _ => trans_Image.l0.eq_2 ..) (ev_neg (by omega) ?_)
    rw [List.take_of_length_le (by omega)]
    have := trans_Image_members (marks f.length f) (by rw [marks_length]; omega) f.length 0 (by rw [marks_length]; omega)
    exact this
  | succ d ih =>
    intro i hd
    have hi : i < f.length := by omega
    have hx := h f[i] (List.getElem_mem hi)
    refine Ev.step (fun _ => trans_Image.l0.eq_2 ..) (ev_pos (by omega) (ev_pos (by omega) (ev_pos (by omega) ?_)))
    rw [rd_lt hi]
    refine ev_pos hx.1 (ev_pos (by rw [marks_length]; omega) ?_)
    rw [wrap64_nat (by omega) (by omega), marks_set hx.1]
    have := ih (i + 1) (by omega)
    rwa [List.take_succ_eq_append_getElem hi] at this
/-- trans_Image -/
def imgT (f : List Int) : List Int := if isT f = true then imageOf f else []
theorem trans_Image_ev (f : List Int) : Ev (fun k => trans_Image.f k f) (imgT f) := by
  unfold trans_Image.f imgT
  refine ev_bind _ (trans_Valid_ev f) (ev_ite (fun hv => ?_) (fun hv => ev_some (by rw [if_neg hv])))
  obtain ⟨_, hl, hm⟩ := isT_iff.1 hv
  refine ev_pos (by omega) (ev_pos (by omega) ?_)
  rw [if_pos hv]
  have := trans_Image_loop f hl hm f.length 0 (by omega)
  rwa [List.take_zero, marks_nil] at this
theorem trans_Rank_ev (f : List Int) : Ev (fun k => trans_Rank.f k f) ((imgT f).length : Int) := by
  unfold trans_Rank.f
  exact ev_bind _ (trans_Image_ev f) (ev_some rfl)
/-! Classes numbered by their first points. -/
/-- The numbers of a list, each once, in the order of their coming, behind those of acc. -/
def ordA : List Int → List Int → List Int
  | acc, [] => acc
  | acc, x :: r => if x ∈ acc then ordA acc r else ordA (acc ++ [x]) r
/-- The map from the numbers to their places. -/
def numE (acc : List Int) : List (Int × Int) := (List.range acc.length).map (fun (i : Nat) => (acc.getD i 0, (i : Int)))
theorem numE_length (acc : List Int) : (numE acc).length = acc.length := by simp [numE]
theorem numE_snoc (acc : List Int) (x : Int) : numE (acc ++ [x]) = numE acc ++ [(x, (acc.length : Int))] := by
  unfold numE
  rw [List.length_append, List.length_singleton, List.range_succ, List.map_append]
  congr 1
  · apply List.map_congr_left
    intro i hi
    have hi := List.mem_range.1 hi
    simp [List.getD_eq_getElem?_getD, List.getElem?_append_left hi]
  · simp
theorem mget_snoc (m : List (Int × Int)) (x v y : Int) : mget (m ++ [(x, v)]) y = (mget m y).or (if y = x then some v else none) := by
  induction m with
  | nil => simp [mget]
  | cons p m ih =>
    simp only [List.cons_append, mget]
    split
    · rfl
    · exact ih
theorem mput_snoc {m : List (Int × Int)} {x v : Int} : mget m x = none → mput m x v = m ++ [(x, v)] := by
  induction m with
  | nil => intro _; rfl
  | cons p m ih =>
    intro h
    simp only [mget] at h
    split at h
    · cases h
    · rename_i hk
      simp only [mput, if_neg hk, ih h]; rfl
theorem mget_numE : ∀ (n : Nat) (acc : List Int), acc.length = n → ∀ y, mget (numE acc) y = if y ∈ acc then some (acc.idxOf y : Int) else none
  | 0, acc, h, y => by
    obtain rfl := List.length_eq_zero_iff.1 h
    simp [numE, mget]
  | n + 1, acc, h, y => by
    obtain ⟨pre, x, rfl⟩ : ∃ pre x, acc = pre ++ [x] := by
      rcases List.eq_nil_or_concat acc with rfl | ⟨pre, x, rfl⟩
      · simp at h
      · exact ⟨pre, x, by simp⟩
    have hp : pre.length = n := by simpa using h
    rw [numE_snoc, mget_snoc, mget_numE n pre hp y]
    by_cases h1 : y ∈ pre
    · simp [h1, List.idxOf_append]
    · by_cases h2 : y = x
      · subst h2
        simp [h1, List.idxOf_append]
      · simp [h1, h2]
theorem mhas_numE (acc : List Int) (y : Int) : mhas (numE acc) y = true ↔ y ∈ acc := by
  unfold mhas
  rw [mget_numE _ acc rfl]
  split <;> simp [*]
theorem mgetD_numE {acc : List Int} {y : Int} (h : y ∈ acc) : mgetD (numE acc) y 0 = (acc.idxOf y : Int) := by
  unfold mgetD
  rw [mget_numE _ acc rfl, if_pos h]; rfl
theorem mput_numE {acc : List Int} {x : Int} (h : x ∉ acc) : mput (numE acc) x (acc.length : Int) = numE (acc ++ [x]) := by
  rw [numE_snoc, mput_snoc]
  rw [mget_numE _ acc rfl, if_neg h]
theorem ordA_pre : ∀ (l acc : List Int), ∃ t, ordA acc l = acc ++ t
  | [], acc => ⟨[], by simp [ordA]⟩
  | x :: l, acc => by
    unfold ordA
    split
    · exact ordA_pre l acc
    · obtain ⟨t, h⟩ := ordA_pre l (acc ++ [x])
      exact ⟨[x] ++ t, by rw [h, List.append_assoc]⟩
theorem ordA_mem : ∀ (l acc : List Int) (y : Int), y ∈ ordA acc l ↔ y ∈ acc ∨ y ∈ l
  | [], acc, y => by simp [ordA]
  | x :: l, acc, y => by
    unfold ordA
    split
    · rename_i h
      rw [ordA_mem l acc y, List.mem_cons]
      constructor
      · rintro (h1 | h1)
        · exact .inl h1
        · exact .inr (.inr h1)
      · rintro (h1 | rfl | h1)
        · exact .inl h1
        · exact .inl h
        · exact .inr h1
    · rw [ordA_mem l (acc ++ [x]) y, List.mem_append, List.mem_singleton, List.mem_cons, or_assoc]
theorem ordA_nodup : ∀ (l acc : List Int), acc.Nodup → (ordA acc l).Nodup
  | [], acc, h => by simpa [ordA] using h
  | x :: l, acc, h => by
    unfold ordA
    split
    · exact ordA_nodup l acc h
    · rename_i hx
      refine ordA_nodup l _ ?_
      rw [List.nodup_append]
      exact ⟨h, by simp, fun a ha b hb => by
        obtain rfl := List.mem_singleton.1 hb
        exact fun e => hx (e ▸ ha)⟩
/-- The number of each point's class. -/
def canL (l : List Int) : List Int := l.map (fun x => ((ordA [] l).idxOf x : Int))
theorem canL_length (l : List Int) : (canL l).length = l.length := by simp [canL]
theorem ordA_idx {acc l : List Int} {y : Int} (h : y ∈ acc) : (ordA acc l).idxOf y = acc.idxOf y := by
  obtain ⟨t, e⟩ := ordA_pre l acc
  rw [e, List.idxOf_append, if_pos h]
theorem partition_Canonical_loop (l : List Int) (hl : l.length ≤ 4096) (d : Nat) : ∀ (i : Nat) (acc : List Int), i + d = l.length → ordA acc (l.drop i) = ordA [] l → acc.length ≤ i → Ev (fun k => partition_Canonical.l0 k (fillAt (canL l) 0 i) l (l.length : Int) (i : Int) (numE acc)) (canL l) := by
  have hc := canL_length l
  induction d with
  | zero =>
    intro i acc hd _ _
    refine Ev.step (fun _ => partition_Canonical.l0.eq_2 ..) (ev_neg (by omega) (ev_some ?_))
    rw [show i = (canL l).length by omega, fillAt_all]
  | succ d ih =>
    intro i acc hd ho ha
    have hi : i < l.length := by omega
    have hic : i < (canL l).length := by omega
    have e : (canL l)[i] = ((ordA [] l).idxOf l[i] : Int) := by simp [canL]
    rw [List.drop_eq_getElem_cons hi, ordA] at ho
    refine Ev.step (fun _ => partition_Canonical.l0.eq_2 ..) (ev_pos (by omega) (ev_pos (by omega) (ev_pos (by omega) ?_)))
    rw [rd_lt hi, wrap64_nat (by omega) (by omega), Int.toNat_natCast]
    refine ev_ite (fun h => ?_) (fun h => ?_)
    · have hm := (mhas_numE acc l[i]).1 h
      rw [if_pos hm] at ho
      refine ev_pos (by rw [fillAt_length _ _ (by omega)]; omega) ?_
      rw [mgetD_numE hm, ← ordA_idx (l := l.drop (i + 1)) hm, ho, ← e, fillAt_set _ _ hic]
      exact ih (i + 1) acc (by omega) ho (by omega)
    · have hm : l[i] ∉ acc := fun h2 => h ((mhas_numE acc l[i]).2 h2)
      rw [if_neg hm] at ho
      refine ev_pos (by rw [fillAt_length _ _ (by omega)]; omega) ?_
      have hx : l[i] ∈ acc ++ [l[i]] := by simp
      have hidx : (acc ++ [l[i]]).idxOf l[i] = acc.length := by rw [List.idxOf_append, if_neg hm]; simp
      rw [numE_length, mput_numE hm, ← hidx, ← ordA_idx (l := l.drop (i + 1)) hx, ho, ← e, fillAt_set _ _ hic]
      exact ih (i + 1) (acc ++ [l[i]]) (by omega) ho (by rw [List.length_append, List.length_singleton]; omega)
theorem partition_Canonical_ev (l : List Int) (hl : l.length ≤ 4096) : Ev (fun k => partition_Canonical.f k l) (canL l) := by
  unfold partition_Canonical.f
  refine ev_neg (by omega) (ev_pos (by omega) (ev_pos (by omega) ?_))
  have := partition_Canonical_loop l hl l.length 0 [] (by omega) rfl (by simp)
  rwa [fillAt_zero, canL_length] at this
/-! semigroupref03_Members.l0: the places that hold true -/
theorem semigroupref03_Members_members (s : List Bool) (hl : s.length ≤ 17592186044416) (d : Nat) : ∀ i : Nat, i + d = s.length → Ev (fun k => semigroupref03_Members.l0 k ((iota i).filter (fun x => rdOf false s x)) s (s.length : Int) (i : Int)) (membersOf s) := by
  induction d with
  | zero =>
    intro i hd
    refine Ev.step (fun _ => semigroupref03_Members.l0.eq_2 ..) (ev_neg (by omega) (ev_some ?_))
    rw [show i = s.length by omega]; rfl
  | succ d ih =>
    intro i hd
    have h := ih (i + 1) (by omega)
    rw [iota_succ, List.filter_append] at h
    refine Ev.step (fun _ => semigroupref03_Members.l0.eq_2 ..) (ev_pos (by omega) (ev_pos (by omega) (ev_pos (by omega) ?_)))
    rw [wrap64_nat (by omega) (by omega)]
    refine ev_ite (fun hb => ev_pos ?_ ?_) (fun hb => ?_)
    · have := List.length_filter_le (fun x => rdOf false s x) (iota i)
      rw [iota_length] at this
      omega
    · rw [List.filter_cons_of_pos hb] at h
      exact h
    · rw [List.filter_cons_of_neg hb, List.filter_nil, List.append_nil] at h
      exact h
theorem semigroupref03_Set_loop (l : List Int) (n : Nat) (hl : l.length ≤ 9223372036854775806) (d : Nat) : ∀ i : Nat, i + d = l.length → Ev (fun k => semigroupref03_Set.l0 k (n : Int) (marks n (l.take i)) l (l.length : Int) (i : Int)) (marks n l) := by
  induction d with
  | zero =>
    intro i hd
    refine Ev.step (fun _ => semigroupref03_Set.l0.eq_2 ..) (ev_neg (by omega) (ev_some ?_))
    rw [List.take_of_length_le (by omega)]
  | succ d ih =>
    intro i hd
    have hi : i < l.length := by omega
    have h2 := ih (i + 1) (by omega)
    rw [List.take_succ_eq_append_getElem hi] at h2
    refine Ev.step (fun _ => semigroupref03_Set.l0.eq_2 ..) (ev_pos (by omega) (ev_pos (by omega) (ev_pos (by omega) ?_)))
    rw [wrap64_nat (by omega) (by omega), rd_lt hi]
    refine ev_ite (fun h0 => ev_ite (fun h1 => ?_) (fun h1 => ?_)) (fun h0 => ?_)
    · refine ev_pos h0 (ev_pos (by rw [marks_length]; exact h1) ?_)
      rw [marks_set h0]; exact h2
    · rwa [marks_out (by omega)] at h2
    · rwa [marks_out (by omega)] at h2
theorem semigroupref03_Set_ev (l : List Int) (n : Nat) (hl : l.length ≤ 9223372036854775806) (hn : n ≤ 1000000000) : Ev (fun k => semigroupref03_Set.f k l (n : Int)) (marks n l) := by
  unfold semigroupref03_Set.f
  refine ev_pos (by omega) (ev_pos (by omega) ?_)
  have := semigroupref03_Set_loop l n hl l.length 0 (by omega)
  rw [List.take_zero, marks_nil] at this
  exact this
theorem semigroupref03_Members_ev (s : List Bool) (hl : s.length ≤ 17592186044416) : Ev (fun k => semigroupref03_Members.f k s) (membersOf s) := semigroupref03_Members_members s hl s.length 0 (by omega)
theorem semigroupref11_Image_ev (f : List Int) (hl : f.length ≤ 1000000000) : Ev (fun k => semigroupref11_Image.f k f) (imageOf f) := by
  unfold semigroupref11_Image.f
  exact ev_bind _ (semigroupref03_Set_ev f f.length (by omega) hl) (ev_bind _ (semigroupref03_Members_ev _ (by rw [marks_length]; omega)) (ev_some rfl))
theorem semigroupref03_Canonical_loop (l : List Int) (hl : l.length ≤ 4096) (d : Nat) : ∀ (i : Nat) (acc : List Int), i + d = l.length → ordA acc (l.drop i) = ordA [] l → acc.length ≤ i → Ev (fun k => semigroupref03_Canonical.l0 k (fillAt (canL l) 0 i) (acc.length : Int) l (l.length : Int) (i : Int) (numE acc)) (canL l) := by
  have hc := canL_length l
  induction d with
  | zero =>
    intro i acc hd _ _
    refine Ev.step (fun _ => semigroupref03_Canonical.l0.eq_2 ..) (ev_neg (by omega) (ev_some ?_))
    rw [show i = (canL l).length by omega, fillAt_all]
  | succ d ih =>
    intro i acc hd ho ha
    have hi : i < l.length := by omega
    have hic : i < (canL l).length := by omega
    have e : (canL l)[i] = ((ordA [] l).idxOf l[i] : Int) := by simp [canL]
    rw [List.drop_eq_getElem_cons hi, ordA] at ho
    refine Ev.step (fun _ => semigroupref03_Canonical.l0.eq_2 ..) (ev_pos (by omega) (ev_pos (by omega) (ev_pos (by omega) ?_)))
    rw [rd_lt hi, wrap64_nat (n := (i : Int)) (by omega) (by omega), wrap64_nat (n := (acc.length : Int)) (by omega) (by omega), Int.toNat_natCast]
    refine ev_ite (fun h => ?_) (fun h => ?_)
    · have hm := (mhas_numE acc l[i]).1 h
      rw [if_pos hm] at ho
      refine ev_pos (by rw [fillAt_length _ _ (by omega)]; omega) ?_
      rw [mgetD_numE hm, ← ordA_idx (l := l.drop (i + 1)) hm, ho, ← e, fillAt_set _ _ hic]
      exact ih (i + 1) acc (by omega) ho (by omega)
    · have hm : l[i] ∉ acc := fun h2 => h ((mhas_numE acc l[i]).2 h2)
      rw [if_neg hm] at ho
      refine ev_pos (by rw [fillAt_length _ _ (by omega)]; omega) ?_
      have hx : l[i] ∈ acc ++ [l[i]] := by simp
      have hidx : (acc ++ [l[i]]).idxOf l[i] = acc.length := by rw [List.idxOf_append, if_neg hm]; simp
      have hs : (fillAt (canL l) 0 i).set i (acc.length : Int) = fillAt (canL l) 0 (i + 1) := by
        rw [← hidx, ← ordA_idx (l := l.drop (i + 1)) hx, ho, ← e, fillAt_set _ _ hic]
      rw [mput_numE hm, hs]
      have := ih (i + 1) (acc ++ [l[i]]) (by omega) ho (by rw [List.length_append, List.length_singleton]; omega)
      rwa [List.length_append, List.length_singleton] at this
theorem semigroupref03_Canonical_ev (l : List Int) (hl : l.length ≤ 4096) : Ev (fun k => semigroupref03_Canonical.f k l) (canL l) := by
  unfold semigroupref03_Canonical.f
  refine ev_neg (by omega) (ev_pos (by omega) (ev_pos (by omega) ?_))
  have := semigroupref03_Canonical_loop l hl l.length 0 [] (by omega) rfl (by simp)
  rwa [fillAt_zero, canL_length] at this
theorem semigroupref03_Count_loop (l : List Int) (hl : l.length ≤ 4096) (n : Int) (hn : n ≤ 4096) (h0 : ∀ x ∈ l, 0 ≤ x ∧ x + 1 ≤ n) (d : Nat) : ∀ (i : Nat) (a : Int), i + d = l.length → 0 ≤ a → a ≤ n → (a = n ∨ n - 1 ∈ l.drop i) → Ev (fun k => semigroupref03_Count.l0 k a l (l.length : Int) (i : Int)) n := by
  induction d with
  | zero =>
    intro i a hd _ _ h
    refine Ev.step (fun _ => semigroupref03_Count.l0.eq_2 ..) (ev_neg (by omega) (ev_some ?_))
    rcases h with h | h
    · exact h
    · rw [List.drop_eq_nil_of_le (by omega)] at h; cases h
  | succ d ih =>
    intro i a hd ha1 ha2 h
    have hi : i < l.length := by omega
    have hx := h0 l[i] (List.getElem_mem hi)
    refine Ev.step (fun _ => semigroupref03_Count.l0.eq_2 ..) (ev_pos (by omega) (ev_pos (by omega) (ev_pos (by omega) ?_)))
    rw [rd_lt hi, wrap64_nat (n := l[i]) (by omega) (by omega), wrap64_nat (by omega) (by omega)]
    have hm : mx a (l[i] + 1) = a ∧ l[i] + 1 ≤ a ∨ mx a (l[i] + 1) = l[i] + 1 ∧ a ≤ l[i] + 1 := by unfold mx; split <;> omega
    refine ih (i + 1) _ (by omega) (by omega) (by omega) ?_
    rcases h with h | h
    · exact .inl (by omega)
    · rw [List.drop_eq_getElem_cons hi] at h
      rcases List.mem_cons.1 h with h | h
      · exact .inl (by omega)
      · exact .inr h
theorem semigroupref03_Count_ev (l : List Int) (hl : l.length ≤ 4096) (n : Int) (h1 : 0 ≤ n) (hn : n ≤ 4096) (h0 : ∀ x ∈ l, 0 ≤ x ∧ x + 1 ≤ n) (h : n = 0 ∨ n - 1 ∈ l) : Ev (fun k => semigroupref03_Count.f k l) n := by
  unfold semigroupref03_Count.f
  exact semigroupref03_Count_loop l hl n hn h0 l.length 0 0 (by omega) (Int.le_refl _) h1 (by simpa [eq_comm] using h)
/-! semigroupref03_Same: equal lists of numbers -/
theorem semigroupref03_Same_loop (a b : List Int) (hl : a.length ≤ 9223372036854775806) (he : a.length = b.length) (d : Nat) : ∀ i : Nat, i + d = a.length → Ev (fun k => semigroupref03_Same.l0 k a b (a.length : Int) (i : Int)) (decide (a.drop i = b.drop i)) := by
  induction d with
  | zero =>
    intro i hd
    refine Ev.step (fun _ => semigroupref03_Same.l0.eq_2 ..) (ev_neg (by omega) (ev_some ?_))
    rw [List.drop_eq_nil_of_le (by omega), List.drop_eq_nil_of_le (by omega)]; rfl
  | succ d ih =>
    intro i hd
    refine Ev.step (fun _ => semigroupref03_Same.l0.eq_2 ..) (ev_pos (by omega) (ev_pos (by omega) (ev_pos (by omega) (ev_pos (by omega) ?_))))
    rw [List.drop_eq_getElem_cons (show i < a.length by omega), List.drop_eq_getElem_cons (show i < b.length by omega), rd_lt (show i < a.length by omega), rd_lt (show i < b.length by omega)]
    refine ev_ite (fun h => ?_) (fun h => ev_some (decide_eq_false (fun e => h (List.cons.inj e).1)).symm)
    rw [wrap64_nat (by omega) (by omega)]
    refine ev_to (ih (i + 1) (by omega)) (decide_eq_decide.2 ⟨fun e => by rw [h, e], fun e => (List.cons.inj e).2⟩)
theorem semigroupref03_Same_ev (a b : List Int) (hl : a.length ≤ 9223372036854775806) : Ev (fun k => semigroupref03_Same.f k a b) (decide (a = b)) := by
  unfold semigroupref03_Same.f
  refine ev_ite (fun h => ?_) (fun h => ev_some ?_)
  · have := semigroupref03_Same_loop a b hl (by omega) a.length 0 (by omega)
    simpa using this
  · rw [decide_eq_false]
    rintro rfl
    exact h rfl
/-! semigroupref11_Valid: is it a transformation -/

theorem semigroupref11_Valid_loop (l : List Int) (hl : l.length ≤ 32) (d : Nat) : ∀ i : Nat, i + d = l.length → Ev (fun k => semigroupref11_Valid.l0 k l l (l.length : Int) (i : Int)) ((l.drop i).all (fun x => decide (0 ≤ x) && decide (x < l.length))) := by
  induction d with
  | zero =>
    intro i hd
    refine Ev.step (fun _ => semigroupref11_Valid.l0.eq_2 ..) (ev_neg (by omega) (ev_some ?_))
    rw [List.drop_eq_nil_of_le (by omega)]; rfl
  | succ d ih =>
    intro i hd
    refine Ev.step (fun _ => semigroupref11_Valid.l0.eq_2 ..) (ev_pos (by omega) (ev_pos (by omega) (ev_pos (by omega) ?_)))
    rw [List.drop_eq_getElem_cons (show i < l.length by omega), List.all_cons, rd_lt (show i < l.length by omega)]
    refine ev_ite (fun h => ev_some ?_) (fun h => ev_ite (fun h2 => ev_some ?_) (fun h2 => ?_))
    · rw [decide_eq_false (show ¬ (0 ≤ l[i]) by omega)]; rfl
    · rw [decide_eq_false (show ¬ (l[i] < l.length) by omega), Bool.and_false]; rfl
    · rw [decide_eq_true (show 0 ≤ l[i] by omega), decide_eq_true (show l[i] < l.length by omega), wrap64_nat (by omega) (by omega)]
      exact ih (i + 1) (by omega)
theorem semigroupref11_Valid_ev (l : List Int) : Ev (fun k => semigroupref11_Valid.f k l) (isT l) := by
  unfold semigroupref11_Valid.f isT
  refine ev_ite (fun h => ?_) (fun h => ?_)
  · refine Ev.step (fun _ => semigroupref11_Valid.j0.eq_2 ..) (ev_pos rfl (ev_some ?_))
    rw [decide_eq_false (show ¬ (1 ≤ l.length) by omega)]; rfl
  · refine Ev.step (fun _ => semigroupref11_Valid.j0.eq_2 ..) (ev_ite (fun h2 => ev_some ?_) (fun h2 => ?_))
    · rw [decide_eq_false (show ¬ (l.length ≤ 32) by simp at h2; omega)]; simp
    · have h3 : l.length ≤ 32 := by simp at h2; omega
      rw [decide_eq_true h3, decide_eq_true (show 1 ≤ l.length by omega)]
      exact semigroupref11_Valid_loop l h3 l.length 0 (by omega)
theorem awake_ev : Ev (fun k => semigrouplaw11_awake.f k) true := Ev.of (fun k => semigrouplaw11_awake.mono k) (k := 8) (by decide +kernel)
theorem TransShapes : semigrouplaw11_TransShapes.Pure := by
  intro f hf0
  apply Ev.rounds
  unfold semigrouplaw11_TransShapes.f
  by_cases hv : isT f = true
  · obtain ⟨h1, h2, h3⟩ := isT_iff.1 hv
    have hil := imageOf_length_le f
    have hk : Ev (fun k => trans_Kernel.f k f) (canL f) := by
      unfold trans_Kernel.f
      exact ev_bind _ (trans_Valid_ev f) (ev_pos hv (ev_bind _ (partition_Canonical_ev f (by omega)) (ev_some rfl)))
    have hi := trans_Image_ev f
    have hr := trans_Rank_ev f
    rw [imgT, if_pos hv] at hi hr
    have hn := ordA_nodup f [] List.nodup_nil
    have hmem := ordA_mem f []
    have e1 : (ordA [] f).length ≤ (imageOf f).length := nodup_le hn (fun y hy => by
      rcases (hmem y).1 hy with h | h
      · cases h
      · exact mem_imageOf.2 ⟨(h3 y h).1, (h3 y h).2, h⟩)
    have e2 : (imageOf f).length ≤ (ordA [] f).length := nodup_le (imageOf_nodup f) (fun y hy => (hmem y).2 (.inr (mem_imageOf.1 hy).2.2))
    have hc : Ev (fun k => semigroupref03_Count.f k (canL f)) ((imageOf f).length : Int) := by
      refine semigroupref03_Count_ev _ (by rw [canL_length]; omega) _ (by omega) (by omega) (fun x hx => ?_) (.inr ?_)
      · obtain ⟨y, hy, rfl⟩ := List.mem_map.1 hx
        have := List.idxOf_lt_length_iff.2 ((hmem y).2 (.inr hy))
        omega
      · have hp := rank_pos hv
        have hq : (ordA [] f).length - 1 < (ordA [] f).length := by omega
        have hy := (hmem _).1 (List.getElem_mem hq)
        rcases hy with hy | hy
        · cases hy
        · refine List.mem_map.2 ⟨_, hy, ?_⟩
          rw [hn.idxOf_getElem]
          omega
    refine ev_bind _ hi (ev_bind _ hk (ev_bind _ hr (ev_bind _ (semigroupref11_Valid_ev f) (ev_pos hv ?_))))
    refine ev_bind _ (semigroupref11_Image_ev f (by omega)) (ev_bind _ (semigroupref03_Same_ev _ _ (by omega)) (ev_pos (by simp) ?_))
    exact ev_bind _ (semigroupref03_Canonical_ev f (by omega)) (ev_bind _ (semigroupref03_Same_ev _ _ (by rw [canL_length]; omega)) (ev_pos (by simp) (ev_pos rfl (ev_bind _ hc (ev_pos rfl (ev_bind _ awake_ev (ev_some rfl)))))))
  · have hk : Ev (fun k => trans_Kernel.f k f) [] := by
      unfold trans_Kernel.f
      exact ev_bind _ (trans_Valid_ev f) (ev_neg hv (ev_some rfl))
    have hi := trans_Image_ev f
    have hr := trans_Rank_ev f
    rw [imgT, if_neg hv] at hi hr
    exact ev_bind _ hi (ev_bind _ hk (ev_bind _ hr (ev_bind _ (semigroupref11_Valid_ev f) (ev_neg hv (ev_pos rfl (ev_pos rfl (ev_pos rfl (ev_bind _ awake_ev (ev_some rfl)))))))))

end Go.Proofs.Ytimepajbnongoaa.Pure
