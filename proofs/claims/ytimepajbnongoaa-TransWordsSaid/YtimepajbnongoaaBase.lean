/- Plain lemmas on printed texts (from some number of rounds on), lists and numbers: no program in them. -/
import Derived.Test.YtimepajbnongoaaWMore
namespace Go.Proofs.Ytimepajbnongoaa.Base
open Go.RowKit Go.Proofs.YtimepajbnongoaaW.PrintWords Go.Proofs.YtimepajbnongoaaW.PrintLast
/-- ONE ROUND, A TEST, A CALL: how 'from some number of rounds on' goes through a printed text. -/
theorem ev_pos {α : Type} {c : Prop} [Decidable c] {f g : Nat → Option α} {r : α} (h : c) (k : Ev f r) : Ev (fun n => if c then f n else g n) r := by
  simpa only [if_pos h] using k
theorem ev_neg {α : Type} {c : Prop} [Decidable c] {f g : Nat → Option α} {r : α} (h : ¬ c) (k : Ev g r) : Ev (fun n => if c then f n else g n) r := by
  simpa only [if_neg h] using k
theorem ev_ite {α : Type} {c : Prop} [Decidable c] {f g : Nat → Option α} {r : α} (h : c → Ev f r) (k : ¬ c → Ev g r) : Ev (fun n => if c then f n else g n) r := by
  by_cases hc : c
  · exact ev_pos hc (h hc)
  · exact ev_neg hc (k hc)
theorem ev_some {α : Type} {a r : α} (h : a = r) : Ev (fun _ => some a) r := h ▸ Ev.now a
theorem ev_bind {α β : Type} {g : Nat → Option α} {f : Nat → α → Option β} {r : β} (a : α) (h : Ev g a) (k : Ev (fun n => f n a) r) : Ev (fun n => (g n).bind (f n)) r := Ev.bind h k
theorem ev_bind1 {α β : Type} {a : α} {f : Nat → α → Option β} {r : β} (k : Ev (fun n => f n a) r) : Ev (fun n => (some a : Option α).bind (f n)) r := k
theorem ev_to {α : Type} {g : Nat → Option α} {a b : α} (h : Ev g a) (e : a = b) : Ev g b := e ▸ h
theorem ev_same {α : Type} {g : Nat → Option α} {a b : α} (h : Ev g a) (k : Ev g b) : a = b := by
  obtain ⟨K, h⟩ := h
  obtain ⟨K', k⟩ := k
  exact Option.some.inj ((h (max K K') (Nat.le_max_left _ _)).symm.trans (k (max K K') (Nat.le_max_right _ _)))
theorem wrap64_nat {n : Int} (h0 : 0 ≤ n) (h1 : n ≤ 9223372036854775806) : wrap64 (n + 1) = n + 1 := by unfold wrap64; omega
theorem wrap64_eq {n : Int} (h0 : -9223372036854775808 ≤ n) (h1 : n ≤ 9223372036854775807) : wrap64 n = n := by unfold wrap64; omega
theorem rd_nat (xs : List Int) (i : Nat) : rd xs (i : Int) = xs.getD i 0 := by simp [rd]
theorem rd_lt {xs : List Int} {i : Nat} (h : i < xs.length) : rd xs (i : Int) = xs[i] := by simp [rd, h]
theorem rdOf_lt {α : Type} {z : α} {xs : List α} {i : Nat} (h : i < xs.length) : rdOf z xs (i : Int) = xs[i] := by simp [rdOf, h]
theorem wf64 {x : Int} (h : (Lit.int .i64 x).wf = true) : -9223372036854775808 ≤ x ∧ x ≤ 9223372036854775807 := by
  simp [Lit.wf, IntKind.min, IntKind.max, IntKind.signed, IntKind.bits] at h
  omega
/-- A list that is being filled from the front. -/
def fillAt {α : Type} (ys : List α) (z : α) (i : Nat) : List α := ys.take i ++ List.replicate (ys.length - i) z
theorem fillAt_zero {α : Type} (ys : List α) (z : α) : fillAt ys z 0 = List.replicate ys.length z := by simp [fillAt]
theorem fillAt_all {α : Type} (ys : List α) (z : α) : fillAt ys z ys.length = ys := by simp [fillAt]
theorem fillAt_length {α : Type} (ys : List α) (z : α) {i : Nat} (h : i ≤ ys.length) : (fillAt ys z i).length = ys.length := by simp [fillAt]; omega
theorem fillAt_set {α : Type} (ys : List α) (z : α) {i : Nat} (h : i < ys.length) : (fillAt ys z i).set i ys[i] = fillAt ys z (i + 1) := by
  apply List.ext_getElem
  · rw [List.length_set, fillAt_length _ _ (by omega), fillAt_length _ _ (by omega)]
  · intro j h1 h2
    rw [List.length_set, fillAt_length _ _ (by omega)] at h1
    simp only [fillAt, List.getElem_set, List.getElem_append, List.length_take, List.getElem_take, List.getElem_replicate]
    by_cases hj : i = j
    · subst hj
      rw [if_pos rfl, dif_pos (by omega)]
    · rw [if_neg hj]
      by_cases hlt : j < i
      · rw [dif_pos (by omega), dif_pos (by omega)]
      · rw [dif_neg (by omega), dif_neg (by omega)]
/-- 0, 1, .., n - 1. -/
def iota (n : Nat) : List Int := (List.range n).map (fun (i : Nat) => (i : Int))
theorem iota_length (n : Nat) : (iota n).length = n := by simp [iota]
theorem iota_get {n i : Nat} (h : i < (iota n).length) : (iota n)[i] = (i : Int) := by simp [iota]
theorem iota_succ (n : Nat) : iota (n + 1) = iota n ++ [(n : Int)] := by simp [iota, List.range_succ]
theorem mem_iota {n : Nat} {x : Int} : x ∈ iota n ↔ 0 ≤ x ∧ x < n := by
  simp only [iota, List.mem_map, List.mem_range]
  exact ⟨fun ⟨a, h, e⟩ => by omega, fun h => ⟨x.toNat, by omega, by omega⟩⟩
/-- Is it a transformation of at most 32 points? -/
def isT (l : List Int) : Bool := decide (1 ≤ l.length) && decide (l.length ≤ 32) && l.all (fun x => decide (0 ≤ x) && decide (x < l.length))
theorem isT_iff {l : List Int} : isT l = true ↔ 1 ≤ l.length ∧ l.length ≤ 32 ∧ ∀ x ∈ l, 0 ≤ x ∧ x < l.length := by
  simp [isT, and_assoc]
/-- f followed by g. -/
def cmp (f g : List Int) : List Int := f.map (fun x => rd g x)
theorem cmp_length (f g : List Int) : (cmp f g).length = f.length := by simp [cmp]
theorem rd_mem {f : List Int} {x : Int} (h0 : 0 ≤ x) (h1 : x < f.length) : rd f x ∈ f := by
  have : rd f x = f[x.toNat]'(by omega) := by simp [rd, show x.toNat < f.length by omega]
  rw [this]; exact List.getElem_mem _
theorem rd_cmp {f g : List Int} {x : Int} (h0 : 0 ≤ x) (h1 : x < f.length) : rd (cmp f g) x = rd g (rd f x) := by
  have h2 : x.toNat < f.length := by omega
  simp [rd, cmp, h2]
theorem cmp_mem {f g : List Int} {P : Int → Prop} (hf : ∀ x ∈ f, 0 ≤ x ∧ x < g.length) (hg : ∀ x ∈ g, P x) : ∀ x ∈ cmp f g, P x := by
  intro x hx
  obtain ⟨y, hy, rfl⟩ := List.mem_map.1 hx
  exact hg _ (rd_mem (hf y hy).1 (hf y hy).2)
theorem cmp_assoc {f g h : List Int} (hf : ∀ x ∈ f, 0 ≤ x ∧ x < g.length) : cmp (cmp f g) h = cmp f (cmp g h) := by
  simp only [cmp, List.map_map]
  apply List.map_congr_left
  intro x hx
  exact (rd_cmp (hf x hx).1 (hf x hx).2).symm
theorem rd_iota {n : Nat} {x : Int} (h0 : 0 ≤ x) (h1 : x < n) : rd (iota n) x = x := by
  have h2 : x.toNat < (iota n).length := by rw [iota_length]; omega
  have : rd (iota n) x = (iota n)[x.toNat] := by simp only [rd, List.getD_eq_getElem?_getD, List.getElem?_eq_getElem h2, Option.getD_some]
  rw [this, iota_get]; omega
theorem cmp_iota {f : List Int} {n : Nat} (hf : ∀ x ∈ f, 0 ≤ x ∧ x < n) : cmp f (iota n) = f := by
  simp only [cmp]
  conv => rhs; rw [← List.map_id f]
  exact List.map_congr_left (fun x hx => rd_iota (hf x hx).1 (hf x hx).2)
theorem iota_cmp (f : List Int) : cmp (iota f.length) f = f := by
  apply List.ext_getElem
  · rw [cmp_length, iota_length]
  · intro i h1 h2
    simp only [cmp, List.getElem_map, iota_get]
    exact rd_lt h2
theorem cmp_isT {f g : List Int} (hf : isT f = true) (hg : isT g = true) (h : f.length = g.length) : isT (cmp f g) = true := by
  obtain ⟨a, b, c⟩ := isT_iff.1 hf
  obtain ⟨a', b', c'⟩ := isT_iff.1 hg
  refine isT_iff.2 ⟨by rw [cmp_length]; exact a, by rw [cmp_length]; exact b, ?_⟩
  rw [cmp_length, h]
  exact cmp_mem (by rw [← h]; exact c) c'
/-- The places that hold true. -/
def membersOf (s : List Bool) : List Int := (iota s.length).filter (fun x => rdOf false s x)
/-- Which of n points the first i of a list name. -/
def marks (n : Nat) (l : List Int) : List Bool := (iota n).map (fun y => l.contains y)
theorem marks_length (n : Nat) (l : List Int) : (marks n l).length = n := by simp [marks, iota_length]
theorem marks_nil (n : Nat) : marks n [] = List.replicate n false := by
  apply List.ext_getElem
  · simp [marks, iota_length]
  · intro i _ _
    simp [marks]
theorem marks_set {n : Nat} {l : List Int} {x : Int} (h0 : 0 ≤ x) : (marks n l).set x.toNat true = marks n (l ++ [x]) := by
  apply List.ext_getElem
  · simp [marks]
  · intro i h2 h3
    rw [List.length_set, marks_length] at h2
    simp only [marks, List.getElem_set, List.getElem_map, iota_get, List.contains_append]
    by_cases he : x.toNat = i
    · subst he
      rw [if_pos rfl]
      have : (([x] : List Int).contains ((x.toNat : Nat) : Int)) = true := by simp; omega
      rw [this, Bool.or_true]
    · rw [if_neg he]
      have : (([x] : List Int).contains ((i : Nat) : Int)) = false := by simp; omega
      rw [this, Bool.or_false]
theorem marks_out {n : Nat} {l : List Int} {x : Int} (h : ¬ (0 ≤ x ∧ x < n)) : marks n (l ++ [x]) = marks n l := by
  apply List.map_congr_left
  intro y hy
  have hy := mem_iota.1 hy
  rw [List.contains_append]
  have : (([x] : List Int).contains y) = false := by simp; omega
  rw [this, Bool.or_false]
/-- The image of a list of n points, ascending. -/
def imageOf (f : List Int) : List Int := membersOf (marks f.length f)
theorem rdOf_marks {n : Nat} {l : List Int} {y : Int} (h0 : 0 ≤ y) (h1 : y < n) : rdOf false (marks n l) y = l.contains y := by
  have h2 : y.toNat < (marks n l).length := by rw [marks_length]; omega
  have : rdOf false (marks n l) y = (marks n l)[y.toNat] := by simp only [rdOf, List.getD_eq_getElem?_getD, List.getElem?_eq_getElem h2, Option.getD_some]
  rw [this]
  simp only [marks, List.getElem_map, iota_get, Int.toNat_of_nonneg h0]
theorem imageOf_eq (f : List Int) : imageOf f = (iota f.length).filter (fun y => f.contains y) := by
  unfold imageOf membersOf
  rw [marks_length]
  apply List.filter_congr
  intro y hy
  have hy := mem_iota.1 hy
  exact rdOf_marks hy.1 hy.2
theorem mem_imageOf {f : List Int} {y : Int} : y ∈ imageOf f ↔ 0 ≤ y ∧ y < f.length ∧ y ∈ f := by
  rw [imageOf_eq, List.mem_filter, mem_iota]
  simp [and_assoc]
theorem imageOf_length_le (f : List Int) : (imageOf f).length ≤ f.length := by
  rw [imageOf_eq]
  exact Nat.le_trans (List.length_filter_le _ _) (by rw [iota_length]; omega)
theorem nodup_le {l m : List Int} (h : l.Nodup) (hs : ∀ x ∈ l, x ∈ m) : l.length ≤ m.length := by
  induction l generalizing m with
  | nil => simp
  | cons x l ih =>
    obtain ⟨hx, hl⟩ := List.nodup_cons.1 h
    have hm := hs x List.mem_cons_self
    have := ih hl (m := m.erase x) (fun y hy => (List.mem_erase_of_ne (fun (e : y = x) => hx (e ▸ hy))).2 (hs y (List.mem_cons_of_mem _ hy)))
    rw [List.length_erase_of_mem hm] at this
    have := List.length_pos_of_mem hm
    simp only [List.length_cons]
    omega
theorem dup_of_not_nodup {m : List Int} (h : ¬ m.Nodup) : ∃ x, x ∈ m ∧ x ∈ m.erase x := by
  induction m with
  | nil => exact absurd List.nodup_nil h
  | cons x m ih =>
    by_cases hx : x ∈ m
    · exact ⟨x, List.mem_cons_self, by simpa using hx⟩
    · obtain ⟨y, h1, h2⟩ := ih (fun hn => h (List.nodup_cons.2 ⟨hx, hn⟩))
      refine ⟨y, List.mem_cons_of_mem _ h1, ?_⟩
      rw [List.erase_cons_tail (by simpa using fun e : x = y => hx (e ▸ h1))]
      exact List.mem_cons_of_mem _ h2
theorem nodup_of_full {l m : List Int} (h : l.Nodup) (hs : ∀ x ∈ l, x ∈ m) (hlen : m.length ≤ l.length) : m.Nodup := by
  refine Decidable.byContradiction fun hn => ?_
  obtain ⟨x, h1, h2⟩ := dup_of_not_nodup hn
  have := nodup_le h (m := m.erase x) (fun y hy => by
    by_cases e : y = x
    · exact e ▸ h2
    · exact (List.mem_erase_of_ne e).2 (hs y hy))
  rw [List.length_erase_of_mem h1] at this
  have := List.length_pos_of_mem h1
  omega
theorem iota_nodup (n : Nat) : (iota n).Nodup := by
  unfold iota
  exact List.Pairwise.map _ (fun a b (hab : a ≠ b) => by omega) (List.nodup_range (n := n))
theorem imageOf_nodup (f : List Int) : (imageOf f).Nodup := by rw [imageOf_eq]; exact (iota_nodup _).filter _
theorem rank_cmp_left {f g : List Int} (hf : ∀ x ∈ f, 0 ≤ x ∧ x < f.length) : (imageOf (cmp f g)).length ≤ (imageOf f).length := by
  have := nodup_le (imageOf_nodup (cmp f g)) (m := (imageOf f).map (fun x => rd g x)) (fun y hy => by
    obtain ⟨_, _, hy⟩ := mem_imageOf.1 hy
    obtain ⟨x, hx, rfl⟩ := List.mem_map.1 hy
    exact List.mem_map.2 ⟨x, mem_imageOf.2 ⟨(hf x hx).1, (hf x hx).2, hx⟩, rfl⟩)
  rwa [List.length_map] at this
theorem rank_cmp_right {f g : List Int} (h : f.length = g.length) (hf : ∀ x ∈ f, 0 ≤ x ∧ x < f.length) : (imageOf (cmp f g)).length ≤ (imageOf g).length :=
  nodup_le (imageOf_nodup _) (fun y hy => by
    obtain ⟨h0, h1, hy⟩ := mem_imageOf.1 hy
    rw [cmp_length] at h1
    obtain ⟨x, hx, rfl⟩ := List.mem_map.1 hy
    exact mem_imageOf.2 ⟨h0, by omega, rd_mem (hf x hx).1 (by have := (hf x hx).2; omega)⟩)
theorem rank_pos {f : List Int} (hf : isT f = true) : 0 < (imageOf f).length := by
  obtain ⟨h1, _, h3⟩ := isT_iff.1 hf
  have h0 : f[0] ∈ f := List.getElem_mem (by omega)
  exact List.length_pos_of_mem (mem_imageOf.2 ⟨(h3 _ h0).1, (h3 _ h0).2, h0⟩)
/-- Powers by squares: k, what was gathered, the square. -/
def powL (k : Nat) (out sq : List Int) : List Int := if h : k = 0 then out else powL (k / 2) (if k % 2 = 1 then cmp out sq else out) (cmp sq sq)
termination_by k
decreasing_by omega
/-- A transformation of n points. -/
def isTr (n : Nat) (f : List Int) : Prop := f.length = n ∧ ∀ x ∈ f, 0 ≤ x ∧ x < n
theorem isTr_cmp {n : Nat} {f g : List Int} (hf : isTr n f) (hg : isTr n g) : isTr n (cmp f g) := ⟨by rw [cmp_length]; exact hf.1, cmp_mem (fun x hx => by rw [hg.1]; exact hf.2 x hx) hg.2⟩
theorem isTr_iota (n : Nat) : isTr n (iota n) := ⟨iota_length n, fun _ hx => mem_iota.1 hx⟩
theorem isTr_of {f : List Int} (h : isT f = true) : isTr f.length f := ⟨rfl, (isT_iff.1 h).2.2⟩
theorem isT_of {n : Nat} {f : List Int} (h : isTr n f) (h1 : 1 ≤ n) (h2 : n ≤ 32) : isT f = true := isT_iff.2 ⟨by rw [h.1]; exact h1, by rw [h.1]; exact h2, by rw [h.1]; exact h.2⟩
theorem powL_zero (out sq : List Int) : powL 0 out sq = out := by unfold powL; simp
theorem powL_pos {k : Nat} (h : 0 < k) (out sq : List Int) : powL k out sq = powL (k / 2) (if k % 2 = 1 then cmp out sq else out) (cmp sq sq) := by
  conv => lhs; unfold powL
  rw [dif_neg (by omega)]
theorem powL_length (k : Nat) : ∀ out sq, (powL k out sq).length = out.length := by
  induction k using Nat.strongRecOn with
  | _ k ih =>
    intro out sq
    rcases Nat.eq_zero_or_pos k with rfl | h
    · rw [powL_zero]
    · rw [powL_pos h, ih _ (by omega)]
      split
      · rw [cmp_length]
      · rfl
/-- The inverse, as it is filled. -/
def invL (f : List Int) : List Int := (List.range f.length).foldl (fun (acc : List Int) (j : Nat) => acc.set (rd f (j : Int)).toNat (j : Int)) (List.replicate f.length 0)
/-- Row i. -/
def rdR (xs : List (List Int)) (i : Int) : List Int := xs.getD i.toNat []
theorem rdR_lt {xs : List (List Int)} {i : Nat} (h : i < xs.length) : rdR xs (i : Int) = xs[i] := by simp [rdR, h]
theorem rdR_mem {xs : List (List Int)} {x : Int} (h0 : 0 ≤ x) (h1 : x < xs.length) : rdR xs x ∈ xs := by
  have : rdR xs x = xs[x.toNat]'(by omega) := by simp [rdR, show x.toNat < xs.length by omega]
  rw [this]; exact List.getElem_mem _
/-- A row of an automaton of n states over L letters. -/
def rowOk (n L : Int) (r : List Int) : Bool := decide ((r.length : Int) = L) && r.all (fun q => decide (0 ≤ q) && decide (q < n))
/-- What is wrong with an automaton. -/
def dfaE (L s : Int) (F : List Bool) (N : List (List Int)) : Int :=
  if L < 1 ∨ L > 6 then 1 else if (F.length : Int) > 512 then 3 else if F.length = 0 ∨ N.length ≠ F.length ∨ s < 0 ∨ s ≥ F.length then 4 else if N.all (rowOk F.length L) = true then 0 else 4
/-- A valid automaton. -/
structure DfaOk (L s : Int) (F : List Bool) (N : List (List Int)) : Prop where
  l1 : 1 ≤ L
  l2 : L ≤ 6
  n1 : 1 ≤ F.length
  n2 : F.length ≤ 512
  len : N.length = F.length
  s0 : 0 ≤ s
  s1 : s < F.length
  rows : ∀ r ∈ N, (r.length : Int) = L ∧ ∀ q ∈ r, 0 ≤ q ∧ q < F.length
theorem rowOk_iff {n L : Int} {r : List Int} : rowOk n L r = true ↔ (r.length : Int) = L ∧ ∀ q ∈ r, 0 ≤ q ∧ q < n := by simp [rowOk]
theorem dfaE_ok {L s : Int} {F : List Bool} {N : List (List Int)} : dfaE L s F N = 0 ↔ DfaOk L s F N := by
  unfold dfaE
  constructor
  · intro h
    split at h
    · cases h
    · split at h
      · cases h
      · split at h
        · cases h
        · split at h
          · rename_i h1 h2 h3 h4
            refine ⟨by omega, by omega, by omega, by omega, by omega, by omega, by omega, fun r hr => ?_⟩
            exact rowOk_iff.1 (List.all_eq_true.1 h4 r hr)
          · cases h
  · intro h
    have hl1 := h.l1
    have hl2 := h.l2
    have h1 := h.n1
    have h2 := h.n2
    have h3 := h.len
    have h4 := h.s0
    have h5 := h.s1
    rw [if_neg (by omega), if_neg (by omega), if_neg (by omega), if_pos (List.all_eq_true.2 fun r hr => rowOk_iff.2 (h.rows r hr))]
/-- The transformations of the letters. -/
def ofDfa (L : Int) (n : Nat) (N : List (List Int)) : List (List Int) := (iota L.toNat).map (fun a => (iota n).map (fun q => rd (rdR N q) a))
theorem ofDfa_length (L : Int) (n : Nat) (N : List (List Int)) : (ofDfa L n N).length = L.toNat := by simp [ofDfa, iota_length]
theorem DfaOk.next {L s : Int} {F : List Bool} {N : List (List Int)} (h : DfaOk L s F N) {q a : Int} (q0 : 0 ≤ q) (q1 : q < F.length) (a0 : 0 ≤ a) (a1 : a < L) : 0 ≤ rd (rdR N q) a ∧ rd (rdR N q) a < F.length := by
  have hl := h.len
  obtain ⟨h1, h2⟩ := h.rows _ (rdR_mem (xs := N) q0 (by omega))
  exact h2 _ (rd_mem a0 (by omega))
theorem DfaOk.row {L s : Int} {F : List Bool} {N : List (List Int)} (h : DfaOk L s F N) {q : Int} (q0 : 0 ≤ q) (q1 : q < F.length) : ((rdR N q).length : Int) = L := by
  have hl := h.len
  exact (h.rows _ (rdR_mem (xs := N) q0 (by omega))).1
theorem rd_set_self {l : List Int} {x v : Int} (h0 : 0 ≤ x) (h : x < l.length) : rd (l.set x.toNat v) x = v := by
  simp [rd, show x.toNat < l.length by omega]
theorem rd_set_ne {l : List Int} {x y v : Int} (h0 : 0 ≤ x) (h1 : 0 ≤ y) (h : x ≠ y) : rd (l.set x.toNat v) y = rd l y := by
  simp only [rd, List.getD_eq_getElem?_getD]
  rw [List.getElem?_set_ne (by omega)]
theorem fold_succ (f : List Int) (z : List Int) (i : Nat) : (List.range (i + 1)).foldl (fun (acc : List Int) (j : Nat) => acc.set (rd f (j : Int)).toNat (j : Int)) z = ((List.range i).foldl (fun (acc : List Int) (j : Nat) => acc.set (rd f (j : Int)).toNat (j : Int)) z).set (rd f (i : Int)).toNat (i : Int) := by
  rw [List.range_succ, List.foldl_append]; rfl
theorem fold_length (f z : List Int) (i : Nat) : ((List.range i).foldl (fun (acc : List Int) (j : Nat) => acc.set (rd f (j : Int)).toNat (j : Int)) z).length = z.length := by
  induction i with
  | zero => rfl
  | succ i ih => rw [fold_succ, List.length_set, ih]
theorem fold_mem (f z : List Int) (n : Nat) (hz : ∀ x ∈ z, 0 ≤ x ∧ x < n) (i : Nat) (hi : i ≤ n) : ∀ x ∈ (List.range i).foldl (fun (acc : List Int) (j : Nat) => acc.set (rd f (j : Int)).toNat (j : Int)) z, 0 ≤ x ∧ x < n := by
  induction i with
  | zero => exact hz
  | succ i ih =>
    rw [fold_succ]
    intro x hx
    rcases List.mem_or_eq_of_mem_set hx with h | h
    · exact ih (by omega) x h
    · omega
theorem fold_at (f : List Int) (hf : ∀ x ∈ f, 0 ≤ x ∧ x < f.length) (hn : f.Nodup) (z : List Int) (hz : z.length = f.length) (i : Nat) (hi : i ≤ f.length) : ∀ j : Nat, j < i → rd ((List.range i).foldl (fun (acc : List Int) (j : Nat) => acc.set (rd f (j : Int)).toNat (j : Int)) z) (rd f (j : Int)) = j := by
  induction i with
  | zero => intro j hj; omega
  | succ i ih =>
    intro j hj
    have ei : rd f (i : Int) = f[i] := rd_lt (by omega)
    have ej : rd f (j : Int) = f[j] := rd_lt (by omega)
    have hfi := hf f[i] (List.getElem_mem (by omega))
    have hfj := hf f[j] (List.getElem_mem (by omega))
    rw [fold_succ]
    by_cases e : j = i
    · subst e
      rw [ej]
      exact rd_set_self hfj.1 (by rw [fold_length]; omega)
    · have hne : f[i] ≠ f[j] := fun h => by
        have := (List.getElem_inj hn).1 h
        omega
      have h2 := ih (by omega) j (by omega)
      rw [ej] at h2 ⊢
      rw [ei, rd_set_ne hfi.1 hfj.1 hne]
      exact h2
/-- A transformation whose image is all: no point twice. -/
theorem perm_of {f : List Int} (h : (imageOf f).length = f.length) : f.Nodup ∧ ∀ y : Int, 0 ≤ y → y < f.length → y ∈ f := by
  have hall : ∀ y ∈ iota f.length, f.contains y = true := by
    rw [imageOf_eq] at h
    have h2 : ((iota f.length).filter (fun y => f.contains y)).length = (iota f.length).length := by rw [h, iota_length]
    have := List.length_filter_eq_length_iff.1 h2
    exact this
  refine ⟨nodup_of_full (iota_nodup f.length) (fun y hy => by simpa using hall y hy) (by rw [iota_length]; omega), fun y h0 h1 => by simpa using hall y (mem_iota.2 ⟨h0, h1⟩)⟩
theorem inv_isTr (f : List Int) : isTr f.length (invL f) := by
  refine ⟨by unfold invL; rw [fold_length, List.length_replicate], ?_⟩
  unfold invL
  refine fold_mem f _ f.length (fun x hx => ?_) f.length (by omega)
  obtain ⟨h1, rfl⟩ := List.mem_replicate.1 hx
  omega
theorem inv_at {f : List Int} (hf : ∀ x ∈ f, 0 ≤ x ∧ x < f.length) (hn : f.Nodup) {j : Nat} (hj : j < f.length) : rd (invL f) (rd f (j : Int)) = j :=
  fold_at f hf hn _ (by rw [List.length_replicate]) f.length (by omega) j hj
theorem cmp_inv {f : List Int} (hf : ∀ x ∈ f, 0 ≤ x ∧ x < f.length) (hn : f.Nodup) : cmp f (invL f) = iota f.length := by
  apply List.ext_getElem
  · rw [cmp_length, iota_length]
  · intro j h1 h2
    rw [cmp_length] at h1
    have := inv_at hf hn h1
    rw [rd_lt h1] at this
    simp only [cmp, List.getElem_map, iota_get]
    exact this
theorem inv_cmp {f : List Int} (hf : ∀ x ∈ f, 0 ≤ x ∧ x < f.length) (hn : f.Nodup) (hs : ∀ y : Int, 0 ≤ y → y < f.length → y ∈ f) : cmp (invL f) f = iota f.length := by
  have hl := (inv_isTr f).1
  apply List.ext_getElem
  · rw [cmp_length, iota_length, hl]
  · intro y h1 h2
    rw [cmp_length] at h1
    simp only [cmp, List.getElem_map, iota_get]
    obtain ⟨j, hj, he⟩ := List.getElem_of_mem (hs (y : Int) (by omega) (by omega))
    have := inv_at hf hn hj
    rw [rd_lt hj, he, rd_lt h1] at this
    rw [this, rd_lt hj, he]
theorem and64 (a b : Nat) (ha : a < 18446744073709551616) (hb : b < 18446744073709551616) : Go.bits .and .u64 (a : Int) (b : Int) = ((a &&& b : Nat) : Int) :=
  (bits_nat .u64 64 (by decide) (fun n h0 h1 => by simp [IntKind.wrap, IntKind.bits, IntKind.signed]; omega) a b ha hb).1
theorem or64 (a b : Nat) (ha : a < 18446744073709551616) (hb : b < 18446744073709551616) : Go.bits .or .u64 (a : Int) (b : Int) = ((a ||| b : Nat) : Int) :=
  (bits_nat .u64 64 (by decide) (fun n h0 h1 => by simp [IntKind.wrap, IntKind.bits, IntKind.signed]; omega) a b ha hb).2
theorem wrap_u64 {n : Int} (h0 : 0 ≤ n) (h1 : n < 18446744073709551616) : IntKind.u64.wrap n = n := by simp [IntKind.wrap, IntKind.bits, IntKind.signed]; omega
theorem shr64 (s i : Nat) (hi : i ≤ 64) : shr .u64 (s : Int) (i : Int) = ((s >>> i : Nat) : Int) := by
  unfold shr
  rw [Int.toNat_natCast, Nat.min_eq_left (show i ≤ IntKind.u64.bits from hi), Nat.shiftRight_eq_div_pow]
  norm_cast
theorem shl64 (i : Nat) (hi : i < 64) : shl .u64 1 (i : Int) = ((2 ^ i : Nat) : Int) := by
  unfold shl
  rw [Int.toNat_natCast, Nat.min_eq_left (show i ≤ IntKind.u64.bits from Nat.le_of_lt hi), Int.one_mul]
  have : (2 : Nat) ^ i < 2 ^ 64 := Nat.pow_lt_pow_right (by decide) hi
  rw [show ((2 : Int) ^ i) = ((2 ^ i : Nat) : Int) by norm_cast]
  generalize (2 : Nat) ^ i = m at this ⊢
  exact wrap_u64 (by omega) (by omega)
/-- Is bit i on? -/
theorem has64 (s i : Nat) (hs : s < 18446744073709551616) (hi : i ≤ 64) : Go.bits .and .u64 (shr .u64 (s : Int) (i : Int)) 1 = ((s >>> i &&& 1 : Nat) : Int) := by
  rw [shr64 s i hi]
  exact and64 _ 1 (by have := Nat.shiftRight_le s i; omega) (by decide)
theorem has64_iff (s i : Nat) (hs : s < 18446744073709551616) (hi : i ≤ 64) : Go.bits .and .u64 (shr .u64 (s : Int) (i : Int)) 1 = 1 ↔ s.testBit i = true := by
  rw [has64 s i hs hi, Nat.testBit, Nat.and_comm]
  have : 1 &&& s >>> i = (s >>> i) % 2 := by rw [Nat.and_comm, Nat.and_one_is_mod]
  rw [this]
  constructor
  · intro h; simp; omega
  · intro h; simp at h; omega
/-- The image of a set of points, told as a number. -/
def apN (f : List Int) (s : Nat) : Nat → Nat
  | 0 => 0
  | i + 1 => if s.testBit i = true then apN f s i ||| 2 ^ (rd f (i : Int)).toNat else apN f s i
theorem apN_succ (f : List Int) (s i : Nat) : apN f s (i + 1) = if s.testBit i = true then apN f s i ||| 2 ^ (rd f (i : Int)).toNat else apN f s i := rfl
theorem apN_lt {f : List Int} (s : Nat) (hf : ∀ x ∈ f, 0 ≤ x ∧ x < 64) : ∀ i, i ≤ f.length → apN f s i < 18446744073709551616
  | 0, _ => by unfold apN; decide
  | i + 1, hi => by
    have ih := apN_lt s hf i (by omega)
    have hx := hf f[i] (List.getElem_mem (by omega))
    unfold apN
    split
    · rw [rd_lt (show i < f.length by omega)]
      have : (2 : Nat) ^ (f[i]).toNat < 2 ^ 64 := Nat.pow_lt_pow_right (by decide) (by omega)
      exact Nat.or_lt_two_pow (n := 64) ih this
    · exact ih
theorem apN_bit (f : List Int) (s : Nat) (y : Nat) : ∀ i, (apN f s i).testBit y = true ↔ ∃ j, j < i ∧ s.testBit j = true ∧ (rd f (j : Int)).toNat = y
  | 0 => by simp [apN]
  | i + 1 => by
    have ih := apN_bit f s y i
    unfold apN
    by_cases h : s.testBit i = true
    · rw [if_pos h, Nat.testBit_or, Bool.or_eq_true, ih, Nat.testBit_two_pow]
      constructor
      · rintro (⟨j, h1, h2, h3⟩ | h1)
        · exact ⟨j, by omega, h2, h3⟩
        · exact ⟨i, by omega, h, by simpa using h1⟩
      · rintro ⟨j, h1, h2, h3⟩
        by_cases e : j = i
        · subst e; exact .inr (by simpa using h3)
        · exact .inl ⟨j, by omega, h2, h3⟩
    · rw [if_neg h, ih]
      constructor
      · rintro ⟨j, h1, h2, h3⟩; exact ⟨j, by omega, h2, h3⟩
      · rintro ⟨j, h1, h2, h3⟩
        by_cases e : j = i
        · subst e; exact absurd h2 h
        · exact ⟨j, by omega, h2, h3⟩
theorem apN_cmp {f g : List Int} (s : Nat) (hf : ∀ x ∈ f, 0 ≤ x ∧ x < f.length) (h : f.length = g.length) : apN (cmp f g) s f.length = apN g (apN f s f.length) f.length := by
  apply Nat.eq_of_testBit_eq
  intro y
  rw [Bool.eq_iff_iff, apN_bit, apN_bit]
  constructor
  · rintro ⟨j, h1, h2, h3⟩
    have hx := hf f[j] (List.getElem_mem h1)
    refine ⟨(rd f (j : Int)).toNat, ?_, (apN_bit f s _ _).2 ⟨j, h1, h2, rfl⟩, ?_⟩
    · rw [rd_lt h1]; omega
    · rw [rd_cmp (by omega) (by omega)] at h3
      rw [rd_lt h1] at h3 ⊢
      rw [Int.toNat_of_nonneg hx.1]; exact h3
  · rintro ⟨x, h1, h2, h3⟩
    obtain ⟨j, h4, h5, h6⟩ := (apN_bit f s _ _).1 h2
    refine ⟨j, h4, h5, ?_⟩
    have hx := hf f[j] (List.getElem_mem h4)
    rw [rd_cmp (by omega) (by omega)]
    rw [rd_lt h4] at h6 ⊢
    rw [← h3, ← h6, Int.toNat_of_nonneg hx.1]

end Go.Proofs.Ytimepajbnongoaa.Base
