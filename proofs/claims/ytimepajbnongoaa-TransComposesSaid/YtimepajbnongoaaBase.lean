/- Plain lemmas on printed texts (from some number of rounds on), lists and numbers: no program in them. -/
import Derived.Test.YtimepajbnongoaaWMore
namespace Go.Proofs.Ytimepajbnongoaa.Base
open Go.RowKit Go.Proofs.YtimepajbnongoaaW.PrintWords Go.Proofs.YtimepajbnongoaaW.PrintLast
/-- ONE ROUND, A TEST, A CALL: how 'from some number of rounds on' goes through a printed text. -/
theorem ev_pos {α : Type} {c : Prop} [Decidable c] {f g : Nat → Option α} {r : α} (h : c) (k : Ev f r) : Ev (fun n => if c then f n else g n) r := by
  simpa only [if_pos h] using k
theorem ev_neg {α : Type} {c : Prop} [Decidable c] {f g : Nat → Option α} {r : α} (h : ¬ c) (k : Ev g r) : Ev (fun n => if c then f n else g n) r := by
  simpa only [if_neg h] using k
theorem ev_ite {α : Type} {c : Prop} [Decidable c] {f g : Nat → Option α} {r : α} (h : c → Ev f r) (k : ¬ c → Ev g r) : Ev (fun n => if c then f n else g n) r := by
  by_cases hc : c
  · exact ev_pos hc (h hc)
  · exact ev_neg hc (k hc)
theorem ev_some {α : Type} {a r : α} (h : a = r) : Ev (fun _ => some a) r := h ▸ Ev.now a
theorem ev_bind {α β : Type} {g : Nat → Option α} {f : Nat → α → Option β} {r : β} (a : α) (h : Ev g a) (k : Ev (fun n => f n a) r) : Ev (fun n => (g n).bind (f n)) r := Ev.bind h k
theorem ev_bind1 {α β : Type} {a : α} {f : Nat → α → Option β} {r : β} (k : Ev (fun n => f n a) r) : Ev (fun n => (some a : Option α).bind (f n)) r := k
theorem ev_to {α : Type} {g : Nat → Option α} {a b : α} (h : Ev g a) (e : a = b) : Ev g b := e ▸ h
theorem ev_same {α : Type} {g : Nat → Option α} {a b : α} (h : Ev g a) (k : Ev g b) : a = b := by
  obtain ⟨K, h⟩ := h
  obtain ⟨K', k⟩ := k
  exact Option.some.inj ((h (max K K') (Nat.le_max_left _ _)).symm.trans (k (max K K') (Nat.le_max_right _ _)))
theorem wrap64_nat {n : Int} (h0 : 0 ≤ n) (h1 : n ≤ 9223372036854775806) : wrap64 (n + 1) = n + 1 := by unfold wrap64; omega
theorem wrap64_eq {n : Int} (h0 : -9223372036854775808 ≤ n) (h1 : n ≤ 9223372036854775807) : wrap64 n = n := by unfold wrap64; omega
theorem rd_nat (xs : List Int) (i : Nat) : rd xs (i : Int) = xs.getD i 0 := by simp [rd]
theorem rd_lt {xs : List Int} {i : Nat} (h : i < xs.length) : rd xs (i : Int) = xs[i] := by simp [rd, h]
theorem rdOf_lt {α : Type} {z : α} {xs : List α} {i : Nat} (h : i < xs.length) : rdOf z xs (i : Int) = xs[i] := by simp [rdOf, h]
theorem wf64 {x : Int} (h : (Lit.int .i64 x).wf = true) : -9223372036854775808 ≤ x ∧ x ≤ 9223372036854775807 := by
  simp [Lit.wf, IntKind.min, IntKind.max, IntKind.signed, IntKind.bits] at h
  omega
/-- A list that is being filled from the front. -/
def fillAt {α : Type} (ys : List α) (z : α) (i : Nat) : List α := ys.take i ++ List.replicate (ys.length - i) z
theorem fillAt_zero {α : Type} (ys : List α) (z : α) : fillAt ys z 0 = List.replicate ys.length z := by simp [fillAt]
theorem fillAt_all {α : Type} (ys : List α) (z : α) : fillAt ys z ys.length = ys := by simp [fillAt]
theorem fillAt_length {α : Type} (ys : List α) (z : α) {i : Nat} (h : i ≤ ys.length) : (fillAt ys z i).length = ys.length := by simp [fillAt]; omega
theorem fillAt_set {α : Type} (ys : List α) (z : α) {i : Nat} (h : i < ys.length) : (fillAt ys z i).set i ys[i] = fillAt ys z (i + 1) := by
  apply List.ext_getElem
  · rw [List.length_set, fillAt_length _ _ (by omega), fillAt_length _ _ (by omega)]
  · intro j h1 h2
    rw [List.length_set, fillAt_length _ _ (by omega)] at h1
    simp only [fillAt, List.getElem_set, List.getElem_append, List.length_take, List.getElem_take, List.getElem_replicate]
    by_cases hj : i = j
    · subst hj
      rw [if_pos rfl, dif_pos (by omega)]
    · rw [if_neg hj]
      by_cases hlt : j < i
      · rw [dif_pos (by omega), dif_pos (by omega)]
      · rw [dif_neg (by omega), dif_neg (by omega)]
/-- 0, 1, .., n - 1. -/
def iota (n : Nat) : List Int := (List.range n).map (fun (i : Nat) => (i : Int))
theorem iota_length (n : Nat) : (iota n).length = n := by simp [iota]
theorem iota_get {n i : Nat} (h : i < (iota n).length) : (iota n)[i] = (i : Int) := by simp [iota]
theorem iota_succ (n : Nat) : iota (n + 1) = iota n ++ [(n : Int)] := by simp [iota, List.range_succ]
theorem mem_iota {n : Nat} {x : Int} : x ∈ iota n ↔ 0 ≤ x ∧ x < n := by
  simp only [iota, List.mem_map, List.mem_range]
  exact ⟨fun ⟨a, h, e⟩ => by omega, fun h => ⟨x.toNat, by omega, by omega⟩⟩
/-- Is it a transformation of at most 32 points? -/
def isT (l : List Int) : Bool := decide (1 ≤ l.length) && decide (l.length ≤ 32) && l.all (fun x => decide (0 ≤ x) && decide (x < l.length))
theorem isT_iff {l : List Int} : isT l = true ↔ 1 ≤ l.length ∧ l.length ≤ 32 ∧ ∀ x ∈ l, 0 ≤ x ∧ x < l.length := by
  simp [isT, and_assoc]
/-- f followed by g. -/
def cmp (f g : List Int) : List Int := f.map (fun x => rd g x)
theorem cmp_length (f g : List Int) : (cmp f g).length = f.length := by simp [cmp]
theorem rd_mem {f : List Int} {x : Int} (h0 : 0 ≤ x) (h1 : x < f.length) : rd f x ∈ f := by
  have : rd f x = f[x.toNat]'(by omega) := by simp [rd, show x.toNat < f.length by omega]
  rw [this]; exact List.getElem_mem _
theorem rd_cmp {f g : List Int} {x : Int} (h0 : 0 ≤ x) (h1 : x < f.length) : rd (cmp f g) x = rd g (rd f x) := by
  have h2 : x.toNat < f.length := by omega
  simp [rd, cmp, h2]
theorem cmp_mem {f g : List Int} {P : Int → Prop} (hf : ∀ x ∈ f, 0 ≤ x ∧ x < g.length) (hg : ∀ x ∈ g, P x) : ∀ x ∈ cmp f g, P x := by
  intro x hx
  obtain ⟨y, hy, rfl⟩ := List.mem_map.1 hx
  exact hg _ (rd_mem (hf y hy).1 (hf y hy).2)
theorem cmp_assoc {f g h : List Int} (hf : ∀ x ∈ f, 0 ≤ x ∧ x < g.length) : cmp (cmp f g) h = cmp f (cmp g h) := by
  simp only [cmp, List.map_map]
  apply List.map_congr_left
  intro x hx
  exact (rd_cmp (hf x hx).1 (hf x hx).2).symm
theorem rd_iota {n : Nat} {x : Int} (h0 : 0 ≤ x) (h1 : x < n) : rd (iota n) x = x := by
  have h2 : x.toNat < (iota n).length := by rw [iota_length]; omega
  have : rd (iota n) x = (iota n)[x.toNat] := by simp only [rd, List.getD_eq_getElem?_getD, List.getElem?_eq_getElem h2, Option.getD_some]
  rw [this, iota_get]; omega
theorem cmp_iota {f : List Int} {n : Nat} (hf : ∀ x ∈ f, 0 ≤ x ∧ x < n) : cmp f (iota n) = f := by
  simp only [cmp]
  conv => rhs; rw [← List.map_id f]
  exact List.map_congr_left (fun x hx => rd_iota (hf x hx).1 (hf x hx).2)
theorem iota_cmp (f : List Int) : cmp (iota f.length) f = f := by
  apply List.ext_getElem
  · rw [cmp_length, iota_length]
  · intro i h1 h2
    simp only [cmp, List.getElem_map, iota_get]
    exact rd_lt h2
theorem cmp_isT {f g : List Int} (hf : isT f = true) (hg : isT g = true) (h : f.length = g.length) : isT (cmp f g) = true := by
  obtain ⟨a, b, c⟩ := isT_iff.1 hf
  obtain ⟨a', b', c'⟩ := isT_iff.1 hg
  refine isT_iff.2 ⟨by rw [cmp_length]; exact a, by rw [cmp_length]; exact b, ?_⟩
  rw [cmp_length, h]
  exact cmp_mem (by rw [← h]; exact c) c'
/-- The places that hold true. -/
def membersOf (s : List Bool) : List Int := (iota s.length).filter (fun x => rdOf false s x)
/-- Which of n points the first i of a list name. -/
def marks (n : Nat) (l : List Int) : List Bool := (iota n).map (fun y => l.contains y)
theorem marks_length (n : Nat) (l : List Int) : (marks n l).length = n := by simp [marks, iota_length]
theorem marks_nil (n : Nat) : marks n [] = List.replicate n false := by
  apply List.ext_getElem
  · simp [marks, iota_length]
  · intro i h1 h2
    simp [marks]
theorem marks_set {n : Nat} {l : List Int} {x : Int} (h0 : 0 ≤ x) (h1 : x < n) : (marks n l).set x.toNat true = marks n (l ++ [x]) := by
  apply List.ext_getElem
  · simp [marks]
  · intro i h2 h3
    rw [List.length_set, marks_length] at h2
    simp only [marks, List.getElem_set, List.getElem_map, iota_get, List.contains_append]
    by_cases he : x.toNat = i
    · subst he
      rw [if_pos rfl]
      have : (([x] : List Int).contains ((x.toNat : Nat) : Int)) = true := by simp; omega
      rw [this, Bool.or_true]
    · rw [if_neg he]
      have : (([x] : List Int).contains ((i : Nat) : Int)) = false := by simp; omega
      rw [this, Bool.or_false]
theorem marks_out {n : Nat} {l : List Int} {x : Int} (h : ¬ (0 ≤ x ∧ x < n)) : marks n (l ++ [x]) = marks n l := by
  apply List.map_congr_left
  intro y hy
  have hy := mem_iota.1 hy
  rw [List.contains_append]
  have : (([x] : List Int).contains y) = false := by simp; omega
  rw [this, Bool.or_false]
/-- The image of a list of n points, ascending. -/
def imageOf (f : List Int) : List Int := membersOf (marks f.length f)
theorem rdOf_marks {n : Nat} {l : List Int} {y : Int} (h0 : 0 ≤ y) (h1 : y < n) : rdOf false (marks n l) y = l.contains y := by
  have h2 : y.toNat < (marks n l).length := by rw [marks_length]; omega
  have : rdOf false (marks n l) y = (marks n l)[y.toNat] := by simp only [rdOf, List.getD_eq_getElem?_getD, List.getElem?_eq_getElem h2, Option.getD_some]
  rw [this]
  simp only [marks, List.getElem_map, iota_get, Int.toNat_of_nonneg h0]
theorem imageOf_eq (f : List Int) : imageOf f = (iota f.length).filter (fun y => f.contains y) := by
  unfold imageOf membersOf
  rw [marks_length]
  apply List.filter_congr
  intro y hy
  have hy := mem_iota.1 hy
  exact rdOf_marks hy.1 hy.2
theorem mem_imageOf {f : List Int} {y : Int} : y ∈ imageOf f ↔ 0 ≤ y ∧ y < f.length ∧ y ∈ f := by
  rw [imageOf_eq, List.mem_filter, mem_iota]
  simp [and_assoc]
theorem imageOf_length_le (f : List Int) : (imageOf f).length ≤ f.length := by
  rw [imageOf_eq]
  exact Nat.le_trans (List.length_filter_le _ _) (by rw [iota_length]; omega)

end Go.Proofs.Ytimepajbnongoaa.Base
