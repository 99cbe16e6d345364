/- Words for the plain proofs over the functions: rounds, machine numbers. No program in it. -/
import Derived.Test.YteblfhhhbfodgaaSimC
import Derived.Test.YteblfhhhbfodgaaPT3
set_option linter.unusedVariables false
namespace Go.Proofs.Yteblfhhhbfodgaa.Sim
open Go

theorem wrap_i64 {n : Int} (h0 : -9223372036854775808 ≤ n) (h1 : n ≤ 9223372036854775807) : IntKind.i64.wrap n = n := by
  have e : IntKind.i64.wrap n = if n % 18446744073709551616 ≥ 9223372036854775808 then n % 18446744073709551616 - 18446744073709551616 else n % 18446744073709551616 := by
    simp [IntKind.wrap, IntKind.signed, IntKind.bits]
  rw [e]; split <;> omega
theorem wrap_succ {n : Nat} (h : n ≤ 9223372036854775806) : IntKind.i64.wrap ((n : Int) + 1) = ((n + 1 : Nat) : Int) := by
  rw [wrap_i64 (by omega) (by omega)]; omega

/-! For 'simp only': as rewriting by proof, not by computing (the kernel would compute through the functions). -/
theorem ob {α β : Type} (a : α) (f : α → Option β) : (Option.some a).bind f = f a := Option.bind_some a f
theorem c1 {α : Type} (a b : α) : cond true a b = a := cond_true a b
theorem c0 {α : Type} (a b : α) : cond false a b = b := cond_false a b
theorem ii {α : Type} (b : Bool) (a : α) : cond b a a = a := by cases b <;> rfl
/-- Rounds with an invariant and a measure. -/
theorem wh {σ R : Type} {f : Nat → σ → Option R} (Inv : σ → Prop) (μ : σ → Nat) (Post : Option R → Prop)
    (hs : ∀ n st, Inv st → Post (f (n + 1) st) ∨ ∃ st', Inv st' ∧ μ st' < μ st ∧ f (n + 1) st = f n st') : ∀ n st, μ st < n → Inv st → Post (f n st)
  | 0, st, h, _ => absurd h (Nat.not_lt_zero _)
  | n + 1, st, h, hi => by
    rcases hs n st hi with h' | ⟨st', h1, h2, h3⟩
    · exact h'
    · rw [h3]; exact wh Inv μ Post hs n st' (by omega) h1
/-- Rounds over the numbers below len, ending as told by where they are. -/
theorem up {R : Type} {f : Nat → Nat → Option R} {g : Nat → Option R} {len : Nat} (h0 : ∀ n, f (n + 1) len = g len) (hs : ∀ i, i < len → ∀ n, f n (i + 1) = g (i + 1) → f (n + 1) i = g i) : ∀ (n i : Nat), len - i < n → i ≤ len → f n i = g i
  | 0, i, h, _ => absurd h (Nat.not_lt_zero _)
  | n + 1, i, h, hi => by
    by_cases he : i = len
    · subst he; exact h0 n
    · exact hs i (by omega) n (up h0 hs n (i + 1) (by omega) (by omega))
/-- Rounds over the numbers below len, all alike. -/
theorem upc {R : Type} {f : Nat → Nat → Option R} {r : Option R} {len : Nat} (h0 : ∀ n, f (n + 1) len = r) (hs : ∀ i, i < len → ∀ n, f (n + 1) i = f n (i + 1)) (n : Nat) (h : len < n) : f n 0 = r :=
  up (g := fun _ => r) h0 (fun i hi n e => (hs i hi n).trans e) n 0 (by omega) (by omega)

theorem getD_lt {α : Type} {l : List α} {i : Nat} {d : α} (h : i < l.length) : l.getD i d = l[i] := by simp [List.getD_eq_getElem?_getD, h]
theorem getD_nat {α : Type} (l : List α) (i : Nat) (d : α) : l.getD ((i : Int)).toNat d = l.getD i d := by rw [Int.toNat_natCast]
theorem set_nat {α : Type} (l : List α) (i : Nat) (x : α) : l.set ((i : Int)).toNat x = l.set i x := by rw [Int.toNat_natCast]
theorem getD_set {α : Type} (l : List α) (i j : Nat) (x d : α) : (l.set i x).getD j d = if i = j ∧ j < l.length then x else l.getD j d := by
  simp only [List.getD_eq_getElem?_getD, List.getElem?_set]
  by_cases h : i = j
  · subst h
    by_cases hl : i < l.length
    · simp [hl]
    · simp [hl]
  · simp [h]
theorem getD_append {α : Type} (l m : List α) (j : Nat) (d : α) : (l ++ m).getD j d = if j < l.length then l.getD j d else m.getD (j - l.length) d := by
  simp only [List.getD_eq_getElem?_getD, List.getElem?_append]
  split <;> rfl
/-! ### Lists that are being filled -/
/-- A list that is being filled from the front. -/
def fillAt {α : Type} (ys : List α) (z : α) (i : Nat) : List α := ys.take i ++ List.replicate (ys.length - i) z
theorem fillAt_zero {α : Type} (ys : List α) (z : α) : fillAt ys z 0 = List.replicate ys.length z := by simp [fillAt]
theorem fillAt_all {α : Type} (ys : List α) (z : α) : fillAt ys z ys.length = ys := by simp [fillAt]
theorem fillAt_length {α : Type} (ys : List α) (z : α) {i : Nat} (h : i ≤ ys.length) : (fillAt ys z i).length = ys.length := by simp [fillAt]; omega
theorem fillAt_set {α : Type} (ys : List α) (z : α) {i : Nat} (h : i < ys.length) : (fillAt ys z i).set i ys[i] = fillAt ys z (i + 1) := by
  apply List.ext_getElem
  · rw [List.length_set, fillAt_length _ _ (by omega), fillAt_length _ _ (by omega)]
  · intro j h1 h2
    rw [List.length_set, fillAt_length _ _ (by omega)] at h1
    simp only [fillAt, List.getElem_set, List.getElem_append, List.length_take, List.getElem_take, List.getElem_replicate]
    by_cases hj : i = j
    · subst hj
      rw [if_pos rfl, dif_pos (by omega)]
    · rw [if_neg hj]
      by_cases hlt : j < i
      · rw [dif_pos (by omega), dif_pos (by omega)]
      · rw [dif_neg (by omega), dif_neg (by omega)]
end Go.Proofs.Yteblfhhhbfodgaa.Sim
