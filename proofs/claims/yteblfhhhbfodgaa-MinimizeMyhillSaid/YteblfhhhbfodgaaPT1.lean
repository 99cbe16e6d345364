/- Words in order, and searches in breadth: plain theory. No program in it. -/
set_option linter.unusedVariables false
namespace Go.Proofs.Yteblfhhhbfodgaa.Sim

/-! ### Words in order: shorter first, then letter by letter -/
def lx : List Nat → List Nat → Bool
  | a :: u, b :: v => decide (a < b) || (decide (a = b) && lx u v)
  | _, _ => false
def sl (u v : List Nat) : Prop := u.length < v.length ∨ (u.length = v.length ∧ lx u v = true)
def sle (u v : List Nat) : Prop := u = v ∨ sl u v

theorem lx_irrefl : ∀ u, lx u u = false
  | [] => rfl
  | a :: u => by simp [lx, lx_irrefl u]
theorem lx_trans : ∀ {u v w : List Nat}, lx u v = true → lx v w = true → lx u w = true
  | [], _, _, h, _ => by cases h
  | _ :: _, [], _, h, _ => by cases h
  | _ :: _, _ :: _, [], _, h => by cases h
  | a :: u, b :: v, c :: w, h1, h2 => by
    simp only [lx, Bool.or_eq_true, Bool.and_eq_true, decide_eq_true_eq] at *
    rcases h1 with h1 | ⟨h1, h1'⟩
    · rcases h2 with h2 | ⟨h2, h2'⟩
      · exact .inl (by omega)
      · exact .inl (by omega)
    · rcases h2 with h2 | ⟨h2, h2'⟩
      · exact .inl (by omega)
      · exact .inr ⟨by omega, lx_trans h1' h2'⟩
theorem lx_total : ∀ {u v : List Nat}, u.length = v.length → u ≠ v → lx u v = true ∨ lx v u = true
  | [], [], _, h => absurd rfl h
  | [], _ :: _, h, _ => by simp at h
  | _ :: _, [], h, _ => by simp at h
  | a :: u, b :: v, h, hn => by
    simp only [lx, Bool.or_eq_true, Bool.and_eq_true, decide_eq_true_eq]
    by_cases hab : a = b
    · subst hab
      have hn' : u ≠ v := fun e => hn (by rw [e])
      rcases lx_total (u := u) (v := v) (by simpa using h) hn' with g | g
      · exact .inl (.inr ⟨rfl, g⟩)
      · exact .inr (.inr ⟨rfl, g⟩)
    · rcases Nat.lt_or_gt_of_ne hab with g | g
      · exact .inl (.inl g)
      · exact .inr (.inl g)
theorem lx_snoc {a b : Nat} : ∀ {u v : List Nat}, u.length = v.length → (lx (u ++ [a]) (v ++ [b]) = true ↔ lx u v = true ∨ (u = v ∧ a < b))
  | [], [], _ => by simp [lx]
  | [], _ :: _, h => by simp at h
  | _ :: _, [], h => by simp at h
  | x :: u, y :: v, h => by
    have ih := lx_snoc (a := a) (b := b) (u := u) (v := v) (by simpa using h)
    simp only [List.cons_append, lx, Bool.or_eq_true, Bool.and_eq_true, decide_eq_true_eq, ih, List.cons.injEq]
    constructor
    · rintro (g | ⟨g, g' | g'⟩)
      · exact .inl (.inl g)
      · exact .inl (.inr ⟨g, g'⟩)
      · exact .inr ⟨⟨g, g'.1⟩, g'.2⟩
    · rintro ((g | ⟨g, g'⟩) | ⟨⟨g, g'⟩, g''⟩)
      · exact .inl g
      · exact .inr ⟨g, .inl g'⟩
      · exact .inr ⟨g, .inr ⟨g', g''⟩⟩
theorem sl_irrefl (u : List Nat) : ¬ sl u u := by
  rintro (h | ⟨_, h⟩)
  · omega
  · rw [lx_irrefl] at h; cases h
theorem sl_trans {u v w : List Nat} (h1 : sl u v) (h2 : sl v w) : sl u w := by
  rcases h1 with h1 | ⟨h1, h1'⟩ <;> rcases h2 with h2 | ⟨h2, h2'⟩
  · exact .inl (by omega)
  · exact .inl (by omega)
  · exact .inl (by omega)
  · exact .inr ⟨by omega, lx_trans h1' h2'⟩
theorem sl_total (u v : List Nat) : u = v ∨ sl u v ∨ sl v u := by
  by_cases h : u = v
  · exact .inl h
  · by_cases hl : u.length = v.length
    · rcases lx_total hl h with g | g
      · exact .inr (.inl (.inr ⟨hl, g⟩))
      · exact .inr (.inr (.inr ⟨hl.symm, g⟩))
    · rcases Nat.lt_or_gt_of_ne hl with g | g
      · exact .inr (.inl (.inl g))
      · exact .inr (.inr (.inl g))
theorem sl_snoc {u v : List Nat} {a b : Nat} : sl (u ++ [a]) (v ++ [b]) ↔ sl u v ∨ (u = v ∧ a < b) := by
  unfold sl
  simp only [List.length_append, List.length_singleton]
  constructor
  · rintro (h | ⟨h, h'⟩)
    · exact .inl (.inl (by omega))
    · rcases (lx_snoc (by omega)).1 h' with g | g
      · exact .inl (.inr ⟨by omega, g⟩)
      · exact .inr g
  · rintro ((h | ⟨h, h'⟩) | ⟨rfl, h⟩)
    · exact .inl (by omega)
    · exact .inr ⟨by omega, (lx_snoc h).2 (.inl h')⟩
    · exact .inr ⟨rfl, (lx_snoc rfl).2 (.inr ⟨rfl, h⟩)⟩
theorem sl_self_snoc (u : List Nat) (a : Nat) : sl u (u ++ [a]) := .inl (by simp)
theorem sl_nil {v : List Nat} : sl [] v ↔ v ≠ [] := by cases v <;> simp [sl, lx]
theorem sle_refl (u : List Nat) : sle u u := .inl rfl
theorem sl_of_sle_sl {u v w : List Nat} (h1 : sle u v) (h2 : sl v w) : sl u w := by rcases h1 with rfl | h1; exact h2; exact sl_trans h1 h2
theorem sl_of_sl_sle {u v w : List Nat} (h1 : sl u v) (h2 : sle v w) : sl u w := by rcases h2 with rfl | h2; exact h1; exact sl_trans h1 h2
theorem sle_trans {u v w : List Nat} (h1 : sle u v) (h2 : sle v w) : sle u w := by rcases h1 with rfl | h1; exact h2; exact .inr (sl_of_sl_sle h1 h2)
theorem sle_antisymm {u v : List Nat} (h1 : sle u v) (h2 : sle v u) : u = v := by
  rcases h1 with h | h
  · exact h
  · exact absurd (sl_of_sl_sle h h2) (sl_irrefl _)
theorem sle_snoc {u v : List Nat} (a : Nat) (h : sle u v) : sle (u ++ [a]) (v ++ [a]) := by
  rcases h with rfl | h
  · exact .inl rfl
  · exact .inr (sl_snoc.2 (.inl h))
theorem sle_nil (v : List Nat) : sle [] v := by
  by_cases h : v = []
  · exact .inl h.symm
  · exact .inr (sl_nil.2 h)
theorem not_sl {u v : List Nat} : ¬ sl u v ↔ sle v u := by
  constructor
  · intro h; rcases sl_total u v with g | g | g
    · exact .inl g.symm
    · exact absurd g h
    · exact .inr g
  · intro h g; exact sl_irrefl _ (sl_of_sl_sle g h)
theorem sle_len {u v : List Nat} (h : sle u v) : u.length ≤ v.length := by
  rcases h with rfl | h | ⟨h, _⟩ <;> omega

/-! ### Lists sorted strictly by their words, with the same members -/
def Asc (l : List (List Nat)) : Prop := ∀ (j k : Nat) u v, j < k → l[j]? = some u → l[k]? = some v → sl u v
theorem Asc.tail {u : List Nat} {l : List (List Nat)} (h : Asc (u :: l)) : Asc l := fun j k x y hjk hx hy => h (j + 1) (k + 1) x y (by omega) (by simpa using hx) (by simpa using hy)
theorem Asc.head {u : List Nat} {l : List (List Nat)} (h : Asc (u :: l)) {v} (hv : v ∈ l) : sl u v := by
  obtain ⟨k, hk⟩ := List.mem_iff_getElem?.1 hv
  exact h 0 (k + 1) u v (by omega) rfl (by simpa using hk)
theorem Asc.ext : ∀ {l m : List (List Nat)}, Asc l → Asc m → (∀ w, w ∈ l ↔ w ∈ m) → l = m
  | [], [], _, _, _ => rfl
  | [], v :: m, _, _, h => by have := (h v).2 (by simp); cases this
  | u :: l, [], _, _, h => by have := (h u).1 (by simp); cases this
  | u :: l, v :: m, hl, hm, h => by
    have huv : u = v := by
      rcases List.mem_cons.1 ((h u).1 (by simp)) with e | e
      · exact e
      rcases List.mem_cons.1 ((h v).2 (by simp)) with e' | e'
      · exact e'.symm
      exact absurd (sl_trans (hl.head e') (hm.head e)) (sl_irrefl _)
    subst huv
    rw [Asc.ext hl.tail hm.tail]
    intro w
    constructor
    · intro hw
      rcases List.mem_cons.1 ((h w).1 (List.mem_cons_of_mem _ hw)) with e | e
      · subst e; exact absurd (hl.head hw) (sl_irrefl _)
      · exact e
    · intro hw
      rcases List.mem_cons.1 ((h w).2 (List.mem_cons_of_mem _ hw)) with e | e
      · subst e; exact absurd (hm.head hw) (sl_irrefl _)
      · exact e

/-! ### Searches in breadth -/
structure Ent (α : Type) where
  x : α
  w : List Nat
  p : Int
  a : Int

def Wd (L : Nat) (w : List Nat) : Prop := ∀ a ∈ w, a < L
theorem Wd.snoc {L : Nat} {w : List Nat} {a : Nat} (h : Wd L w) (ha : a < L) : Wd L (w ++ [a]) := by
  intro b hb
  rcases List.mem_append.1 hb with hb | hb
  · exact h b hb
  · rw [List.mem_singleton.1 hb]; exact ha
theorem Wd.append {L : Nat} {u v : List Nat} : Wd L (u ++ v) ↔ Wd L u ∧ Wd L v := by
  simp only [Wd, List.mem_append]
  exact ⟨fun h => ⟨fun a ha => h a (.inl ha), fun a ha => h a (.inr ha)⟩, fun h a ha => ha.elim (h.1 a) (h.2 a)⟩
theorem Wd.nil {L : Nat} : Wd L [] := fun _ h => by cases h

def rn {α : Type} (δ : α → Nat → α) (s : α) (w : List Nat) : α := w.foldl δ s
theorem rn_snoc {α : Type} (δ : α → Nat → α) (s : α) (w : List Nat) (a : Nat) : rn δ s (w ++ [a]) = δ (rn δ s w) a := by simp [rn]
theorem rn_append {α : Type} (δ : α → Nat → α) (s : α) (u v : List Nat) : rn δ s (u ++ v) = rn δ (rn δ s u) v := by simp [rn]
theorem rn_cons {α : Type} (δ : α → Nat → α) (s : α) (a : Nat) (v : List Nat) : rn δ s (a :: v) = rn δ (δ s a) v := rfl

/-- Entry j's successors by letters below the front are met. -/
def Front (i a j b : Nat) : Prop := j < i ∨ (j = i ∧ b < a)

structure BInv {α : Type} (δ : α → Nat → α) (L : Nat) (e0 : Ent α) (q : List (Ent α)) (i a : Nat) : Prop where
  hd : q[0]? = some e0
  hw : e0.w = []
  hi : i ≤ q.length
  nd : ∀ (j k : Nat) e f, q[j]? = some e → q[k]? = some f → e.x = f.x → j = k
  tl : ∀ (j : Nat) e, 0 < j → q[j]? = some e → ∃ (p b : Nat) (f : Ent α), p < j ∧ b < L ∧ q[p]? = some f ∧ e = ⟨δ f.x b, f.w ++ [b], p, b⟩ ∧ Front i a p b
  srt : ∀ (j k : Nat) e f, j < k → q[j]? = some e → q[k]? = some f → sl e.w f.w
  cl : ∀ (j b : Nat) e, q[j]? = some e → b < L → Front i a j b → ∃ f ∈ q, f.x = δ e.x b ∧ sle f.w (e.w ++ [b])

section
variable {α : Type} {δ : α → Nat → α} {L : Nat} {e0 : Ent α} {q : List (Ent α)} {i a : Nat}

theorem BInv.init (h : e0.w = []) : BInv δ L e0 [e0] 0 0 where
  hd := rfl
  hw := h
  hi := by simp
  nd := fun j k e f hj hk _ => by
    have h1 := (List.getElem?_eq_some_iff.1 hj).1; have h2 := (List.getElem?_eq_some_iff.1 hk).1
    simp at h1 h2; omega
  tl := fun j e hj he => by have h1 := (List.getElem?_eq_some_iff.1 he).1; simp at h1; omega
  srt := fun j k e f hjk hj hk => by have h2 := (List.getElem?_eq_some_iff.1 hk).1; simp at h2; omega
  cl := fun j b e hj hb hf => by rcases hf with h | ⟨_, h⟩ <;> omega

/-- All words so far come before the one at the front. -/
theorem BInv.below (H : BInv δ L e0 q i a) {e : Ent α} (he : q[i]? = some e) : ∀ f ∈ q, sl f.w (e.w ++ [a]) := by
  intro f hf
  obtain ⟨j, hj⟩ := List.mem_iff_getElem?.1 hf
  by_cases h0 : j = 0
  · subst h0
    rw [H.hd] at hj; cases hj
    rw [H.hw]; exact sl_nil.2 (by simp)
  · obtain ⟨p, b, g, hp, hb, hg, rfl, hfr⟩ := H.tl j f (by omega) hj
    dsimp only
    rw [sl_snoc]
    rcases hfr with h | ⟨h, h'⟩
    · exact .inl (H.srt p i g e h hg he)
    · subst h; rw [hg] at he; cases he; exact .inr ⟨rfl, h'⟩

theorem Front.succ {i a j b : Nat} (h : Front i (a + 1) j b) : Front i a j b ∨ (j = i ∧ b = a) := by
  rcases h with h | ⟨h, h'⟩
  · exact .inl (.inl h)
  · by_cases hb : b = a
    · exact .inr ⟨h, hb⟩
    · exact .inl (.inr ⟨h, by omega⟩)
theorem Front.up {i a j b : Nat} (h : Front i a j b) : Front i (a + 1) j b := by
  rcases h with h | ⟨h, h'⟩
  · exact .inl h
  · exact .inr ⟨h, by omega⟩

/-- A successor that was met before. -/
theorem BInv.old (H : BInv δ L e0 q i a) {e : Ent α} (he : q[i]? = some e) {f : Ent α} (hf : f ∈ q) (hx : f.x = δ e.x a) : BInv δ L e0 q i (a + 1) where
  hd := H.hd
  hw := H.hw
  hi := H.hi
  nd := H.nd
  tl := fun j g h0 hj => by
    obtain ⟨p, b, f', h1, h2, h3, h4, h5⟩ := H.tl j g h0 hj
    exact ⟨p, b, f', h1, h2, h3, h4, h5.up⟩
  srt := H.srt
  cl := fun j b g hg hb hfr => by
    rcases hfr.succ with h | ⟨rfl, rfl⟩
    · exact H.cl j b g hg hb h
    · rw [he] at hg; cases hg
      exact ⟨f, hf, hx, .inr (H.below he f hf)⟩

/-- One that is new. -/
theorem BInv.new (H : BInv δ L e0 q i a) {e : Ent α} (he : q[i]? = some e) (ha : a < L) (hn : ∀ f ∈ q, f.x ≠ δ e.x a) : BInv δ L e0 (q ++ [⟨δ e.x a, e.w ++ [a], i, a⟩]) i (a + 1) := by
  have hil := (List.getElem?_eq_some_iff.1 he).1
  have split : ∀ (j : Nat) f, (q ++ [(⟨δ e.x a, e.w ++ [a], i, a⟩ : Ent α)])[j]? = some f → q[j]? = some f ∨ (j = q.length ∧ f = ⟨δ e.x a, e.w ++ [a], i, a⟩) := by
    intro j f hf
    by_cases hj : j < q.length
    · rw [List.getElem?_append_left hj] at hf; exact .inl hf
    · rw [List.getElem?_append_right (by omega)] at hf
      have := (List.getElem?_eq_some_iff.1 hf).1
      simp at this
      obtain rfl : j = q.length := by omega
      simp at hf; exact .inr ⟨rfl, hf.symm⟩
  have up : ∀ (j : Nat) f, q[j]? = some f → (q ++ [(⟨δ e.x a, e.w ++ [a], i, a⟩ : Ent α)])[j]? = some f := fun j f hf => by
    rw [List.getElem?_append_left (List.getElem?_eq_some_iff.1 hf).1]; exact hf
  refine ⟨up _ _ H.hd, H.hw, by simp; omega, ?_, ?_, ?_, ?_⟩
  · intro j k g f hg hf hx
    rcases split j g hg with h1 | ⟨h1, rfl⟩ <;> rcases split k f hf with h2 | ⟨h2, rfl⟩
    · exact H.nd j k g f h1 h2 hx
    · exact absurd hx (hn g (List.mem_iff_getElem?.2 ⟨j, h1⟩))
    · exact absurd hx.symm (hn f (List.mem_iff_getElem?.2 ⟨k, h2⟩))
    · omega
  · intro j g h0 hg
    rcases split j g hg with h1 | ⟨h1, rfl⟩
    · obtain ⟨p, b, f, k1, k2, k3, k4, k5⟩ := H.tl j g h0 h1
      exact ⟨p, b, f, k1, k2, up _ _ k3, k4, k5.up⟩
    · exact ⟨i, a, e, by omega, ha, up _ _ he, rfl, .inr ⟨rfl, by omega⟩⟩
  · intro j k g f hjk hg hf
    rcases split j g hg with h1 | ⟨h1, rfl⟩ <;> rcases split k f hf with h2 | ⟨h2, rfl⟩
    · exact H.srt j k g f hjk h1 h2
    · exact H.below he g (List.mem_iff_getElem?.2 ⟨j, h1⟩)
    · have := (List.getElem?_eq_some_iff.1 h2).1; omega
    · omega
  · intro j b g hg hb hfr
    rcases split j g hg with h1 | ⟨h1, rfl⟩
    · rcases hfr.succ with h | ⟨rfl, rfl⟩
      · obtain ⟨f, k1, k2, k3⟩ := H.cl j b g h1 hb h
        exact ⟨f, by simp [k1], k2, k3⟩
      · rw [he] at h1; cases h1
        exact ⟨_, by simp; exact .inr rfl, rfl, .inl rfl⟩
    · rcases hfr with h | ⟨h, _⟩ <;> omega

/-- The next entry. -/
theorem BInv.next (H : BInv δ L e0 q i L) (hi : i < q.length) : BInv δ L e0 q (i + 1) 0 where
  hd := H.hd
  hw := H.hw
  hi := hi
  nd := H.nd
  tl := fun j g h0 hj => by
    obtain ⟨p, b, f', h1, h2, h3, h4, h5⟩ := H.tl j g h0 hj
    refine ⟨p, b, f', h1, h2, h3, h4, .inl ?_⟩
    rcases h5 with h | ⟨h, _⟩ <;> omega
  srt := H.srt
  cl := fun j b g hg hb hfr => by
    refine H.cl j b g hg hb ?_
    rcases hfr with h | ⟨_, h⟩
    · by_cases hj : j < i
      · exact .inl hj
      · exact .inr ⟨by omega, hb⟩
    · omega

theorem BInv.sound (H : BInv δ L e0 q i a) : ∀ (j : Nat) e, q[j]? = some e → rn δ e0.x e.w = e.x ∧ Wd L e.w := by
  intro j
  induction j using Nat.strongRecOn with
  | _ j ih =>
    intro e he
    by_cases h0 : j = 0
    · subst h0; rw [H.hd] at he; cases he
      rw [H.hw]; exact ⟨rfl, fun _ h => by cases h⟩
    · obtain ⟨p, b, f, hp, hb, hf, rfl, _⟩ := H.tl j e (by omega) he
      obtain ⟨h1, h2⟩ := ih p hp f hf
      exact ⟨by dsimp only; rw [rn_snoc, h1], h2.snoc hb⟩

/-- Every word leads to an entry of a word not greater, or isn't less than the front's. -/
theorem BInv.reach (H : BInv δ L e0 q i 0) : ∀ v : List Nat, Wd L v → (∃ e ∈ q, e.x = rn δ e0.x v ∧ sle e.w v) ∨ (∃ e, q[i]? = some e ∧ sle e.w v) := by
  intro v
  generalize hn : v.length = n
  induction n generalizing v with
  | zero =>
    intro _
    obtain rfl := List.length_eq_zero_iff.1 hn
    exact .inl ⟨e0, List.mem_iff_getElem?.2 ⟨0, H.hd⟩, rfl, .inl H.hw⟩
  | succ n ih =>
    intro hv
    obtain ⟨u, b, rfl⟩ : ∃ u b, v = u ++ [b] := ⟨v.dropLast, v.getLast (by intro h; simp [h] at hn), (List.dropLast_concat_getLast _).symm⟩
    obtain ⟨hu, hb⟩ := Wd.append.1 hv
    rcases ih u (by simpa using hn) hu with ⟨e, he, hx, hle⟩ | ⟨e, he, hle⟩
    · obtain ⟨j, hj⟩ := List.mem_iff_getElem?.1 he
      by_cases hji : j < i
      · obtain ⟨f, hf, k1, k2⟩ := H.cl j b e hj (hb b (by simp)) (.inl hji)
        exact .inl ⟨f, hf, by rw [k1, rn_snoc, hx], sle_trans k2 (sle_snoc b hle)⟩
      · have hjl := (List.getElem?_eq_some_iff.1 hj).1
        have hil : i < q.length := by omega
        refine .inr ⟨q[i], List.getElem?_eq_getElem hil, ?_⟩
        have h1 : sle q[i].w e.w := by
          by_cases hij : i = j
          · subst hij; rw [List.getElem?_eq_getElem hil] at hj; cases hj; exact .inl rfl
          · exact .inr (H.srt i j _ _ (by omega) (List.getElem?_eq_getElem hil) hj)
        exact .inr (sl_of_sle_sl (sle_trans h1 hle) (sl_self_snoc u b))
    · exact .inr ⟨e, he, .inr (sl_of_sle_sl hle (sl_self_snoc u b))⟩

theorem BInv.done (H : BInv δ L e0 q q.length 0) (v : List Nat) (hv : Wd L v) : ∃ e ∈ q, e.x = rn δ e0.x v ∧ sle e.w v := by
  rcases H.reach v hv with h | ⟨e, he, _⟩
  · exact h
  · rw [List.getElem?_eq_none (by omega)] at he; cases he
end
end Go.Proofs.Yteblfhhhbfodgaa.Sim
