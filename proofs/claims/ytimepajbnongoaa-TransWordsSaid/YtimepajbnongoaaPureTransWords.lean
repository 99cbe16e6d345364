/- The transformation of any word, as the reference has it; that of a concatenation is the product. -/
import Derived.Test.YtimepajbnongoaaPTransWordsx
import Derived.Test.YtimepajbnongoaaBase
namespace Go.Proofs.Ytimepajbnongoaa.Pure
open Go.RowKit Go.Proofs.Ytimepajbnongoaa.PTransWords Go.Proofs.YtimepajbnongoaaW.PrintWords Go.Proofs.YtimepajbnongoaaW.PrintLast Go.Proofs.YtimepajbnongoaaW.PrintMore Go.Proofs.Ytimepajbnongoaa.Base

/-! Words: strings of small letters, as lists of the letters' numbers. -/
/-- The letters of a string, from 'a' on. -/
def wlet (s : ByteArray) : List Int := s.data.toList.map (fun b => (b.toNat : Int) - 97)
theorem wlet_length (s : ByteArray) : (wlet s).length = s.size := by
  rw [wlet, List.length_map, Array.length_toList]; rfl
theorem wlet_get (s : ByteArray) {i : Nat} (h : i < (wlet s).length) : (wlet s)[i] = bt s (i : Int) - 97 := by
  have hs : i < s.size := by rwa [wlet_length] at h
  have := bt_at s (i : Int) (by simpa using hs)
  rw [← this]
  simp [wlet]; rfl
theorem wlet_append (s t : ByteArray) : wlet (s ++ t) = wlet s ++ wlet t := by
  simp [wlet, ByteArray.data_append]
/-- Words over the first L letters. -/
def isW (s : ByteArray) (L : Int) : Bool := decide (1 ≤ L) && decide (L ≤ 6) && decide (s.size ≤ 2048) && (wlet s).all (fun x => decide (0 ≤ x) && decide (x < L))
theorem isW_iff {s : ByteArray} {L : Int} : isW s L = true ↔ 1 ≤ L ∧ L ≤ 6 ∧ s.size ≤ 2048 ∧ ∀ x ∈ wlet s, 0 ≤ x ∧ x < L := by simp [isW, and_assoc]
theorem isW_left {s t : ByteArray} {L : Int} (h : isW (s ++ t) L = true) : isW s L = true := by
  obtain ⟨h1, h2, h3, h4⟩ := isW_iff.1 h
  rw [wlet_append] at h4
  rw [ByteArray.size_append] at h3
  exact isW_iff.2 ⟨h1, h2, by omega, fun x hx => h4 x (List.mem_append_left _ hx)⟩
theorem isW_bt {s : ByteArray} {L : Int} (h : isW s L = true) {i : Nat} (hi : i < s.size) : 97 ≤ bt s (i : Int) ∧ bt s (i : Int) - 97 < L ∧ bt s (i : Int) - 97 = (wlet s)[i]'(by rw [wlet_length]; exact hi) := by
  obtain ⟨_, _, _, h4⟩ := isW_iff.1 h
  have e := wlet_get s (i := i) (by rw [wlet_length]; exact hi)
  have := h4 _ (List.getElem_mem (by rw [wlet_length]; exact hi : i < (wlet s).length))
  rw [e] at this
  exact ⟨by omega, this.2, e.symm⟩
/-- Generators: transformations of the same points. -/
def isG (gens : List (List Int)) : Bool := decide (1 ≤ gens.length) && decide (gens.length ≤ 6) && gens.all (fun g => isT g && decide (g.length = (rdR gens 0).length))
theorem isG_iff {gens : List (List Int)} : isG gens = true ↔ 1 ≤ gens.length ∧ gens.length ≤ 6 ∧ ∀ g ∈ gens, isT g = true ∧ g.length = (rdR gens 0).length := by simp [isG, and_assoc]
/-- The transformation of a list of letters, behind another one. -/
def wTo (gens : List (List Int)) (xs : List Int) (a : List Int) : List Int := xs.foldl (fun acc x => cmp acc (rdR gens x)) a
/-- The transformation of a list of letters. -/
def wT (gens : List (List Int)) (xs : List Int) : List Int := wTo gens xs (iota (rdR gens 0).length)
theorem wTo_isTr {gens : List (List Int)} {n : Nat} (hg : ∀ g ∈ gens, isTr n g) : ∀ (xs : List Int) (a : List Int), (∀ x ∈ xs, 0 ≤ x ∧ x < gens.length) → isTr n a → isTr n (wTo gens xs a)
  | [], _, _, ha => ha
  | x :: xs, a, hx, ha => by
    have h1 := hx x List.mem_cons_self
    exact wTo_isTr hg xs _ (fun y hy => hx y (List.mem_cons_of_mem _ hy)) (isTr_cmp ha (hg _ (rdR_mem h1.1 h1.2)))
theorem wTo_cmp {gens : List (List Int)} {n : Nat} (hg : ∀ g ∈ gens, isTr n g) : ∀ (xs : List Int) (a b : List Int), (∀ x ∈ xs, 0 ≤ x ∧ x < gens.length) → isTr n a → isTr n b → wTo gens xs (cmp a b) = cmp a (wTo gens xs b)
  | [], _, _, _, _, _ => rfl
  | x :: xs, a, b, hx, ha, hb => by
    have h1 := hx x List.mem_cons_self
    have hgx := hg _ (rdR_mem h1.1 h1.2)
    show wTo gens xs (cmp (cmp a b) (rdR gens x)) = cmp a (wTo gens xs (cmp b (rdR gens x)))
    rw [cmp_assoc (by rw [hb.1]; exact ha.2)]
    exact wTo_cmp hg xs a _ (fun y hy => hx y (List.mem_cons_of_mem _ hy)) ha (isTr_cmp hb hgx)
theorem wT_append {gens : List (List Int)} {n : Nat} (hn : (rdR gens 0).length = n) (hg : ∀ g ∈ gens, isTr n g) {xs ys : List Int} (hx : ∀ x ∈ xs, 0 ≤ x ∧ x < gens.length) (hy : ∀ x ∈ ys, 0 ≤ x ∧ x < gens.length) : wT gens (xs ++ ys) = cmp (wT gens xs) (wT gens ys) := by
  have ht := wTo_isTr hg xs (iota n) hx (isTr_iota n)
  have := wTo_cmp hg ys (wTo gens xs (iota n)) (iota n) hy ht (isTr_iota n)
  rw [cmp_iota (n := n) ht.2] at this
  unfold wT
  rw [hn, ← this]
  unfold wTo
  rw [List.foldl_append]
theorem isG_tr {gens : List (List Int)} (h : isG gens = true) : 1 ≤ (rdR gens 0).length ∧ (rdR gens 0).length ≤ 32 ∧ ∀ g ∈ gens, isTr (rdR gens 0).length g := by
  obtain ⟨h1, _, h3⟩ := isG_iff.1 h
  have h0 := h3 (rdR gens 0) (rdR_mem (by omega) (by omega))
  obtain ⟨a, b, _⟩ := isT_iff.1 h0.1
  exact ⟨a, b, fun g hg => by have := h3 g hg; rw [← this.2]; exact isTr_of this.1⟩
theorem word_Valid_loop (s : ByteArray) (L : Int) (hs : s.size ≤ 2048) (d : Nat) : ∀ i : Nat, i + d = s.size → Ev (fun k => word_Valid.l0 k s L (i : Int)) (((wlet s).drop i).all (fun x => decide (0 ≤ x) && decide (x < L))) := by
  have hw := wlet_length s
  induction d with
  | zero =>
    intro i hd
    refine Ev.step (fun _ => word_Valid.l0.eq_2 ..) (ev_neg (by omega) (ev_some ?_))
    rw [List.drop_eq_nil_of_le (by omega)]; rfl
  | succ d ih =>
    intro i hd
    have hi : i < (wlet s).length := by omega
    have hb := bt_range s (i : Int)
    have hg := wlet_get s hi
    refine Ev.step (fun _ => word_Valid.l0.eq_2 ..) (ev_pos (by omega) (ev_pos (by omega) ?_))
    rw [List.drop_eq_getElem_cons hi, List.all_cons]
    refine ev_ite (fun h => ev_some ?_) (fun h => ev_ite (fun h2 => ev_some ?_) (fun h2 => ?_))
    · rw [decide_eq_false (show ¬ (0 ≤ (wlet s)[i]) by omega)]; rfl
    · rw [decide_eq_false (show ¬ ((wlet s)[i] < L) by omega), Bool.and_false]; rfl
    · rw [decide_eq_true (show 0 ≤ (wlet s)[i] by omega), decide_eq_true (show (wlet s)[i] < L by omega), wrap64_nat (by omega) (by omega)]
      exact ih (i + 1) (by omega)
theorem word_Valid_ev (s : ByteArray) (L : Int) : Ev (fun k => word_Valid.f k s L) (isW s L) := by
  have no : ∀ b : Bool, b = true → isW s L = false → Ev (fun k => word_Valid.j0 k s L b) (isW s L) := by
    intro b hb hn
    refine Ev.step (fun _ => word_Valid.j0.eq_2 ..) (ev_pos hb (ev_some hn.symm))
  have nw : ¬ (1 ≤ L ∧ L ≤ 6 ∧ s.size ≤ 2048) → isW s L = false := by
    intro h
    rw [← Bool.not_eq_true, isW_iff]
    exact fun h2 => h ⟨h2.1, h2.2.1, h2.2.2.1⟩
  unfold word_Valid.f
  refine ev_ite (fun h => no _ rfl (nw (by omega))) (fun h => ev_ite (fun h2 => no _ rfl (nw (by omega))) (fun h2 => ?_))
  by_cases h3 : (s.size : Int) > 2048
  · exact no _ (decide_eq_true h3) (nw (by omega))
  · refine Ev.step (fun _ => word_Valid.j0.eq_2 ..) (ev_neg (by simpa using h3) ?_)
    have := word_Valid_loop s L (by omega) s.size 0 (by omega)
    refine ev_to this ?_
    rw [List.drop_zero, isW, decide_eq_true (show 1 ≤ L by omega), decide_eq_true (show L ≤ 6 by omega), decide_eq_true (show s.size ≤ 2048 by omega)]; rfl
/-! partition_Discrete: 0, 1, .. -/
theorem partition_Discrete_loop (n : Nat) (hl : n ≤ 35184372088832) (d : Nat) : ∀ i : Nat, i + d = n → Ev (fun k => partition_Discrete.l0 k (fillAt (iota n) 0 i) (n : Int) (i : Int)) (iota n) := by
  have hn := iota_length n
  induction d with
  | zero =>
    intro i hd
    refine Ev.step (fun _ => partition_Discrete.l0.eq_2 ..) (ev_neg (by omega) (ev_some ?_))
    rw [show i = (iota n).length by omega, fillAt_all]
  | succ d ih =>
    intro i hd
    refine Ev.step (fun _ => partition_Discrete.l0.eq_2 ..) (ev_pos (by omega) (ev_pos (by omega) (ev_pos (by rw [fillAt_length _ _ (by omega)]; omega) ?_)))
    have hi : i < (iota n).length := by omega
    have e : (i : Int) = (iota n)[i] := (iota_get hi).symm
    have h := ih (i + 1) (by omega)
    rw [← fillAt_set _ _ hi, ← e] at h
    rw [wrap64_nat (by omega) (by omega), Int.toNat_natCast]
    exact h
theorem partition_Discrete_ev (n : Int) (h0 : 0 ≤ n) (h1 : n ≤ 4096) : Ev (fun k => partition_Discrete.f k n) (iota n.toNat) := by
  unfold partition_Discrete.f
  refine ev_neg (by omega) (Ev.step (fun _ => partition_Discrete.j0.eq_2 ..) (ev_neg (by simp; omega) (ev_pos h0 (ev_pos (by omega) (ev_bind1 ?_)))))
  have h := partition_Discrete_loop n.toNat (by omega) n.toNat 0 (by omega)
  rw [fillAt_zero, iota_length] at h
  rw [List.length_replicate]
  exact h
/-- trans_Identity -/
def idT (n : Int) : List Int := if 1 ≤ n ∧ n ≤ 32 then iota n.toNat else []
theorem trans_Identity_ev (n : Int) : Ev (fun k => trans_Identity.f k n) (idT n) := by
  unfold trans_Identity.f idT
  refine ev_ite (fun h => ev_some (by rw [if_neg (by omega)])) (fun h => ev_ite (fun h2 => ev_some (by rw [if_neg (by omega)])) (fun h2 => ?_))
  rw [if_pos (by omega)]
  exact ev_bind _ (partition_Discrete_ev n (by omega) (by omega)) (ev_some rfl)
/-! trans_Valid: is it a transformation -/

theorem trans_Valid_loop (l : List Int) (hl : l.length ≤ 32) (d : Nat) : ∀ i : Nat, i + d = l.length → Ev (fun k => trans_Valid.l0 k l l (l.length : Int) (i : Int)) ((l.drop i).all (fun x => decide (0 ≤ x) && decide (x < l.length))) := by
  induction d with
  | zero =>
    intro i hd
    refine Ev.step (fun _ => trans_Valid.l0.eq_2 ..) (ev_neg (by omega) (ev_some ?_))
    rw [List.drop_eq_nil_of_le (by omega)]; rfl
  | succ d ih =>
    intro i hd
    refine Ev.step (fun _ => trans_Valid.l0.eq_2 ..) (ev_pos (by omega) (ev_pos (by omega) (ev_pos (by omega) ?_)))
    rw [List.drop_eq_getElem_cons (show i < l.length by omega), List.all_cons, rd_lt (show i < l.length by omega)]
    refine ev_ite (fun h => ev_some ?_) (fun h => ev_ite (fun h2 => ev_some ?_) (fun h2 => ?_))
    · rw [decide_eq_false (show ¬ (0 ≤ l[i]) by omega)]; rfl
    · rw [decide_eq_false (show ¬ (l[i] < l.length) by omega), Bool.and_false]; rfl
    · rw [decide_eq_true (show 0 ≤ l[i] by omega), decide_eq_true (show l[i] < l.length by omega), wrap64_nat (by omega) (by omega)]
      exact ih (i + 1) (by omega)
theorem trans_Valid_ev (l : List Int) : Ev (fun k => trans_Valid.f k l) (isT l) := by
  unfold trans_Valid.f isT
  refine ev_ite (fun h => ?_) (fun h => ?_)
  · refine Ev.step (fun _ => trans_Valid.j0.eq_2 ..) (ev_pos rfl (ev_some ?_))
    rw [decide_eq_false (show ¬ (1 ≤ l.length) by omega)]; rfl
  · refine Ev.step (fun _ => trans_Valid.j0.eq_2 ..) (ev_ite (fun h2 => ev_some ?_) (fun h2 => ?_))
    · rw [decide_eq_false (show ¬ (l.length ≤ 32) by simp at h2; omega)]; simp
    · have h3 : l.length ≤ 32 := by simp at h2; omega
      rw [decide_eq_true h3, decide_eq_true (show 1 ≤ l.length by omega)]
      exact trans_Valid_loop l h3 l.length 0 (by omega)
/-! trans_compose: the product -/
theorem trans_compose_loop (f g : List Int) (hl : f.length ≤ 35184372088832) (h : ∀ x ∈ f, 0 ≤ x ∧ x < g.length) (d : Nat) : ∀ i : Nat, i + d = f.length → Ev (fun k => trans_compose.l0 k g (fillAt (cmp f g) 0 i) f (f.length : Int) (i : Int)) (cmp f g) := by
  have hc : (cmp f g).length = f.length := cmp_length f g
  induction d with
  | zero =>
    intro i hd
    refine Ev.step (fun _ => trans_compose.l0.eq_2 ..) (ev_neg (by omega) (ev_some ?_))
    rw [show i = (cmp f g).length by omega, fillAt_all]
  | succ d ih =>
    intro i hd
    have hi : i < f.length := by omega
    have hx := h f[i] (List.getElem_mem hi)
    refine Ev.step (fun _ => trans_compose.l0.eq_2 ..) (ev_pos (by omega) (ev_pos (by omega) (ev_pos (by omega) ?_)))
    rw [rd_lt hi]
    refine ev_pos hx.1 (ev_pos hx.2 (ev_pos (by rw [fillAt_length _ _ (by omega)]; omega) ?_))
    have e : rd g f[i] = (cmp f g)[i] := by simp [cmp]
    rw [wrap64_nat (by omega) (by omega), e, Int.toNat_natCast, fillAt_set _ _ (by omega)]
    exact ih (i + 1) (by omega)
theorem trans_compose_ev (f g : List Int) (hl : f.length ≤ 35184372088832) (h : ∀ x ∈ f, 0 ≤ x ∧ x < g.length) : Ev (fun k => trans_compose.f k f g) (cmp f g) := by
  unfold trans_compose.f
  refine ev_pos (by omega) (ev_pos (by omega) ?_)
  have := trans_compose_loop f g hl h f.length 0 (by omega)
  rwa [fillAt_zero, cmp_length] at this
theorem decode_w {s : ByteArray} {L : Int} (h : isW s L = true) {i : Nat} (hi : i < s.size) : Utf8.decode s i = ((bt s (i : Int)).toNat, 1) := by
  obtain ⟨h1, h2, _⟩ := isW_bt h hi
  have hL := (isW_iff.1 h).2.1
  have e := bt_at s (i : Int) (by simpa using hi)
  have e' : ((s[i]'hi).toNat : Int) = bt s (i : Int) := e
  rw [decode_ascii s i hi (by omega)]
  congr 1
  omega
theorem trans_OfWord_run {gens : List (List Int)} {n : Nat} (hn : n ≤ 32) (hg : ∀ g ∈ gens, isTr n g) {s : ByteArray} (hw : isW s gens.length = true) (d : Nat) : ∀ (i : Nat) (a : List Int), i + d = s.size → isTr n a → Ev (fun k => trans_OfWord.l1 k gens a s i) (wTo gens ((wlet s).drop i) a) := by
  have hwl := wlet_length s
  induction d with
  | zero =>
    intro i a hd _
    refine Ev.step (fun _ => trans_OfWord.l1.eq_2 ..) (ev_neg (by omega) (ev_some ?_))
    rw [List.drop_eq_nil_of_le (by omega)]; rfl
  | succ d ih =>
    intro i a hd ha
    have hi : i < s.size := by omega
    obtain ⟨h1, h2, h3⟩ := isW_bt hw hi
    have hL := (isW_iff.1 hw).2.1
    have e : wrap32 (((Utf8.decode s i).1 : Int) - 97) = (wlet s)[i]'(by omega) := by
      rw [decode_w hw hi, ← h3]
      show wrap32 (((bt s (i : Int)).toNat : Int) - 97) = _
      rw [Int.toNat_of_nonneg (by omega)]
      unfold wrap32; omega
    have e2 : (Utf8.decode s i).2 = 1 := by rw [decode_w hw hi]
    have hx : 0 ≤ (wlet s)[i]'(by omega) ∧ (wlet s)[i]'(by omega) < gens.length := by omega
    have hgx : isTr n (rdR gens ((wlet s)[i]'(by omega))) := hg _ (rdR_mem hx.1 hx.2)
    refine Ev.step (fun _ => trans_OfWord.l1.eq_2 ..) (ev_pos hi ?_)
    rw [e, e2, List.drop_eq_getElem_cons (show i < (wlet s).length by omega)]
    refine ev_pos hx.1 (ev_pos hx.2 (ev_bind _ (trans_compose_ev a _ (by rw [ha.1]; omega) ?_) (ih (i + 1) _ (by omega) (isTr_cmp ha hgx))))
    show ∀ x ∈ a, 0 ≤ x ∧ x < (rdR gens ((wlet s)[i]'(by omega))).length
    rw [hgx.1]; exact ha.2
/-- trans_OfWord -/
def ofW (gens : List (List Int)) (s : ByteArray) : List Int := if isG gens = true ∧ isW s gens.length = true then wT gens (wlet s) else []
theorem trans_OfWord_gens {gens : List (List Int)} {s : ByteArray} (hw : isW s gens.length = true) (d : Nat) : ∀ i : Nat, i + d = gens.length → (∀ g ∈ gens.take i, isT g = true ∧ g.length = (rdR gens 0).length) → Ev (fun k => trans_OfWord.l0 k gens s gens (gens.length : Int) (i : Int)) (ofW gens s) := by
  obtain ⟨w1, w2, _, _⟩ := isW_iff.1 hw
  have hno : ∀ i (h : i < gens.length), ¬ (isT gens[i] = true ∧ gens[i].length = (rdR gens 0).length) → ofW gens s = [] := by
    intro i h hn
    rw [ofW, if_neg]
    rintro ⟨h1, _⟩
    exact hn ((isG_iff.1 h1).2.2 _ (List.getElem_mem h))
  induction d with
  | zero =>
    intro i hd hall
    obtain rfl : i = gens.length := by omega
    rw [List.take_length] at hall
    have hG : isG gens = true := isG_iff.2 ⟨by omega, by omega, hall⟩
    obtain ⟨g1, g2, g3⟩ := isG_tr hG
    refine Ev.step (fun _ => trans_OfWord.l0.eq_2 ..) (ev_neg (by omega) (ev_pos (by omega) ?_))
    have hi := trans_Identity_ev ((rdR gens 0).length : Int)
    rw [idT, if_pos (by omega), Int.toNat_natCast] at hi
    have hr := trans_OfWord_run g2 g3 hw s.size 0 (iota (rdR gens 0).length) (by omega) (isTr_iota _)
    rw [ofW, if_pos ⟨hG, hw⟩]
    exact ev_bind _ hi hr
  | succ d ih =>
    intro i hd hall
    have hi : i < gens.length := by omega
    have er : rd_L1 gens (i : Int) = gens[i] := rdR_lt hi
    refine Ev.step (fun _ => trans_OfWord.l0.eq_2 ..) (ev_pos (by omega) (ev_pos (by omega) (ev_pos (by omega) ?_)))
    rw [er, wrap64_nat (by omega) (by omega)]
    refine ev_bind _ (trans_Valid_ev _) (ev_ite (fun h => ev_pos (by omega) (ev_ite (fun h2 => ?_) (fun h2 => ev_some ?_))) (fun h => ev_some ?_))
    · refine ih (i + 1) (by omega) (fun g hg => ?_)
      rw [List.take_succ_eq_append_getElem hi] at hg
      rcases List.mem_append.1 hg with hg | hg
      · exact hall g hg
      · rw [List.mem_singleton.1 hg]
        have h2' : (gens[i].length : Int) = ((rdR gens 0).length : Int) := h2
        exact ⟨h, by omega⟩
    · refine (hno i hi (fun h3 => h2 ?_)).symm
      show (gens[i].length : Int) = ((rdR gens 0).length : Int)
      omega
    · exact (hno i hi (fun h3 => h h3.1)).symm
theorem trans_OfWord_ev (gens : List (List Int)) (s : ByteArray) : Ev (fun k => trans_OfWord.f k gens s) (ofW gens s) := by
  have no : ∀ b : Bool, b = true → ofW gens s = [] → Ev (fun k => trans_OfWord.j0 k gens s b) (ofW gens s) := by
    intro b hb hn
    exact Ev.step (fun _ => trans_OfWord.j0.eq_2 ..) (ev_pos hb (ev_some hn.symm))
  unfold trans_OfWord.f
  refine ev_ite (fun h => no _ rfl ?_) (fun h => ev_ite (fun h2 => no _ rfl ?_) (fun h2 => ev_bind _ (word_Valid_ev s _) ?_))
  · rw [ofW, if_neg]; rintro ⟨h1, _⟩; have := (isG_iff.1 h1).1; omega
  · rw [ofW, if_neg]; rintro ⟨h1, _⟩; have := (isG_iff.1 h1).2.1; omega
  · by_cases hw : isW s gens.length = true
    · rw [hw]
      exact Ev.step (fun _ => trans_OfWord.j0.eq_2 ..) (ev_neg (by simp) (trans_OfWord_gens hw gens.length 0 (by omega) (by simp)))
    · exact no _ (by simp [hw]) (by rw [ofW, if_neg]; exact fun h => hw h.2)
theorem semigroupref01_Valid_loop (s : ByteArray) (L : Int) (hs : s.size ≤ 2048) (d : Nat) : ∀ i : Nat, i + d = s.size → Ev (fun k => semigroupref01_Valid.l0 k s L (i : Int)) (((wlet s).drop i).all (fun x => decide (0 ≤ x) && decide (x < L))) := by
  have hw := wlet_length s
  induction d with
  | zero =>
    intro i hd
    refine Ev.step (fun _ => semigroupref01_Valid.l0.eq_2 ..) (ev_neg (by omega) (ev_some ?_))
    rw [List.drop_eq_nil_of_le (by omega)]; rfl
  | succ d ih =>
    intro i hd
    have hi : i < (wlet s).length := by omega
    have hb := bt_range s (i : Int)
    have hg := wlet_get s hi
    refine Ev.step (fun _ => semigroupref01_Valid.l0.eq_2 ..) (ev_pos (by omega) (ev_pos (by omega) ?_))
    rw [List.drop_eq_getElem_cons hi, List.all_cons]
    refine ev_ite (fun h => ev_some ?_) (fun h => ev_ite (fun h2 => ev_some ?_) (fun h2 => ?_))
    · rw [decide_eq_false (show ¬ (0 ≤ (wlet s)[i]) by omega)]; rfl
    · rw [decide_eq_false (show ¬ ((wlet s)[i] < L) by omega), Bool.and_false]; rfl
    · rw [decide_eq_true (show 0 ≤ (wlet s)[i] by omega), decide_eq_true (show (wlet s)[i] < L by omega), wrap64_nat (by omega) (by omega)]
      exact ih (i + 1) (by omega)
theorem semigroupref01_Valid_ev (s : ByteArray) (L : Int) : Ev (fun k => semigroupref01_Valid.f k s L) (isW s L) := by
  have no : ∀ b : Bool, b = true → isW s L = false → Ev (fun k => semigroupref01_Valid.j0 k s L b) (isW s L) := by
    intro b hb hn
    refine Ev.step (fun _ => semigroupref01_Valid.j0.eq_2 ..) (ev_pos hb (ev_some hn.symm))
  have nw : ¬ (1 ≤ L ∧ L ≤ 6 ∧ s.size ≤ 2048) → isW s L = false := by
    intro h
    rw [← Bool.not_eq_true, isW_iff]
    exact fun h2 => h ⟨h2.1, h2.2.1, h2.2.2.1⟩
  have hml : Ev (fun _ => semigroupref01_MayLetters.f L) (decide (1 ≤ L ∧ L ≤ 6)) := by
    unfold semigroupref01_MayLetters.f
    refine ev_ite (fun h => ev_some ?_) (fun h => ev_some ?_)
    · exact decide_eq_decide.2 ⟨fun h2 => ⟨by omega, h2⟩, fun h2 => h2.2⟩
    · exact (decide_eq_false (by omega)).symm
  unfold semigroupref01_Valid.f
  refine ev_bind _ hml (ev_ite (fun h => ?_) (fun h => no _ rfl (nw (fun h2 => h (decide_eq_true ⟨h2.1, h2.2.1⟩)))))
  have h := of_decide_eq_true h
  by_cases h3 : (s.size : Int) > 2048
  · exact no _ (decide_eq_true h3) (nw (by omega))
  · refine Ev.step (fun _ => semigroupref01_Valid.j0.eq_2 ..) (ev_neg (by simpa using h3) ?_)
    have := semigroupref01_Valid_loop s L (by omega) s.size 0 (by omega)
    refine ev_to this ?_
    rw [List.drop_zero, isW, decide_eq_true h.1, decide_eq_true h.2, decide_eq_true (show s.size ≤ 2048 by omega)]; rfl
/-! semigroupref03_Discrete: 0, 1, .. -/
theorem semigroupref03_Discrete_loop (n : Nat) (hl : n ≤ 35184372088832) (d : Nat) : ∀ i : Nat, i + d = n → Ev (fun k => semigroupref03_Discrete.l0 k (fillAt (iota n) 0 i) (n : Int) (i : Int)) (iota n) := by
  have hn := iota_length n
  induction d with
  | zero =>
    intro i hd
    refine Ev.step (fun _ => semigroupref03_Discrete.l0.eq_2 ..) (ev_neg (by omega) (ev_some ?_))
    rw [show i = (iota n).length by omega, fillAt_all]
  | succ d ih =>
    intro i hd
    refine Ev.step (fun _ => semigroupref03_Discrete.l0.eq_2 ..) (ev_pos (by omega) (ev_pos (by omega) (ev_pos (by rw [fillAt_length _ _ (by omega)]; omega) ?_)))
    have hi : i < (iota n).length := by omega
    have e : (i : Int) = (iota n)[i] := (iota_get hi).symm
    have h := ih (i + 1) (by omega)
    rw [← fillAt_set _ _ hi, ← e] at h
    rw [wrap64_nat (by omega) (by omega), Int.toNat_natCast]
    exact h
theorem semigroupref03_Discrete_ev (n : Int) (h0 : 0 ≤ n) (h1 : n ≤ 35184372088832) : Ev (fun k => semigroupref03_Discrete.f k n) (iota n.toNat) := by
  unfold semigroupref03_Discrete.f
  refine ev_pos h0 (ev_pos (by omega) (ev_bind1 ?_))
  have h := semigroupref03_Discrete_loop n.toNat (by omega) n.toNat 0 (by omega)
  rw [fillAt_zero, iota_length] at h
  rw [List.length_replicate]
  exact h
/-! semigroupref11_Valid: is it a transformation -/

theorem semigroupref11_Valid_loop (l : List Int) (hl : l.length ≤ 32) (d : Nat) : ∀ i : Nat, i + d = l.length → Ev (fun k => semigroupref11_Valid.l0 k l l (l.length : Int) (i : Int)) ((l.drop i).all (fun x => decide (0 ≤ x) && decide (x < l.length))) := by
  induction d with
  | zero =>
    intro i hd
    refine Ev.step (fun _ => semigroupref11_Valid.l0.eq_2 ..) (ev_neg (by omega) (ev_some ?_))
    rw [List.drop_eq_nil_of_le (by omega)]; rfl
  | succ d ih =>
    intro i hd
    refine Ev.step (fun _ => semigroupref11_Valid.l0.eq_2 ..) (ev_pos (by omega) (ev_pos (by omega) (ev_pos (by omega) ?_)))
    rw [List.drop_eq_getElem_cons (show i < l.length by omega), List.all_cons, rd_lt (show i < l.length by omega)]
    refine ev_ite (fun h => ev_some ?_) (fun h => ev_ite (fun h2 => ev_some ?_) (fun h2 => ?_))
    · rw [decide_eq_false (show ¬ (0 ≤ l[i]) by omega)]; rfl
    · rw [decide_eq_false (show ¬ (l[i] < l.length) by omega), Bool.and_false]; rfl
    · rw [decide_eq_true (show 0 ≤ l[i] by omega), decide_eq_true (show l[i] < l.length by omega), wrap64_nat (by omega) (by omega)]
      exact ih (i + 1) (by omega)
theorem semigroupref11_Valid_ev (l : List Int) : Ev (fun k => semigroupref11_Valid.f k l) (isT l) := by
  unfold semigroupref11_Valid.f isT
  refine ev_ite (fun h => ?_) (fun h => ?_)
  · refine Ev.step (fun _ => semigroupref11_Valid.j0.eq_2 ..) (ev_pos rfl (ev_some ?_))
    rw [decide_eq_false (show ¬ (1 ≤ l.length) by omega)]; rfl
  · refine Ev.step (fun _ => semigroupref11_Valid.j0.eq_2 ..) (ev_ite (fun h2 => ev_some ?_) (fun h2 => ?_))
    · rw [decide_eq_false (show ¬ (l.length ≤ 32) by simp at h2; omega)]; simp
    · have h3 : l.length ≤ 32 := by simp at h2; omega
      rw [decide_eq_true h3, decide_eq_true (show 1 ≤ l.length by omega)]
      exact semigroupref11_Valid_loop l h3 l.length 0 (by omega)
/-! semigroupref11_Compose: the product -/
theorem semigroupref11_Compose_loop (f g : List Int) (hl : f.length ≤ 35184372088832) (h : ∀ x ∈ f, 0 ≤ x ∧ x < g.length) (d : Nat) : ∀ i : Nat, i + d = f.length → Ev (fun k => semigroupref11_Compose.l0 k g (fillAt (cmp f g) 0 i) f (f.length : Int) (i : Int)) (cmp f g) := by
  have hc : (cmp f g).length = f.length := cmp_length f g
  induction d with
  | zero =>
    intro i hd
    refine Ev.step (fun _ => semigroupref11_Compose.l0.eq_2 ..) (ev_neg (by omega) (ev_some ?_))
    rw [show i = (cmp f g).length by omega, fillAt_all]
  | succ d ih =>
    intro i hd
    have hi : i < f.length := by omega
    have hx := h f[i] (List.getElem_mem hi)
    refine Ev.step (fun _ => semigroupref11_Compose.l0.eq_2 ..) (ev_pos (by omega) (ev_pos (by omega) (ev_pos (by omega) ?_)))
    rw [rd_lt hi]
    refine ev_pos hx.1 (ev_pos hx.2 (ev_pos (by rw [fillAt_length _ _ (by omega)]; omega) ?_))
    have e : rd g f[i] = (cmp f g)[i] := by simp [cmp]
    rw [wrap64_nat (by omega) (by omega), e, Int.toNat_natCast, fillAt_set _ _ (by omega)]
    exact ih (i + 1) (by omega)
theorem semigroupref11_Compose_ev (f g : List Int) (hl : f.length ≤ 35184372088832) (h : ∀ x ∈ f, 0 ≤ x ∧ x < g.length) : Ev (fun k => semigroupref11_Compose.f k f g) (cmp f g) := by
  unfold semigroupref11_Compose.f
  refine ev_pos (by omega) (ev_pos (by omega) ?_)
  have := semigroupref11_Compose_loop f g hl h f.length 0 (by omega)
  rwa [fillAt_zero, cmp_length] at this
theorem semigroupref11_MayGens_loop (gens : List (List Int)) (hl : gens.length ≤ 6) (h1 : 1 ≤ gens.length) (d : Nat) : ∀ i : Nat, i + d = gens.length → Ev (fun k => semigroupref11_MayGens.l0 k gens gens (gens.length : Int) (i : Int)) ((gens.drop i).all (fun g => isT g && decide (g.length = (rdR gens 0).length))) := by
  induction d with
  | zero =>
    intro i hd
    refine Ev.step (fun _ => semigroupref11_MayGens.l0.eq_2 ..) (ev_neg (by omega) (ev_some ?_))
    rw [List.drop_eq_nil_of_le (by omega)]; rfl
  | succ d ih =>
    intro i hd
    have hi : i < gens.length := by omega
    have er : rd_L1 gens (i : Int) = gens[i] := rdR_lt hi
    refine Ev.step (fun _ => semigroupref11_MayGens.l0.eq_2 ..) (ev_pos (by omega) (ev_pos (by omega) (ev_pos (by omega) ?_)))
    rw [er, wrap64_nat (by omega) (by omega), List.drop_eq_getElem_cons hi, List.all_cons]
    refine ev_bind _ (semigroupref11_Valid_ev _) (ev_ite (fun h => ev_pos (by omega) (ev_ite (fun h2 => ?_) (fun h2 => ev_some ?_))) (fun h => ev_some ?_))
    · have h2' : (gens[i].length : Int) = ((rdR gens 0).length : Int) := h2
      rw [h, decide_eq_true (show gens[i].length = (rdR gens 0).length by omega)]
      exact ih (i + 1) (by omega)
    · rw [decide_eq_false (show ¬ (gens[i].length = (rdR gens 0).length) from fun h3 => h2 (by show (gens[i].length : Int) = ((rdR gens 0).length : Int); omega)), Bool.and_false]; rfl
    · rw [Bool.not_eq_true] at h
      rw [h]; rfl
theorem semigroupref11_MayGens_ev (gens : List (List Int)) : Ev (fun k => semigroupref11_MayGens.f k gens) (isG gens) := by
  unfold semigroupref11_MayGens.f isG
  refine ev_ite (fun h => ?_) (fun h => ?_)
  · refine Ev.step (fun _ => semigroupref11_MayGens.j0.eq_2 ..) (ev_pos rfl (ev_some ?_))
    rw [decide_eq_false (show ¬ (1 ≤ gens.length) by omega)]; rfl
  · refine Ev.step (fun _ => semigroupref11_MayGens.j0.eq_2 ..) (ev_ite (fun h2 => ev_some ?_) (fun h2 => ?_))
    · rw [decide_eq_false (show ¬ (gens.length ≤ 6) by simp at h2; omega), Bool.and_false]; rfl
    · have := semigroupref11_MayGens_loop gens (by simp at h2; omega) (by omega) gens.length 0 (by omega)
      refine ev_to this ?_
      rw [List.drop_zero, decide_eq_true (show 1 ≤ gens.length by omega), decide_eq_true (show gens.length ≤ 6 by simp at h2; omega)]; rfl
theorem semigroupref11_OfWord_run {gens : List (List Int)} {n : Nat} (hn : n ≤ 32) (hg : ∀ g ∈ gens, isTr n g) {s : ByteArray} (hw : isW s gens.length = true) (d : Nat) : ∀ (i : Nat) (a : List Int), i + d = s.size → isTr n a → Ev (fun k => semigroupref11_OfWord.l0 k gens s a (i : Int)) (wTo gens ((wlet s).drop i) a) := by
  have hwl := wlet_length s
  have hs := (isW_iff.1 hw).2.2.1
  induction d with
  | zero =>
    intro i a hd _
    refine Ev.step (fun _ => semigroupref11_OfWord.l0.eq_2 ..) (ev_neg (by omega) (ev_some ?_))
    rw [List.drop_eq_nil_of_le (by omega)]; rfl
  | succ d ih =>
    intro i a hd ha
    have hi : i < s.size := by omega
    obtain ⟨h1, h2, h3⟩ := isW_bt hw hi
    have hL := (isW_iff.1 hw).2.1
    have e : ((bt s (i : Int)) - 97) % 256 = (wlet s)[i]'(by omega) := by rw [← h3]; omega
    have hx : 0 ≤ (wlet s)[i]'(by omega) ∧ (wlet s)[i]'(by omega) < gens.length := by omega
    have hgx : isTr n (rdR gens ((wlet s)[i]'(by omega))) := hg _ (rdR_mem hx.1 hx.2)
    refine Ev.step (fun _ => semigroupref11_OfWord.l0.eq_2 ..) (ev_pos (by omega) (ev_pos (by omega) ?_))
    rw [e, wrap64_nat (by omega) (by omega), List.drop_eq_getElem_cons (show i < (wlet s).length by omega)]
    refine ev_pos hx.1 (ev_pos hx.2 (ev_bind _ (semigroupref11_Compose_ev a _ (by rw [ha.1]; omega) ?_) (ih (i + 1) _ (by omega) (isTr_cmp ha hgx))))
    show ∀ x ∈ a, 0 ≤ x ∧ x < (rdR gens ((wlet s)[i]'(by omega))).length
    rw [hgx.1]; exact ha.2
theorem semigroupref11_OfWord_ev {gens : List (List Int)} {s : ByteArray} (hG : isG gens = true) (hw : isW s gens.length = true) : Ev (fun k => semigroupref11_OfWord.f k gens s) (wT gens (wlet s)) := by
  obtain ⟨g1, g2, g3⟩ := isG_tr hG
  have h1 := (isG_iff.1 hG).1
  unfold semigroupref11_OfWord.f
  have hd := semigroupref03_Discrete_ev ((rdR gens 0).length : Int) (by omega) (by omega)
  rw [Int.toNat_natCast] at hd
  exact ev_bind _ (semigroupref01_Valid_ev s _) (ev_pos hw (ev_pos (by omega) (ev_bind _ hd (semigroupref11_OfWord_run g2 g3 hw s.size 0 _ (by omega) (isTr_iota _)))))
/-! trans_Compose -/
def Comp (f g : List Int) : List Int := if f.length = g.length ∧ isT f = true ∧ isT g = true then cmp f g else []
theorem trans_Compose_ev (f g : List Int) : Ev (fun k => trans_Compose.f k f g) (Comp f g) := by
  unfold trans_Compose.f Comp
  refine ev_ite (fun h => ?_) (fun h => ev_some (by rw [if_neg (by omega)]))
  refine ev_bind _ (trans_Valid_ev f) (ev_ite (fun hf => ev_bind _ (trans_Valid_ev g) (ev_ite (fun hg => ?_) (fun hg => ev_some (by rw [if_neg (by simp [hg])])))) (fun hf => ev_some (by rw [if_neg (by simp [hf])])))
  obtain ⟨_, hl, hm⟩ := isT_iff.1 hf
  have hn : f.length = g.length := by omega
  refine ev_bind _ (trans_compose_ev f g (by omega) (fun x hx => by have := hm x hx; omega)) (ev_some ?_)
  rw [if_pos ⟨hn, hf, hg⟩]
/-! semigroupref03_Same: equal lists of numbers -/
theorem semigroupref03_Same_loop (a b : List Int) (hl : a.length ≤ 9223372036854775806) (he : a.length = b.length) (d : Nat) : ∀ i : Nat, i + d = a.length → Ev (fun k => semigroupref03_Same.l0 k a b (a.length : Int) (i : Int)) (decide (a.drop i = b.drop i)) := by
  induction d with
  | zero =>
    intro i hd
    refine Ev.step (fun _ => semigroupref03_Same.l0.eq_2 ..) (ev_neg (by omega) (ev_some ?_))
    rw [List.drop_eq_nil_of_le (by omega), List.drop_eq_nil_of_le (by omega)]; rfl
  | succ d ih =>
    intro i hd
    refine Ev.step (fun _ => semigroupref03_Same.l0.eq_2 ..) (ev_pos (by omega) (ev_pos (by omega) (ev_pos (by omega) (ev_pos (by omega) ?_))))
    rw [List.drop_eq_getElem_cons (show i < a.length by omega), List.drop_eq_getElem_cons (show i < b.length by omega), rd_lt (show i < a.length by omega), rd_lt (show i < b.length by omega)]
    refine ev_ite (fun h => ?_) (fun h => ev_some (decide_eq_false (fun e => h (List.cons.inj e).1)).symm)
    rw [wrap64_nat (by omega) (by omega)]
    refine ev_to (ih (i + 1) (by omega)) (decide_eq_decide.2 ⟨fun e => by rw [h, e], fun e => (List.cons.inj e).2⟩)
theorem semigroupref03_Same_ev (a b : List Int) (hl : a.length ≤ 9223372036854775806) : Ev (fun k => semigroupref03_Same.f k a b) (decide (a = b)) := by
  unfold semigroupref03_Same.f
  refine ev_ite (fun h => ?_) (fun h => ev_some ?_)
  · have := semigroupref03_Same_loop a b hl (by omega) a.length 0 (by omega)
    simpa using this
  · rw [decide_eq_false]
    rintro rfl
    exact h rfl
theorem awake_ev : Ev (fun k => semigrouplaw11_awake.f k) true := Ev.of (fun k => semigrouplaw11_awake.mono k) (k := 8) (by decide +kernel)
theorem TransWords : semigrouplaw11_TransWords.Pure := by
  intro gens u w _ hu hw0
  apply Ev.rounds
  unfold semigrouplaw11_TransWords.f
  refine ev_bind _ (trans_OfWord_ev gens w) (ev_bind _ (semigroupref11_MayGens_ev gens) (ev_ite (fun hG => ev_bind _ (semigroupref01_Valid_ev w _) ?_) (fun hG => ?_)))
  · by_cases hw : isW w gens.length = true
    · have hG' := isG_iff.1 hG
      obtain ⟨g1, g2, g3⟩ := isG_tr hG
      have lets : ∀ {s : ByteArray}, isW s gens.length = true → isTr (rdR gens 0).length (wT gens (wlet s)) := fun h => wTo_isTr g3 _ _ (isW_iff.1 h).2.2.2 (isTr_iota _)
      have ew : ofW gens w = wT gens (wlet w) := by rw [ofW, if_pos ⟨hG, hw⟩]
      rw [hw]
      refine Ev.step (fun _ => semigrouplaw11_TransWords.j0.eq_2 ..) (ev_neg (by simp) (ev_bind _ (semigroupref11_OfWord_ev hG hw) (ev_bind _ (semigroupref03_Same_ev _ _ (by rw [ew, (lets hw).1]; omega)) (ev_pos (by rw [ew]; simp) (ev_pos (by omega) (ev_bind _ (semigroupref01_Valid_ev (u ++ w) _) (ev_ite (fun huw => ?_) (fun _ => ev_bind _ awake_ev (ev_some rfl)))))))))
      have hu' := isW_left huw
      have eu : ofW gens u = wT gens (wlet u) := by rw [ofW, if_pos ⟨hG, hu'⟩]
      have euw : ofW gens (u ++ w) = cmp (wT gens (wlet u)) (wT gens (wlet w)) := by
        rw [ofW, if_pos ⟨hG, huw⟩, wlet_append]
        exact wT_append rfl g3 (isW_iff.1 hu').2.2.2 (isW_iff.1 hw).2.2.2
      refine ev_bind _ (trans_OfWord_ev gens (u ++ w)) (ev_bind _ (trans_OfWord_ev gens u) (ev_bind _ (trans_Compose_ev _ _) (ev_bind _ (semigroupref03_Same_ev _ _ (by rw [euw, cmp_length, (lets hu').1]; omega)) (ev_pos ?_ (ev_bind _ awake_ev (ev_some rfl))))))
      rw [euw, ew, eu, Comp, if_pos ⟨by rw [(lets hu').1, (lets hw).1], isT_of (lets hu') g1 g2, isT_of (lets hw) g1 g2⟩]
      simp
    · refine Ev.step (fun _ => semigrouplaw11_TransWords.j0.eq_2 ..) (ev_pos (by simp [hw]) (ev_pos ?_ (ev_bind _ awake_ev (ev_some rfl))))
      rw [ofW, if_neg (fun h => hw h.2)]; rfl
  · refine Ev.step (fun _ => semigrouplaw11_TransWords.j0.eq_2 ..) (ev_pos rfl (ev_pos ?_ (ev_bind _ awake_ev (ev_some rfl))))
    rw [ofW, if_neg (fun h => hG h.1)]; rfl

end Go.Proofs.Ytimepajbnongoaa.Pure
