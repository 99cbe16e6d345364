-- Plain proofs over the functions (texts of wip/sim/pure, expanded by macros.py).
import Derived.Test.YteblfhhhbfodgaaP3
set_option linter.unusedVariables false
set_option linter.unusedSimpArgs false
namespace Go.Proofs.Yteblfhhhbfodgaa.Sim
open Go
/-! ### Words that tell states apart are short -/
def pk (L : Int) (F : List Bool) (N : List (List Int)) : Nat → List Int
  | 0 => canL (finN F)
  | k + 1 => canL (sigs L F N (pk L F N k))
section
variable {L s : Int} {F : List Bool} {N : List (List Int)}
theorem pk_ref (H : DV L s F N) : ∀ k, Ref L F N (pk L F N k)
  | 0 => Ref.start
  | k + 1 => (pk_ref H k).next H (sigs_fine H)
theorem pk_word (H : DV L s F N) : ∀ k x y, InR F.length x → InR F.length y → cls (pk L F N k) x ≠ cls (pk L F N k) y → ∃ v, Wd L.toNat v ∧ v.length ≤ k ∧ fin F (rn (dl N) x v) ≠ fin F (rn (dl N) y v)
  | 0, x, y, hx, hy, h => by
    refine ⟨[], Wd.nil, by simp, fun e => h ?_⟩
    have h1 := hx.1; have h2 := hx.2; have h3 := hy.1; have h4 := hy.2
    have hl : (finN F).length = F.length := by simp [finN]
    unfold pk
    rw [cls_canL (by rw [hl]; exact hx) (by rw [hl]; exact hy)]
    have e1 : fin F x = F[x.toNat]'(by omega) := by unfold fin; simp [show x.toNat < F.length by omega]
    have e2 : fin F y = F[y.toNat]'(by omega) := by unfold fin; simp [show y.toNat < F.length by omega]
    have e' : fin F x = fin F y := e
    rw [e1, e2] at e'
    simp [finN, e']
  | k + 1, x, y, hx, hy, h => by
    have := (sigs_fine (p := pk L F N k) H).iff x y hx hy
    by_cases hc : cls (pk L F N k) x = cls (pk L F N k) y
    · obtain ⟨a, ha, hne⟩ : ∃ a, a < L.toNat ∧ cls (pk L F N k) (dl N x a) ≠ cls (pk L F N k) (dl N y a) := Classical.byContradiction fun hn =>
        h (this.2 ⟨hc, fun a ha => Classical.byContradiction fun hne => hn ⟨a, ha, hne⟩⟩)
      obtain ⟨v, h1, h2, h3⟩ := pk_word H k _ _ (H.dl_range hx.1 hx.2 ha) (H.dl_range hy.1 hy.2 ha) hne
      exact ⟨a :: v, fun b hb => by rcases List.mem_cons.1 hb with rfl | hb; exact ha; exact h1 b hb, by simp; omega, h3⟩
    · obtain ⟨v, h1, h2, h3⟩ := pk_word H k x y hx hy hc
      exact ⟨v, h1, by omega, h3⟩
theorem ncl_pos {K : Type} [DecidableEq K] {l : List K} (h : 0 < l.length) : 1 ≤ ncl l := by
  have : l[0] ∈ ordA [] l := (ordA_mem l [] _).2 (.inr (List.getElem_mem h))
  exact List.length_pos_of_mem this
theorem pk_grow (H : DV L s F N) : ∀ k, (∃ j, j ≤ k ∧ Cls L F N (pk L F N j)) ∨ k + 2 ≤ ncl (pk L F N (k + 1))
  | 0 => by
    have E := (pk_ref H 0).end_ H (sigs_fine (p := pk L F N 0) H)
    have h1 := ncl_pos (l := pk L F N 0) (by rw [(pk_ref H 0).len]; exact H.n1)
    by_cases h : ncl (canL (sigs L F N (pk L F N 0))) = ncl (pk L F N 0)
    · exact .inl ⟨0, Nat.le_refl _, E.1 h⟩
    · have := E.2; right; show 0 + 2 ≤ ncl (canL (sigs L F N (pk L F N 0))); omega
  | k + 1 => by
    rcases pk_grow H k with ⟨j, hj, C⟩ | h1
    · exact .inl ⟨j, by omega, C⟩
    · have E := (pk_ref H (k + 1)).end_ H (sigs_fine (p := pk L F N (k + 1)) H)
      by_cases h : ncl (canL (sigs L F N (pk L F N (k + 1)))) = ncl (pk L F N (k + 1))
      · exact .inl ⟨k + 1, Nat.le_refl _, E.1 h⟩
      · have := E.2; right; show k + 1 + 2 ≤ ncl (canL (sigs L F N (pk L F N (k + 1)))); omega
theorem moore (H : DV L s F N) {x y : Int} (hx : InR F.length x) (hy : InR F.length y) (hne : ¬ Eqv L F N x y) : ∃ v, Wd L.toNat v ∧ v.length < F.length ∧ fin F (rn (dl N) x v) ≠ fin F (rn (dl N) y v) := by
  have h1 := H.n1
  rcases pk_grow H (F.length - 1) with ⟨j, hj, C⟩ | h
  · obtain ⟨v, a1, a2, a3⟩ := pk_word H j x y hx hy (fun e => hne ((C.iff x y hx hy).1 e))
    exact ⟨v, a1, by omega, a3⟩
  · have h2 := ncl_le_length (pk L F N (F.length - 1 + 1))
    rw [(pk_ref H _).len] at h2
    omega
/-- What Distinguish answers. -/
theorem Least.cases (H : DV L s F N) {x y : Int} (hx : InR F.length x) (hy : InR F.length y) {r : ByteArray × Bool} (h : Least L F F N N x y r) :
    (∃ w, r = (wordOf w, true) ∧ Wd L.toNat w ∧ w.length < F.length ∧ fin F (rn (dl N) x w) ≠ fin F (rn (dl N) y w) ∧ ∀ v, Wd L.toNat v → fin F (rn (dl N) x v) ≠ fin F (rn (dl N) y v) → sle w v) ∨
    (r = (ByteArray.empty, false) ∧ Eqv L F N x y) := by
  rcases h with ⟨w, rfl, h1, h2, h3⟩ | h
  · obtain ⟨v, g1, g2, g3⟩ := moore H hx hy (fun e => h2 (e w h1))
    have := sle_len (h3 v g1 g3)
    exact .inl ⟨w, rfl, h1, by omega, h2, h3⟩
  · exact .inr h
end

/-! ### semigroupref01.Compare -/
theorem ba_loop (s : ByteArray) : ∀ (m i : Nat) (r : List UInt8), i + m = s.size → ByteArray.toList.loop s i r = r.reverse ++ s.data.toList.drop i
  | 0, i, r, h => by
    rw [ByteArray.toList.loop, if_neg (by omega), List.drop_of_length_le (by rw [Array.length_toList]; exact (show s.data.size = s.size from rfl) ▸ (by omega))]; simp
  | m + 1, i, r, h => by
    have hi : i < s.size := by omega
    have hi' : i < s.data.toList.length := by rw [Array.length_toList]; exact hi
    rw [ByteArray.toList.loop, if_pos hi, ba_loop s m (i + 1) _ (by omega), List.drop_eq_getElem_cons hi', List.reverse_cons, List.append_assoc]
    congr 2
    have e : s.get! i = s.data.toList[i] := by
      show s.data[i]! = s.data.toList[i]
      rw [getElem!_pos s.data i hi]; simp
    rw [e]; rfl
theorem ba_toList (s : ByteArray) : s.toList = s.data.toList := by
  unfold ByteArray.toList
  rw [ba_loop s s.size 0 [] (by omega)]; rfl
def lch (a : Nat) : UInt8 := UInt8.ofNat (97 + a)
theorem wordOf_list (w : List Nat) : (wordOf w).toList = w.map lch := by
  rw [ba_toList]
  simp only [wordOf, strOf, List.map_map]
  apply List.map_congr_left
  intro a _
  simp only [Function.comp, lch]
  congr 1
theorem lch_lt {a b : Nat} (ha : a < 6) (hb : b < 6) : (lch a < lch b) ↔ a < b := by
  unfold lch
  rw [UInt8.lt_iff_toNat_lt, UInt8.toNat_ofNat', UInt8.toNat_ofNat']; omega
theorem lch_inj {a b : Nat} (ha : a < 6) (hb : b < 6) : lch a = lch b ↔ a = b := by
  unfold lch
  rw [← UInt8.toNat_inj, UInt8.toNat_ofNat', UInt8.toNat_ofNat']; omega
theorem less_lx : ∀ {u v : List Nat}, u.length = v.length → Wd 6 u → Wd 6 v → Op.bytesLess (u.map lch) (v.map lch) = lx u v
  | [], [], _, _, _ => rfl
  | [], _ :: _, h, _, _ => by simp at h
  | _ :: _, [], h, _, _ => by simp at h
  | a :: u, b :: v, h, hu, hv => by
    have ha := hu a (by simp); have hb := hv b (by simp)
    rw [List.map_cons, List.map_cons, Op.bytesLess, lx, less_lx (u := u) (v := v) (by simpa using h) (fun c hc => hu c (List.mem_cons_of_mem _ hc)) (fun c hc => hv c (List.mem_cons_of_mem _ hc))]
    congr 1
    · exact decide_eq_decide.2 (lch_lt ha hb)
    · congr 1
      rw [Bool.eq_iff_iff, beq_iff_eq, decide_eq_true_eq]; exact lch_inj ha hb
theorem wordOf_inj {u v : List Nat} (hu : Wd 6 u) (hv : Wd 6 v) (h : wordOf u = wordOf v) : u = v := by rw [← lets_wordOf hu (Nat.le_refl 6), ← lets_wordOf hv (Nat.le_refl 6), h]
theorem toList_beq {u v : List Nat} (hu : Wd 6 u) (hv : Wd 6 v) : ((wordOf u).toList == (wordOf v).toList) = decide (u = v) := by
  rw [Bool.eq_iff_iff, beq_iff_eq, decide_eq_true_eq]
  constructor
  · intro h
    rw [ba_toList, ba_toList] at h
    exact wordOf_inj hu hv (ByteArray.ext (Array.toList_inj.1 h))
  · rintro rfl; rfl
theorem Compare_lt {u v : List Nat} (hu : Wd 6 u) (hv : Wd 6 v) (h : sl u v) {k : Nat} : semigroupref01_Compare.f k (wordOf u) (wordOf v) = some (-1) := by
  rw [semigroupref01_Compare.f_eq, wordOf_size, wordOf_size]
  rcases h with h | ⟨h, h'⟩
  · rw [decide_eq_true (by omega), cond_true]
  · rw [decide_eq_false (by omega), cond_false, show ((u.length : Int) == (v.length : Int)) = true from beq_iff_eq.2 (by omega), cond_true, wordOf_list, wordOf_list, less_lx h hu hv, h', cond_true]
theorem Compare_eq (u : List Nat) {k : Nat} (hu : Wd 6 u) : semigroupref01_Compare.f k (wordOf u) (wordOf u) = some 0 := by
  rw [semigroupref01_Compare.f_eq, decide_eq_false (by omega), cond_false, beq_self_eq_true, cond_true, wordOf_list, less_lx rfl hu hu, lx_irrefl, cond_false, beq_self_eq_true, cond_true]
theorem Compare_gt {u v : List Nat} (hu : Wd 6 u) (hv : Wd 6 v) (h : sl v u) {k : Nat} : semigroupref01_Compare.f k (wordOf u) (wordOf v) = some 1 := by
  have hne : u ≠ v := fun e => sl_irrefl _ (e ▸ h)
  rw [semigroupref01_Compare.f_eq, wordOf_size, wordOf_size, toList_beq hu hv, decide_eq_false hne]
  rcases h with h | ⟨h, h'⟩
  · rw [decide_eq_false (by omega), cond_false, show ((u.length : Int) == (v.length : Int)) = false from beq_eq_false_iff_ne.2 (by omega)]; rfl
  · rw [decide_eq_false (by omega), cond_false, show ((u.length : Int) == (v.length : Int)) = true from beq_iff_eq.2 (by omega), cond_true, wordOf_list, wordOf_list, less_lx h.symm hu hv]
    have : lx u v = false := by
      cases hq : lx u v with
      | false => rfl
      | true => have := lx_trans hq h'; rw [lx_irrefl] at this; cases this
    rw [this]; rfl
theorem Compare_sle {u v : List Nat} (hu : Wd 6 u) (hv : Wd 6 v) (h : sle u v) {k : Nat} : ∃ r, semigroupref01_Compare.f k (wordOf u) (wordOf v) = some r ∧ r ≤ 0 := by
  rcases h with rfl | h
  · exact ⟨0, Compare_eq u hu, by omega⟩
  · exact ⟨-1, Compare_lt hu hv h, by omega⟩
theorem Wd.mono {m n : Nat} {w : List Nat} (h : Wd m w) (hmn : m ≤ n) : Wd n w := fun a ha => Nat.lt_of_lt_of_le (h a ha) hmn

/-! ### minimize.Classes -/
theorem minimize_Classes_ok {L s : Int} {F : List Bool} {N : List (List Int)} (H : DV L s F N) {k : Nat} (hk : 5000 < k) : ∃ p, minimize_Classes.f k L s F N = some p ∧ Cls L F N p := by
  obtain ⟨p, e, C⟩ := minimize_classes_ok H hk
  exact ⟨p, by rw [minimize_Classes.f_eq, dfa_Validate_ok _ _ _ _ (by omega), dfaE_zero.2 H, Option.bind_some, show ((0 : Int) != 0) = false from rfl, cond_false, e, Option.bind_some], C⟩

/-! ### About the minimal automaton -/
theorem small_yes {L s : Int} {F : List Bool} {N : List (List Int)} (H : DV L s F N) {m : Int} (h : (F.length : Int) ≤ m) {k : Nat} (hk : 600 < k) : semigrouplaw08_small.f k L s F N m = some true := by
  rw [semigrouplaw08_small.f_eq, semigroupref07_Validate_ok _ _ _ _ hk, decide_eq_true h, cond_true, Option.bind_some, dfaE_zero.2 H]; rfl
theorem small_no {L s : Int} {F : List Bool} {N : List (List Int)} {m : Int} (h : ¬ ((F.length : Int) ≤ m ∧ DV L s F N)) {k : Nat} (hk : 600 < k) : semigrouplaw08_small.f k L s F N m = some false := by
  rw [semigrouplaw08_small.f_eq, semigroupref07_Validate_ok _ _ _ _ hk]
  by_cases h1 : (F.length : Int) ≤ m
  · rw [decide_eq_true h1, cond_true, Option.bind_some, beq_eq_false_iff_ne.2 (fun e => h ⟨h1, dfaE_zero.1 e⟩)]
  · rw [decide_eq_false h1, cond_false]
theorem semigroupref03_Discrete_ok (n : Nat) (hn : n ≤ 512) {k : Nat} (hk : 600 < k) : semigroupref03_Discrete.f k (n : Int) = some ((List.range n).map fun (i : Nat) => (i : Int)) := by
  have := upc (f := fun m i => semigroupref03_Discrete.l0 k m (n : Int) (i : Int) (fillAt ((List.range n).map fun (i : Nat) => (i : Int)) 0 i)) (len := n) (r := some ((List.range n).map fun (i : Nat) => (i : Int)))
    (fun m => by
      have := fillAt_all ((List.range n).map fun (i : Nat) => (i : Int)) 0
      rw [List.length_map, List.length_range] at this
      rw [semigroupref03_Discrete.l0_succ, decide_eq_false (by omega), cond_false, semigroupref03_Discrete.j0_eq, this])
    (fun i hi m => by
      have hf := fillAt_length ((List.range n).map fun (i : Nat) => (i : Int)) 0 (i := i) (by simp; omega)
      rw [List.length_map, List.length_range] at hf
      rw [semigroupref03_Discrete.l0_succ]
      (repeat (first | rw [if_pos (by omega)] | rw [decide_eq_true (by omega), cond_true] | rw [decide_eq_false (by omega), cond_false]))
      rw [wrap_succ (by omega), set_nat, fill_step _ 0 (i : Int) (by simp; exact hi) (by simp)]) k (by omega)
  rw [fillAt_zero, List.length_map, List.length_range] at this
  rw [semigroupref03_Discrete.f_eq, Int.toNat_natCast, List.length_replicate]
  (repeat (first | rw [if_pos (by omega)] | rw [decide_eq_true (by omega), cond_true] | rw [decide_eq_false (by omega), cond_false]))
  exact this
/-- The classes of a reduced automaton. -/
theorem cls_disc {L : Int} {F : List Bool} {N : List (List Int)} {p : List Int} (C : Cls L F N p) (R : Red L F N) : p = (List.range F.length).map fun (i : Nat) => (i : Int) := by
  have hp := C.len
  have hl : ((List.range F.length).map fun (i : Nat) => (i : Int)).length = F.length := by simp
  rw [← C.can]
  have e : canL p = canL ((List.range F.length).map fun (i : Nat) => (i : Int)) := (canL_congr (by rw [hl, hp]) (fun i j hi hj => by
    have h1 := C.iff i j ⟨by omega, by omega⟩ ⟨by omega, by omega⟩
    rw [cls_get hi, cls_get hj] at h1
    simp only [List.getElem_map, List.getElem_range]
    rw [h1]
    exact ⟨fun h => R _ _ (by omega) (by omega) (by omega) (by omega) h, fun h => by rw [h]; exact fun _ _ => rfl⟩)).1
  rw [e]
  apply List.ext_getElem
  · rw [canL_length]
  · intro i h1 h2
    have hi : i < F.length := by simpa using h2
    have key : ∀ m, m ≤ F.length → ordA ([] : List Int) (((List.range F.length).map fun (i : Nat) => (i : Int)).take m) = (List.range m).map fun (i : Nat) => (i : Int) := by
      intro m
      induction m with
      | zero => intro _; rfl
      | succ m ih =>
        intro hm
        rw [List.take_succ_eq_append_getElem (by simp; omega), ordA_append, ih (by omega), ordA, if_neg, ordA, List.range_succ]
        · simp
        · simp only [List.getElem_map, List.getElem_range, List.mem_map, List.mem_range]
          rintro ⟨a, ha, e⟩; omega
    have hn : ((List.range F.length).map fun (i : Nat) => (i : Int))[i]'(by simp; exact hi) ∉ ordA ([] : List Int) (((List.range F.length).map fun (i : Nat) => (i : Int)).take i) := by
      rw [key i (by omega)]
      simp only [List.getElem_map, List.getElem_range, List.mem_map, List.mem_range]
      rintro ⟨a, ha, e⟩; omega
    rw [(num_new (by simp; exact hi) hn).2, key i (by omega)]
    simp
theorem same_can {L s : Int} {F : List Bool} {N : List (List Int)} {ws : List (List Nat)} (h : Can L s F N ws) {k : Nat} (hk : 100001 < k) : semigroupref07_Same.f k L s F N L s F N = some true := by
  have H := h.dv
  have h5 := H.n5; have hnn := H.nn
  exact semigroupref07_Same_refl (by omega) (by omega) (fun r hr => by have := (H.row r hr).1; have := H.l6; omega) hk
/-- A reduced automaton that is numbered by least words is its own minimal automaton, and trimmed. -/
theorem MinOf.self {L s : Int} {F : List Bool} {N : List (List Int)} {G : List Bool} {M : List (List Int)} {ws : List (List Nat)} (h : MinOf L s F N G M ws) {k : Nat} (hk : 5000 < k) :
    minimize_Minimal.f k L 0 G M = some (L, 0, G, M) ∧ ∃ ν, dfa_Trim.f k L 0 G M = some ((L, 0, G, M), ν) := by
  have H := h.can.dv
  constructor
  · obtain ⟨G', M', ws', e, h'⟩ := minimize_Minimal_ok H hk
    obtain ⟨rfl, rfl, _⟩ := minOf_unique h' h (fun v hv => h.lng v hv)
    exact e
  · obtain ⟨q, ν, e, _, B, V⟩ := dfa_Trim_ok H (k := k) (by omega)
    obtain ⟨_, e1, e2, _⟩ := can_unique (trim_can H rfl B V) h.can (trim_red H rfl B V h.red) h.red (fun w hw => trim_lng H rfl B V hw B.hd)
    exact ⟨ν, by rw [e, e1, e2]⟩
/-- The minimal automaton has no more states. -/
theorem MinOf.le {L s : Int} {F : List Bool} {N : List (List Int)} (H : DV L s F N) {G : List Bool} {M : List (List Int)} {ws : List (List Nat)} (h : MinOf L s F N G M ws) : G.length ≤ F.length := by
  have hws := h.can.len
  have nd : (ws.map fun w => rn (dl N) s w).Nodup := nodup_of fun j k x hj hk => by
    rw [List.getElem?_map, Option.map_eq_some_iff] at hj hk
    obtain ⟨u, h1, h2⟩ := hj; obtain ⟨v, h3, h4⟩ := hk
    have hu := h.can.wd u (List.mem_iff_getElem?.2 ⟨j, h1⟩); have hv := h.can.wd v (List.mem_iff_getElem?.2 ⟨k, h3⟩)
    have a1 := h.can.at_ j u h1; have a2 := h.can.at_ k v h3
    have r1 := h.can.dv.rn_range u h.can.dv.s0 h.can.dv.s1 hu; have r2 := h.can.dv.rn_range v h.can.dv.s0 h.can.dv.s1 hv
    have := h.red _ _ r1.1 r1.2 r2.1 r2.2 (fun z hz => by
      have b1 := h.lng (u ++ z) (Wd.append.2 ⟨hu, hz⟩); have b2 := h.lng (v ++ z) (Wd.append.2 ⟨hv, hz⟩)
      simp only [Sim.lng, rn_append] at b1 b2
      rw [b1, b2, h2, h4])
    omega
  have := nodup_range nd (n := F.length) (fun x hx => by
    obtain ⟨w, hw, rfl⟩ := List.mem_map.1 hx
    exact H.rn_range w H.s0 H.s1 (h.can.wd w hw))
  rw [List.length_map] at this
  omega
theorem MinOf.acc {L s : Int} {F : List Bool} {N : List (List Int)} {G : List Bool} {M : List (List Int)} {ws : List (List Nat)} (h : MinOf L s F N G M ws) (w : ByteArray) : accE L 0 G M w = accE L s F N w := by
  unfold accE
  cases hv : wval w L with
  | false => rfl
  | true => rw [h.lng _ (wval_iff.1 hv).wd]

end Go.Proofs.Yteblfhhhbfodgaa.Sim
