-- Plain proofs over the functions (texts of wip/sim/pure, expanded by macros.py).
import Derived.Test.YteblfhhhbfodgaaP5
set_option linter.unusedVariables false
set_option linter.unusedSimpArgs false
namespace Go.Proofs.Yteblfhhhbfodgaa.Sim
open Go
/-! ### dfa.words, dfa.Access -/
theorem enc_letter {a : Nat} (h : a < 6) : Utf8.encode (IntKind.i32.wrap (IntKind.i64.wrap (97 + (a : Int)))) = strOf [97 + (a : Int)] := by
  have e1 : IntKind.i64.wrap (97 + (a : Int)) = 97 + a := wrap_i64 (by omega) (by omega)
  rw [e1]
  rcases a with _ | _ | _ | _ | _ | _ | a
  all_goals first | rfl | decide | omega
theorem dfa_words_ok {α : Type} {δ : α → Nat → α} {L : Nat} {e0 : Ent α} {q : List (Ent α)} {i a : Nat} (B : BInv δ L e0 q i a) (hL : L ≤ 6) (hq : q.length ≤ 512) {k : Nat} (hk : 600 < k) :
    dfa_words.f k (q.map (·.p)) (q.map (·.a)) = some (q.map fun e => wordOf e.w) := by
  have h0 := (List.getElem?_eq_some_iff.1 B.hd).1
  have hyl : (q.map fun e => wordOf e.w).length = q.length := by simp
  have key : ∀ (r j : Nat), 1 ≤ j → j ≤ q.length → q.length - j < r → dfa_words.l0 k r (q.map (·.p)) (q.map (·.a)) (j : Int) (fillAt (q.map fun e => wordOf e.w) ByteArray.empty j) = some (q.map fun e => wordOf e.w) := by
    intro r
    induction r with
    | zero => intro j _ _ h; omega
    | succ r ih =>
      intro j hj1 hj hr
      have hf := fillAt_length (q.map fun e => wordOf e.w) ByteArray.empty (i := j) (by omega)
      rw [dfa_words.l0_succ, List.length_map, List.length_map]
      by_cases h : j < q.length
      · obtain ⟨p, b, f, hp, hb, hpf, he, _⟩ := B.tl j q[j] (by omega) (List.getElem?_eq_getElem h)
        have ep : (q.map (·.p)).getD j 0 = (p : Int) := by simp [h, he]
        have ea : (q.map (·.a)).getD j 0 = (b : Int) := by simp [h, he]
        have hwl := B.wlen p f hpf
        have eg : (fillAt (q.map fun e => wordOf e.w) ByteArray.empty j).getD p ByteArray.empty = wordOf f.w := by
          obtain ⟨h1, h2⟩ := List.getElem?_eq_some_iff.1 hpf
          unfold fillAt
          rw [getD_append, if_pos (by simp; omega), getD_lt (by simp; omega)]
          simp [h2]
        rw [getD_nat, ep, getD_nat, eg, getD_nat, ea, enc_letter (by omega), ← wordOf_snoc, set_nat]
        have := fill_step (q.map fun e => wordOf e.w) ByteArray.empty (wordOf (f.w ++ [b])) (i := j) (by omega) (by simp [he])
        rw [this, wordOf_size, strOf_size]
        simp only [List.length_singleton]
        (repeat (first | rw [if_pos (by omega)] | rw [decide_eq_true (by omega), cond_true] | rw [decide_eq_false (by omega), cond_false]))
        rw [wrap_succ (by omega)]
        exact ih (j + 1) (by omega) (by omega) (by omega)
      · obtain rfl : j = q.length := by omega
        rw [decide_eq_false (by omega), cond_false, dfa_words.j0_eq]
        congr 1
        conv => lhs; rw [← hyl]
        exact fillAt_all _ _
  have hfirst : fillAt (q.map fun e => wordOf e.w) ByteArray.empty 1 = List.replicate q.length ByteArray.empty := by
    rw [show (1 : Nat) = 0 + 1 from rfl, fill_same _ _ (by omega) (by
      have := B.hd; rw [List.getElem?_eq_getElem h0] at this
      simp only [List.getElem_map, Option.some.inj this, B.hw]; rfl), fillAt_zero, hyl]
  have := key k 1 (by omega) (by omega) (by omega)
  rw [hfirst] at this
  rw [dfa_words.f_eq, List.length_map, Int.toNat_natCast]
  (repeat (first | rw [if_pos (by omega)] | rw [decide_eq_true (by omega), cond_true] | rw [decide_eq_false (by omega), cond_false]))
  exact this
theorem dfa_Access_ok {L s : Int} {F : List Bool} {N : List (List Int)} (H : DV L s F N) {k : Nat} (hk : 600 < k) :
    ∃ q, dfa_Access.f k L s F N = some (q.map fun e => wordOf e.w) ∧ BInv (dl N) L.toNat ⟨s, [], -1, -1⟩ q q.length 0 ∧ ∃ ν, NumOk F.length q ν := by
  obtain ⟨q, ν, e, B, V⟩ := dfa_search_ok H hk
  have hc := ent_count H rfl B
  have h5 := H.n5; have h6 := H.l6
  refine ⟨q, ?_, B, ν, V⟩
  rw [dfa_Access.f_eq, dfa_Validate_ok _ _ _ _ hk, dfaE_zero.2 H, ob, bne_self_eq_false, cond_false, e, ob]
  dsimp only
  rw [dfa_words_ok B (by omega) (by omega) hk, ob]
/-! ### minimize.Prove -/
theorem minimize_Prove_l1 {L : Int} {G : List Bool} {M : List (List Int)} (H : DV L 0 G M) {w : ByteArray} (hw : WV w L) {p : List Int} (hp : p.length = G.length) (hc : canL p = p) {b0 b1 : Int} {to : List Int} {acc ts : List ByteArray} {y5 : List Bool} {y6 : List (List Int)} {y7 : List Int} {y8 y9 : List ByteArray} {k n0 : Nat} (hk : 5000 < k) :
    minimize_Prove.l1 k n0 k w (p.length : Int) 0 b0 b1 L 0 p y5 y6 y7 y8 y9 G M to acc ts = minimize_Prove.j0 k n0 b0 b1 L 0 (tstep G M w p) y5 y6 y7 y8 y9 G M to acc ts := by
  have h5 := H.n5; have h1 := H.n1
  have hyl : (tstep G M w p).length = p.length := by simp [tstep, hp]
  have := upc (f := fun r q => minimize_Prove.l1 k n0 r w (p.length : Int) (q : Int) b0 b1 L 0 (mix (tstep G M w p) p q) y5 y6 y7 y8 y9 G M to acc ts) (len := p.length) (r := minimize_Prove.j0 k n0 b0 b1 L 0 (tstep G M w p) y5 y6 y7 y8 y9 G M to acc ts)
    (fun r => by
      rw [minimize_Prove.l1_succ, decide_eq_false (by omega), cond_false]
      congr 1
      unfold mix
      rw [List.drop_length, List.append_nil, ← hyl, List.take_length])
    (fun q hq r => by
      have hr := H.rn_range (lets w) (q := q) (by omega) (by omega) hw.wd
      have hml := mix_length hyl (i := q) (by omega)
      have hmg := mix_get hyl (i := q) hq
      have hpr := mem_range hc (List.getElem_mem hq)
      rw [getD_lt (l := p) hq] at hmg
      have hset := fun v => mix_set hyl (i := q) hq (v := v)
      have ey : (tstep G M w p)[q]'(by omega) = 2 * p[q] + cond (fin G (rn (dl M) (q : Int) (lets w))) 1 0 := by simp [tstep, cls, hq]
      rw [minimize_Prove.l1_succ, dfa_Run_ok H _ _ (by omega), ob, runE_ok ⟨by omega, by omega⟩ hw, getD_nat, hmg, Int.toNat_natCast, wrap_i64 (n := 2 * p[q]) (by omega) (by omega)]
      rw [show ((mix (tstep G M w p) p q).set q (2 * p[q])).getD q 0 = 2 * p[q] by rw [getD_set, if_pos ⟨rfl, by omega⟩], wrap_i64 (n := 2 * p[q] + 1) (by omega) (by omega), List.set_set, List.length_set]
      (repeat (first | rw [if_pos (by omega)] | rw [decide_eq_true (by omega), cond_true] | rw [decide_eq_false (by omega), cond_false]))
      rw [show G.getD (rn (dl M) (q : Int) (lets w)).toNat false = fin G (rn (dl M) (q : Int) (lets w)) from rfl]
      cases hf : fin G (rn (dl M) (q : Int) (lets w)) with
      | true =>
        rw [cond_true]
        (repeat (first | rw [if_pos (by omega)] | rw [decide_eq_true (by omega), cond_true] | rw [decide_eq_false (by omega), cond_false]))
        rw [wrap_succ (by omega), hset _ (by rw [ey, hf]; rfl)]
      | false => rw [cond_false, wrap_succ (by omega), hset _ (by rw [ey, hf, cond_false, Int.add_zero])]) k (by omega)
  simpa [mix] using this
theorem minimize_Prove_ok {L s : Int} {F : List Bool} {N : List (List Int)} (H : DV L s F N) {k : Nat} (hk : 1000001 < k) :
    ∃ G M ws to acc ts, minimize_Prove.f k L s F N = some ((L, 0, G, M), (to, acc, ts), 0) ∧ MinOf L s F N G M ws ∧ PC L s F N L 0 G M to acc ts := by
  obtain ⟨G, M, ws, to, e1, h, T⟩ := minimize_minimal_ok H (k := k) (by omega)
  have H1 := h.can.dv
  obtain ⟨q, e2, B, ν, V⟩ := dfa_Access_ok H1 (k := k) (by omega)
  obtain ⟨_, _, _, hws⟩ := can_unique (trim_can H1 rfl B V) h.can (trim_red H1 rfl B V h.red) h.red (fun w hw => trim_lng H1 rfl B V hw B.hd)
  have h5 := H1.n5; have h1 := H1.n1; have hlT := T.len
  have hqn : q.length = G.length := by have := h.can.len; rw [← hws, List.length_map] at this; exact this
  have main := wh (f := fun r (st : List Int × List ByteArray) => minimize_Prove.l0 k r 0 0 L 0 st.1 [] [] [] [] [] G M to (q.map fun e => wordOf e.w) st.2) (fun st => TInv G M st.2 st.1 ∧ (∀ w ∈ st.2, WV w L) ∧ st.2.length + 1 ≤ ncl st.1) (fun st => G.length - ncl st.1)
    (fun x => ∃ ts, x = some ((L, 0, G, M), (to, q.map fun e => wordOf e.w, ts), 0) ∧ (∀ w ∈ ts, WV w L) ∧ ts.length < G.length ∧ Dst G M ts) (by
      rintro r ⟨p, ts⟩ ⟨I, hv, hn⟩
      dsimp only at *
      have hp := I.len
      have hcl := ncl_le_length p
      obtain ⟨b, e3, hb, hb'⟩ := minimize_together_ok p (by omega) (k := k) (by omega)
      rw [minimize_Prove.l0_succ, e3, ob]
      by_cases hb0 : b.1 < 0
      · left
        refine ⟨ts, by rw [decide_eq_true hb0, cond_true], hv, by omega, fun x y hx hy hs => ?_⟩
        have := (I.iff x y hx hy).2 hs
        have h1 := hx.1; have h2 := hx.2; have h3 := hy.1; have h4 := hy.2
        unfold cls at this
        rw [getD_lt (by omega), getD_lt (by omega)] at this
        have hp2 := List.pairwise_iff_getElem.1 (List.nodup_iff_pairwise_ne.1 (hb.1 hb0))
        by_cases hxy : x.toNat = y.toNat
        · omega
        · rcases Nat.lt_or_gt_of_ne hxy with g | g
          · exact absurd this (hp2 _ _ _ _ g)
          · exact absurd this.symm (hp2 _ _ _ _ g)
      · right
        obtain ⟨c1', c2, c3⟩ := hb' (by omega)
        have hx : InR G.length b.1 := ⟨by omega, by omega⟩
        have hy : InR G.length b.2 := ⟨by omega, by omega⟩
        obtain ⟨d, e4, hd⟩ := minimize_distinguish_ok H1 hx hy hk
        rcases hd.cases H1 hx hy with ⟨w, rfl, w1, w2, w3, w4⟩ | ⟨_, hq⟩
        · have hw := wv_wordOf H1.l1 H1.l6 w1 (by omega)
          have hlw := lets_wordOf w1 (by have := H1.l6; omega)
          have I' := I.next (wordOf w)
          have hne : cls (canL (tstep G M (wordOf w) p)) b.1 ≠ cls (canL (tstep G M (wordOf w) p)) b.2 := fun hh => by
            have := (I'.iff b.1 b.2 hx hy).1 hh (wordOf w) (by simp)
            rw [hlw] at this
            exact w3 this
          have hl' := I'.len
          have hgrow : ncl p < ncl (canL (tstep G M (wordOf w) p)) := by
            refine ncl_lt (by omega) (fun i j hi hj hh => ?_) b.1.toNat b.2.toNat (by omega) (by omega) ?_ (fun hh => hne ?_)
            · have a1 := (I'.iff i j ⟨by omega, by omega⟩ ⟨by omega, by omega⟩).1 (by rw [cls_get (by omega), cls_get (by omega)]; exact hh)
              have a2 := (I.iff i j ⟨by omega, by omega⟩ ⟨by omega, by omega⟩).2 (fun v hv => a1 v (by simp [hv]))
              rwa [cls_get hi, cls_get hj] at a2
            · unfold cls at c3; rwa [getD_lt (by omega), getD_lt (by omega)] at c3
            · unfold cls; rw [getD_lt (by omega), getD_lt (by omega)]; exact hh
          have hcl' := ncl_le_length (canL (tstep G M (wordOf w) p))
          refine ⟨(canL (tstep G M (wordOf w) p), ts ++ [wordOf w]), ⟨I', ?_, by simp; omega⟩, by dsimp only; omega, ?_⟩
          · intro v hm
            rcases List.mem_append.1 hm with hm | hm
            · exact hv v hm
            · rw [List.mem_singleton.1 hm]; exact hw
          · rw [decide_eq_false hb0, cond_false, e4, ob, List.length_singleton]
            (repeat (first | rw [if_pos (by omega)] | rw [decide_eq_true (by omega), cond_true] | rw [decide_eq_false (by omega), cond_false]))
            rw [minimize_Prove_l1 H1 hw hp I.can (by omega), minimize_Prove.j0_eq, partition_Canonical_ok _ (by simp [tstep]; omega) (by omega), ob]
        · have := h.red _ _ hx.1 hx.2 hy.1 hy.2 hq
          omega) k (List.replicate G.length 0, []) (by omega) ⟨TInv.start G M H1.n1, fun w hw => by simp at hw, by
            have := ncl_pos (l := List.replicate G.length (0 : Int)) (by simp; omega)
            dsimp only; simp only [List.length_nil]; omega⟩
  obtain ⟨ts, e5, hv, hlt, hd⟩ := main
  refine ⟨G, M, ws, to, q.map (fun e => wordOf e.w), ts, ?_, h, H, H1, rfl, hlT, by simp [hqn], hlt, ?_, ?_, ?_, ?_, ?_, hd⟩
  · rw [minimize_Prove.f_eq, dfa_Validate_ok _ _ _ _ (by omega), dfaE_zero.2 H, ob, bne_self_eq_false, cond_false, e1, ob]
    dsimp only
    rw [e2, ob, Int.toNat_natCast]
    (repeat (first | rw [if_pos (by omega)] | rw [decide_eq_true (by omega), cond_true] | rw [decide_eq_false (by omega), cond_false]))
    exact e5
  · refine List.all_eq_true.2 (fun x hx => ?_)
    obtain ⟨i, hi, rfl⟩ := List.mem_iff_getElem.1 hx
    rw [decide_eq_true_eq]
    have ei : cls to (i : Int) = to[i] := cls_get hi
    by_cases hr : ∃ v, Wd L.toNat v ∧ rn (dl N) s v = i
    · obtain ⟨v, v1, v2⟩ := hr
      have := T.at_ v v1
      rw [v2, ei] at this
      have hrr := H1.rn_range v H1.s0 H1.s1 v1
      rw [this]; omega
    · have := T.no i ⟨by omega, by omega⟩ (fun v v1 v2 => hr ⟨v, v1, v2⟩)
      rw [ei] at this; omega
  · exact T.at_ [] Wd.nil
  · refine List.all_eq_true.2 (fun x hx => ?_)
    have hx := List.mem_range.1 hx
    unfold bStep
    by_cases hr : ∃ v, Wd L.toNat v ∧ rn (dl N) s v = x
    · obtain ⟨v, v1, v2⟩ := hr
      have e := T.at_ v v1
      rw [v2] at e
      have hl := h.lng v v1
      unfold lng at hl
      rw [v2, ← e] at hl
      have hrr := H1.rn_range v H1.s0 H1.s1 v1
      rw [decide_eq_false (by omega), Bool.false_or, hl, beq_self_eq_true, Bool.true_and, List.all_eq_true]
      intro a ha
      have ha := List.mem_range.1 ha
      have e' := T.at_ (v ++ [a]) (v1.snoc ha)
      rw [rn_snoc, rn_snoc, v2, ← e] at e'
      rw [e']; exact beq_self_eq_true _
    · have := T.no x ⟨by omega, by omega⟩ (fun v v1 v2 => hr ⟨v, v1, v2⟩)
      rw [this]; rfl
  · refine List.all_eq_true.2 (fun i hi => ?_)
    have hi : i < q.length := by simpa using hi
    have e : (q.map fun e => wordOf e.w).getD i ByteArray.empty = wordOf q[i].w := by simp [hi]
    have hsome : q[i]? = some q[i] := List.getElem?_eq_getElem hi
    have hw1 := (B.sound i _ hsome).2
    have hwl := B.wlen i _ hsome
    have ha := h.can.at_ i q[i].w (by rw [← hws, List.getElem?_map, hsome]; rfl)
    rw [e, runE_ok ⟨H1.s0, H1.s1⟩ (wv_wordOf H1.l1 H1.l6 hw1 (by omega)), lets_wordOf hw1 (by have := H1.l6; omega), ha]
    exact beq_self_eq_true _
  · exact List.all_eq_true.2 (fun w hw => wval_iff.2 (hv w hw))
theorem minimize_Prove_bad {L s : Int} {F : List Bool} {N : List (List Int)} (H : ¬ DV L s F N) {k : Nat} (hk : 600 < k) : minimize_Prove.f k L s F N = some ((0, 0, [], []), ([], [], []), dfaE L s F N) := by
  rw [minimize_Prove.f_eq, dfa_Validate_ok _ _ _ _ hk, ob, bne_iff_ne.2 (fun h => H (dfaE_zero.1 h)), cond_true]

end Go.Proofs.Yteblfhhhbfodgaa.Sim
