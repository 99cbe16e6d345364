-- An interpreter of Go's code over typed data, and its soundness (texts of wip/sim, merged).
import Derived.Test.YteblfhhhbfodgaaSimB
import Derived.LoopN
import Derived.Scope
import Derived.WalkKit
import Derived.ProofKit
import Derived.OpenShut
import Derived.ShutString
import Derived.ChangeOld
import Derived.Below
import Derived.SizedLaws
import Derived.Deep.Slices
import Derived.WideShapes
import Derived.ChangeArms
import Derived.DataReads
import Derived.DataElems
import Derived.ChangeSlices
/- Code. -/
set_option linter.unusedVariables false
set_option linter.unusedSimpArgs false
set_option linter.unusedSectionVars false
namespace Go.Proofs.Yteblfhhhbfodgaa.Sim
open Go Go.RowKit

section
variable {X : Ctx} {st : St} {a : Act} {w : World}

/-- Room for new objects. -/
theorem Rel.grow (hR : Rel X st a w) (n : Nat) : Rel X { st with objs := st.objs ++ List.replicate n (0, .dead) } a w := by
  obtain ⟨H, hR⟩ := hR
  let H' : Nat → Wit := fun i => if i < st.objs.length then H i else ⟨undef, [], []⟩
  have hin : ∀ i, i < st.objs.length → H' i = H i := fun i hi => if_pos hi
  have hout : ∀ i, ¬ i < st.objs.length → H' i = ⟨undef, [], []⟩ := fun i hi => if_neg hi
  have hat : ∀ (i : Nat) s, st.objs[i]? = some s → (st.objs ++ List.replicate n (0, Obj.dead))[i]? = some s := fun i s hs => by
    rw [List.getElem?_append_left (List.getElem?_eq_some_iff.1 hs).1]; exact hs
  have hk : ∀ b, okOf X w H st.objs b → okOf X w H' (st.objs ++ List.replicate n (0, Obj.dead)) b := by
    rintro b ⟨h1, h2, h3⟩
    refine ⟨h1, h2, fun i _ hm => ?_⟩
    by_cases hi : i < st.objs.length
    · rw [hin i hi] at hm; exact h3 i hi hm
    · rw [hout i hi] at hm; cases hm
  have he : Evols st.objs (st.objs ++ List.replicate n (0, Obj.dead)) H H' := fun i s hs _ => ⟨s, hat i s hs, by rw [hin i (List.getElem?_eq_some_iff.1 hs).1]; exact Evol.refl _ _⟩
  have hh := hR.heap
  refine ⟨H', ⟨hh.below, fun i s hs => ?_, fun i j b _ _ hij hb hb' => ?_, fun i _ => ?_, fun i b _ hb => ?_⟩, hR.size, fun t x hx => ?_, hR.defers, hR.stack.imp (fun y u h => h.mono (fun _ _ => rfl) hk he)⟩
  · by_cases hi : i < st.objs.length
    · rw [List.getElem?_append_left hi] at hs
      rw [hin i hi]
      exact (hh.obj i s hs).mono (fun _ _ => rfl) hk he (fun _ _ => rfl)
    · rw [List.getElem?_append_right (by omega), List.getElem?_replicate] at hs
      split at hs
      · cases hs; rw [hout i hi]; rfl
      · cases hs
  · by_cases hi : i < st.objs.length
    · by_cases hj : j < st.objs.length
      · rw [hin i hi] at hb; rw [hin j hj] at hb'; exact hh.dis i j b hi hj hij hb hb'
      · rw [hout j hj] at hb'; cases hb'
    · rw [hout i hi] at hb; cases hb
  · by_cases hi : i < st.objs.length
    · rw [hin i hi]; exact hh.nod i hi
    · rw [hout i hi]; exact List.nodup_nil
  · by_cases hi : i < st.objs.length
    · rw [hin i hi] at hb; exact hh.rng i b hi hb
    · rw [hout i hi] at hb; cases hb
  · obtain ⟨v, g1, g2⟩ := hR.tmps t x hx
    exact ⟨v, g1, g2.mono (fun _ _ => rfl) hk he⟩
end

def toExit : Ex → Exit
  | .normal => .normal
  | .exit id => .exit id
  | .ret => .ret

section
variable {X : Ctx} {P : Program} {C : Cfg} (hT : TabOk P C.E) (hF : AllHold P C.E) (hM : P.follows .mixedOrders = true)
include hT hF hM

theorem region_ok {R : Type} {id : Nat} {ops : Array Oper} {draw : Bool} {st : St} {K : St → Option R} {x : R} (h : execRegion C.E ops draw st K = some x) {a : Act} {w : World} (hR : Rel X st a w) {Q : Exit → Act → World → Prop} (hQ : ∀ st' a' w', Rel X st' a' w' → K st' = some x → Q .normal a' w') : (Code.region id ops draw).wp P Q a w := by
  unfold execRegion at h
  simp only at h
  obtain ⟨rs', fin, h1, h2⟩ := execOps_sq _ _ _ _ _ _ h
  have hR1 := hR.grow (total C.E ops.toList)
  cases draw with
  | false =>
    simp only at h2
    refine wp_region ?_
    have := ops_ok hT hF (Q := Q) (fun a w hr => hQ _ _ _ hr h2) ops.toList 0 _ (fun k o hk => by rw [Nat.zero_add]; simpa using hk) h1 hR1
    rw [List.range_eq_range']
    simpa using this
  | true =>
    simp only at h2
    cases hf : allFree ops (rs'.reverse ++ []) with
    | false => rw [hf] at h2; cases h2
    | true =>
      rw [hf] at h2
      refine wp_region_any hM ?_
      have hlen : (items C.E 0 st.objs.length ops.toList).length = ops.size := by rw [items_length]; simp
      refine any_ok hT hF (Q := Q) (fun a w hr => hQ _ _ _ hr h2) hf ops.size _ _ hlen (fun p hp => ?_) (fun i => ?_) (items_sorted _ _ _) (by simp) (fun i o hi _ => ?_) (fun x hx => by simpa using hx) h1 (hR1.drawn rfl rfl rfl rfl)
      · obtain ⟨k, e1, e2⟩ := items_mem _ _ _ _ hp
        rw [e2, Nat.zero_add]; simpa using e1
      · constructor
        · intro hi
          have hlt : i < ops.size := by
            rcases Nat.lt_or_ge i ops.size with h | h
            · exact h
            · rw [Array.getD_eq_getD_getElem?, Array.getElem?_eq_none (by simp; exact h)] at hi; cases hi
          obtain ⟨p, hp, hpi⟩ := items_has (E := C.E) ops.toList 0 st.objs.length i (by simpa using hlt)
          exact ⟨p, hp, by omega⟩
        · rintro ⟨p, hp, rfl⟩
          obtain ⟨k, e1, e2⟩ := items_mem _ _ _ _ hp
          have hlt : p.1 < ops.size := by
            have := (List.getElem?_eq_some_iff.1 e1).1
            simp at this; omega
          rw [Array.getD_eq_getD_getElem?, Array.getElem?_replicate, if_pos hlt]; rfl
      · rw [Array.getD_eq_getD_getElem?, Array.getElem?_replicate] at hi
        split at hi <;> cases hi

theorem iter_ok {R : Type} {c : Code} (ih : ∀ {st : St} {K : Ex → St → Option R} {x : R} {a : Act} {w : World} {Q : Exit → Act → World → Prop}, exec C c st K = some x → Rel X st a w → (∀ e st' a' w', Rel X st' a' w' → K e st' = some x → Q (toExit e) a' w') → c.wp P Q a w) {lv : Option (List Tmp × List Tmp)} :
    ∀ (n : Nat) {st : St} {K : Ex → St → Option R} {x : R} {a : Act} {w : World} {Q : Exit → Act → World → Prop}, iterK (exec C c) (St.normO lv) K n st = some x → Rel X st a w → (∀ e st' a' w', Rel X st' a' w' → K e st' = some x → Q (toExit e) a' w') → Code.rounds P c Q n a w
  | 0, st, K, x, a, w, Q, h, _, _ => by cases h
  | n + 1, st, K, x, a, w, Q, h, hR, hK => by
    simp only [iterK] at h
    refine ih h hR (fun e st' a' w' hr he => ?_)
    cases e with
    | normal => exact iter_ok ih n he (hr.normO lv) hK
    | exit id => exact hK (.exit id) _ _ _ hr he
    | ret => exact hK .ret _ _ _ hr he

theorem exec_ok {R : Type} : ∀ (c : Code) {st : St} {K : Ex → St → Option R} {x : R} {a : Act} {w : World} {Q : Exit → Act → World → Prop}, exec C c st K = some x → Rel X st a w → (∀ e st' a' w', Rel X st' a' w' → K e st' = some x → Q (toExit e) a' w') → c.wp P Q a w
  | .skip, st, K, x, a, w, Q, h, hR, hK => wp_skip (hK .normal _ _ _ hR (by simpa [exec] using h))
  | .region id ops draw, st, K, x, a, w, Q, h, hR, hK => by
    simp only [exec] at h
    exact region_ok hT hF hM h (hR.normO _) (fun st' a' w' hr he => hK .normal _ _ _ hr he)
  | .seq c d, st, K, x, a, w, Q, h, hR, hK => by
    simp only [exec] at h
    refine wp_seq (exec_ok c h hR (fun e st' a' w' hr he => ?_))
    cases e with
    | normal => exact exec_ok d he hr hK
    | exit id => exact hK (.exit id) _ _ _ hr he
    | ret => exact hK .ret _ _ _ hr he
  | .cond c d e, st, K, x, a, w, Q, h, hR, hK => by
    simp only [exec] at h
    split at h
    · rename_i b hb
      obtain ⟨H, hR'⟩ := hR
      have hv := bool_of hb (hR'.ev c)
      refine wp_cond hv ?_
      cases b with
      | true => exact exec_ok d h ⟨H, hR'⟩ hK
      | false => exact exec_ok e h ⟨H, hR'⟩ hK
    · cases h
  | .block id c, st, K, x, a, w, Q, h, hR, hK => by
    simp only [exec] at h
    refine wp_block (exec_ok c h hR (fun e st' a' w' hr he => ?_))
    cases e with
    | normal => exact hK .normal _ _ _ hr he
    | exit i =>
      simp only [blockK] at he
      show (if i = id then Q .normal a' w' else Q (.exit i) a' w')
      split at he
      · rename_i hb; rw [if_pos (beq_of hb)]; exact hK .normal _ _ _ hr he
      · rename_i hb
        rw [if_neg (fun e => by subst e; simp at hb)]
        exact hK (.exit i) _ _ _ hr he
    | ret => exact hK .ret _ _ _ hr he
  | .loop c, st, K, x, a, w, Q, h, hR, hK => by
    simp only [exec] at h
    exact wp_loop_rounds C.fuel (iter_ok hT hF hM (fun h hR hK => exec_ok c h hR hK) C.fuel h (hR.normO _) hK)
  | .exit id, st, K, x, a, w, Q, h, hR, hK => wp_exit (hK (.exit id) _ _ _ hR (by simpa [exec] using h))
  | .ret, st, K, x, a, w, Q, h, hR, hK => wp_ret (hK .ret _ _ _ hR (by simpa [exec] using h))
  | .scope c, st, K, x, a, w, Q, h, hR, hK => by
    simp only [exec] at h
    refine wp_scope_straight (exec_ok c h hR (fun e st' a' w' hr he => ?_))
    cases e with
    | normal => exact hK .normal _ _ _ hr he
    | exit i => exact hK (.exit i) _ _ _ hr he
    | ret => exact hK .ret _ _ _ hr he
  | .label _, st, K, x, a, w, Q, h, hR, hK => by simp [exec] at h
  | .goto _, st, K, x, a, w, Q, h, hR, hK => by simp [exec] at h
end
end Go.Proofs.Yteblfhhhbfodgaa.Sim
/- Results. -/
set_option linter.unusedVariables false
set_option linter.unusedSimpArgs false
set_option linter.unusedSectionVars false
namespace Go.Proofs.Yteblfhhhbfodgaa.Sim
open Go Go.RowKit

def Slot.isDead (s : Slot) : Bool := match s.2 with
  | .dead => true
  | _ => false
/-- Of what a result takes: the rows that are handed out, and those that are written no more. -/
def ownU (us : Upds) : List Nat := (us.filter fun u => Slot.isDead u.2).map (·.1)
def fzU (us : Upds) : Upds := us.filter fun u => !Slot.isDead u.2

theorem ownU_append (us vs : Upds) : ownU (us ++ vs) = ownU us ++ ownU vs := by simp [ownU]
theorem fzU_append (us vs : Upds) : fzU (us ++ vs) = fzU us ++ fzU vs := by simp [fzU]
theorem frz_split {os : List Slot} {us : Upds} (h : FrzV os us) : ownU us = [] ∧ fzU us = us := by
  have hd : ∀ u ∈ us, Slot.isDead u.2 = false := by
    intro u hu
    obtain ⟨s, p, _, _, e⟩ := h u.1 u.2 hu
    rw [e]; rfl
  constructor
  · unfold ownU
    rw [List.filter_eq_nil_iff.2 (fun u hu => by rw [hd u hu]; simp)]; rfl
  · unfold fzU
    rw [List.filter_eq_self]
    intro u hu; rw [hd u hu]; rfl

/-- An object handed out. -/
def OwnR (os : List Slot) (i : Nat) (s : Slot) : Prop := ∃ n o, os[i]? = some (n, o) ∧ ((∃ e t xs, o = .arr e t xs ∧ s = (0, .arr e t xs)) ∨ (∃ rv e e2 t xs, o = .rows rv e e2 t xs ∧ s = (0, .rows 0 e e2 t xs)))

theorem All2.append {α β : Type} {R : α → β → Prop} : ∀ {as : List α} {bs : List β} {cs : List α} {ds : List β}, All2 R as bs → All2 R cs ds → All2 R (as ++ cs) (bs ++ ds)
  | _, _, _, _, .nil, h => h
  | _, _, _, _, .cons h1 h2, h => .cons h1 (h2.append h)
theorem All2.length {α β : Type} {R : α → β → Prop} : ∀ {as : List α} {bs : List β}, All2 R as bs → as.length = bs.length
  | _, _, .nil => rfl
  | _, _, .cons _ h => by simp [h.length]
theorem All2.get {α β : Type} {R : α → β → Prop} : ∀ {as : List α} {bs : List β}, All2 R as bs → ∀ (k : Nat) a, as[k]? = some a → ∃ b, bs[k]? = some b ∧ R a b
  | _, _, .nil, k, a, h => by simp at h
  | _, _, .cons h1 h2, 0, a, h => by cases h; exact ⟨_, rfl, h1⟩
  | _, _, .cons h1 h2, k + 1, a, h => h2.get k a h

section
variable {X : Ctx} {H : Nat → Wit} {os : List Slot} {w : World}

/-- What the final state has to be. -/
structure Fin (X : Ctx) (H : Nat → Wit) (os : List Slot) (w : World) (H1 : Nat → Wit) (os1 : List Slot) (Hn : Nat → Wit) (osn : List Slot) (okn : Nat → Prop) (fz : Upds) : Prop where
  kept : Kept X H os w H1 os1 w
  fz : ∀ i sl, (i, sl) ∈ fz → os1[i]? = some sl
  froz : ∀ (i : Nat) ver t xs, os[i]? = some (ver, Obj.froz t xs) → os1[i]? = some (ver, .froz t xs)
  ro : ∀ b, okOf X w H1 os1 b → okn b

theorem Fin.sub {H1 : Nat → Wit} {os1 : List Slot} {Hn : Nat → Wit} {osn : List Slot} {okn : Nat → Prop} {fz fz' : Upds} (h : Fin X H os w H1 os1 Hn osn okn fz) (hs : ∀ u, u ∈ fz' → u ∈ fz) : Fin X H os w H1 os1 Hn osn okn fz' :=
  ⟨h.kept, fun i sl hm => h.fz i sl (hs _ hm), h.froz, h.ro⟩

def OwnAt (H : Nat → Wit) (Hn : Nat → Wit) (osn : List Slot) (k : Nat) (l : List Nat) : Prop := ∀ (j : Nat) i, l[j]? = some i → ∃ o, osn[k + j]? = some (0, o) ∧ o.live = true ∧ (Hn (k + j)).hdr = (H i).hdr
theorem OwnAt.left {Hn : Nat → Wit} {osn : List Slot} {k : Nat} {l m : List Nat} (h : OwnAt H Hn osn k (l ++ m)) : OwnAt H Hn osn k l := fun j i hj => h j i (by rw [List.getElem?_append_left (List.getElem?_eq_some_iff.1 hj).1]; exact hj)
theorem OwnAt.right {Hn : Nat → Wit} {osn : List Slot} {k : Nat} {l m : List Nat} (h : OwnAt H Hn osn k (l ++ m)) : OwnAt H Hn osn (k + l.length) m := fun j i hj => by
  have := h (l.length + j) i (by rw [List.getElem?_append_right (by omega), Nat.add_sub_cancel_left]; exact hj)
  rw [Nat.add_assoc]; exact this

theorem resP_ok (hh : HeapR X H os w) : ∀ (ms : List RM) (cs : List AV) (vs : List Value) (k : Nat), All2 (fun a v => AVR w (okOf X w H os) H os a v) cs vs → ∀ {p : RCells ms × Upds} {rd : List Nat}, (resP ms cs).run (fun i => os[i]?) = some (p, rd) →
    FrzV os (fzU p.2) ∧ All2 (OwnR os) (ownU p.2) ((resCells ms p.1 k).2.map (·.2)) ∧
    ∀ {H1 os1 Hn osn okn}, Fin X H os w H1 os1 Hn osn okn (fzU p.2) → OwnAt H Hn osn k (ownU p.2) → All2 (fun a v => AVR w okn Hn osn a v) (resCells ms p.1 k).1 vs
  | [], [], vs, k, hf, p, rd, h => by
    cases hf
    cases Prog.run_ret h
    exact ⟨fun i sl hm => (by cases hm), .nil, fun _ _ => .nil⟩
  | [], _ :: _, vs, k, hf, p, rd, h => by cases h
  | .ro t :: ms, [], vs, k, hf, p, rd, h => by cases h
  | .own e t :: ms, [], vs, k, hf, p, rd, h => by cases h
  | .rows e e2 t :: ms, [], vs, k, hf, p, rd, h => by cases h
  | .ro t :: ms, a :: cs, vs, k, hf, p, rd, h => by
    cases hf with
    | cons h1 h2 =>
      simp only [resP] at h
      obtain ⟨q, _, _, h3, h4, _⟩ := Prog.run_bind _ _ h
      obtain ⟨r, _, _, h5, h6, _⟩ := Prog.run_bind _ _ h4
      cases Prog.run_ret h6
      have hz := consA_frz h3
      obtain ⟨z1, z2⟩ := frz_split hz
      obtain ⟨g1, g2, g3⟩ := resP_ok hh ms cs _ k h2 h5
      simp only [ownU_append, fzU_append, z1, z2, List.nil_append]
      refine ⟨hz.append g1, g2, fun hfin ho => ?_⟩
      obtain ⟨ds, e1, e2⟩ := consA_reads hfin.kept h1 h3 (fun i sl hm => hfin.fz i sl (List.mem_append_left _ hm)) hfin.froz
      exact .cons ⟨ds, e1.mono (fun _ _ => rfl) hfin.ro, e2⟩ (g3 (hfin.sub fun u hu => List.mem_append_right _ hu) ho)
  | .own e t :: ms, a :: cs, vs, k, hf, p, rd, h => by
    cases a with
    | own i ver =>
      cases hf with
      | cons h1 h2 =>
        simp only [resP] at h
        obtain ⟨s, rd', hs, h⟩ := Prog.run_look h
        obtain ⟨hv, h⟩ := Prog.run_chk h
        obtain ⟨n, o⟩ := s
        cases o with
        | arr e' t' xs =>
          dsimp only at h
          obtain ⟨he, h⟩ := Prog.run_chk h
          obtain ⟨ec, h⟩ := Prog.run_cast h
          subst ec
          obtain ⟨q, _, _, h5, h6, _⟩ := Prog.run_bind _ _ h
          cases Prog.run_ret h6
          have he' := beq_of he
          subst he'
          obtain ⟨g1, g2, g3⟩ := resP_ok hh ms cs _ (k + 1) h2 h5
          obtain ⟨_, hv2⟩ := own_of h1 hs hv
          have e1 : ownU ((i, (ver + 1, .dead)) :: q.2) = [i] ++ ownU q.2 := rfl
          have e2 : fzU ((i, (ver + 1, .dead)) :: q.2) = fzU q.2 := rfl
          rw [e1, e2]
          refine ⟨g1, .cons ⟨n, _, hs, .inl ⟨_, _, _, rfl, rfl⟩⟩ g2, fun hfin ho => .cons ?_ (g3 hfin ho.right)⟩
          obtain ⟨o', p1, p2, p3⟩ := ho 0 i rfl
          exact ⟨h1.1, (0, o'), p1, Nat.le_refl _, fun _ => ⟨p2, by rw [hv2]; exact p3.symm⟩⟩
        | _ => cases h
    | _ => cases h
  | .rows e e2 t :: ms, a :: cs, vs, k, hf, p, rd, h => by
    cases a with
    | own i ver =>
      cases hf with
      | cons h1 h2 =>
        simp only [resP] at h
        obtain ⟨s, rd', hs, h⟩ := Prog.run_look h
        obtain ⟨hv, h⟩ := Prog.run_chk h
        obtain ⟨n, o⟩ := s
        cases o with
        | rows rv e' e2' t' xs =>
          dsimp only at h
          obtain ⟨he, h⟩ := Prog.run_chk h
          obtain ⟨ec, h⟩ := Prog.run_cast h
          subst ec
          obtain ⟨q, _, _, h5, h6, _⟩ := Prog.run_bind _ _ h
          cases Prog.run_ret h6
          rw [Bool.and_eq_true] at he
          have he1 := beq_of he.1
          have he2 := beq_of he.2
          subst he1; subst he2
          obtain ⟨g1, g2, g3⟩ := resP_ok hh ms cs _ (k + 1) h2 h5
          obtain ⟨_, hv2⟩ := own_of h1 hs hv
          have e1 : ownU ((i, (ver + 1, .dead)) :: q.2) = [i] ++ ownU q.2 := rfl
          have e2 : fzU ((i, (ver + 1, .dead)) :: q.2) = fzU q.2 := rfl
          rw [e1, e2]
          refine ⟨g1, .cons ⟨n, _, hs, .inr ⟨_, _, _, _, _, rfl, rfl⟩⟩ g2, fun hfin ho => .cons ?_ (g3 hfin ho.right)⟩
          obtain ⟨o', p1, p2, p3⟩ := ho 0 i rfl
          exact ⟨h1.1, (0, o'), p1, Nat.le_refl _, fun _ => ⟨p2, by rw [hv2]; exact p3.symm⟩⟩
        | _ => cases h
    | _ => cases h
end
end Go.Proofs.Yteblfhhhbfodgaa.Sim
/- A contract holds where the interpreter says so. -/
set_option linter.unusedVariables false
set_option linter.unusedSimpArgs false
set_option linter.unusedSectionVars false
namespace Go.Proofs.Yteblfhhhbfodgaa.Sim
open Go Go.RowKit

/-- What a result variable gives. -/
def resSem (tmps : Array Value) : ResultVar → Sem Value
  | .tmp t => pure (tmps.getD t undef)
  | .cell a t => do loadVar t (← asAddr (tmps.getD a undef))

theorem results_eq (fn : Func) (tmps : Array Value) : results fn tmps = (do let vs ← fn.results.mapM (resSem tmps); pure (if h : vs.size = 1 then vs[0] else .tuple vs)) := by
  unfold results
  congr 1

section
variable {X : Ctx} {H : Nat → Wit} {st : St} {a : Act} {w : World} {P : Program} {E : Env} (hT : TabOk P E)
include hT

theorem resVar_ok (hR : RelH X H st a w) {v : ResultVar} {tv : TV} {rd : List Nat} (h : (resVar E st v).run st.look = some (tv, rd)) : ∃ u, (resSem a.tmps v).run P w = .ok u w ∧ TVR w (okOf X w H st.objs) H st.objs tv u := by
  cases v with
  | tmp t =>
    cases Prog.run_ret h
    exact ⟨a.tmps.getD t undef, by simp [resSem], hR.ev (.tmp t)⟩
  | cell b t =>
    obtain ⟨res, _, _, h1, h2, _⟩ := Prog.run_bind _ _ h
    cases Prog.run_ret h2
    obtain ⟨u, e1, _, e3⟩ := loadP_ok (P := P) hT hR.heap (hR.ev (.tmp b)) h1
    refine ⟨u, ?_, e3⟩
    simp only [Act.eval] at e1
    simp only [resSem]
    generalize a.tmps.getD b undef = x at e1
    cases x with
    | pointer p =>
      cases p with
      | some ad => simpa [Instr.loadAt, Instr.sureAddr, asAddr] using e1
      | none => simp [Instr.loadAt, Instr.sureAddr, stuck] at e1
    | _ => simp [Instr.loadAt, Instr.sureAddr, stuck] at e1

theorem all2_cells {ok : Nat → Prop} {os : List Slot} {cs : List AV} {vs : Array Value} (h : CellsR w ok H os cs vs) : All2 (fun a v => AVR w ok H os a v) cs vs.toList := by
  have key : ∀ (cs : List AV) (vs : List Value), vs.length = cs.length → (∀ (k : Nat) a, cs[k]? = some a → ∃ v, vs[k]? = some v ∧ AVR w ok H os a v) → All2 (fun a v => AVR w ok H os a v) cs vs := by
    intro cs
    induction cs with
    | nil => intro vs hl _; rw [List.eq_nil_of_length_eq_zero hl]; exact .nil
    | cons a cs ih =>
      intro vs hl hr
      cases vs with
      | nil => cases hl
      | cons v vs =>
        obtain ⟨v', e1, e2⟩ := hr 0 a rfl
        cases e1
        exact .cons e2 (ih vs (by simpa using hl) (fun k b hb => hr (k + 1) b hb))
  exact key cs vs.toList (by simpa using h.1) (fun k a ha => by obtain ⟨v, g1, g2, _⟩ := h.2 k a ha; exact ⟨v, by simpa using g1, g2⟩)

theorem resVars_ok (hR : RelH X H st a w) : ∀ (rs : List (Bool × List RM)) (vs : List ResultVar) (k : Nat) {p : RDen rs × Upds} {rd : List Nat}, (resVars E st rs vs).run st.look = some (p, rd) →
    ∃ us : List Value, All2 (fun v u => (resSem a.tmps v).run P w = .ok u w) vs us ∧ FrzV st.objs (fzU p.2) ∧ All2 (OwnR st.objs) (ownU p.2) ((resAll rs p.1 k).2.map (·.2)) ∧
    ∀ {H1 os1 Hn osn okn}, Fin X H st.objs w H1 os1 Hn osn okn (fzU p.2) → OwnAt H Hn osn k (ownU p.2) → All2 (fun q u => CVR w okn Hn osn q.1 q.2 u) (resAll rs p.1 k).1 us
  | [], [], k, p, rd, h => by
    cases Prog.run_ret h
    exact ⟨[], .nil, fun i sl hm => (by cases hm), .nil, fun _ _ => .nil⟩
  | [], _ :: _, k, p, rd, h => by cases h
  | m :: ms, [], k, p, rd, h => by cases h
  | m :: ms, v :: vs, k, p, rd, h => by
    simp only [resVars] at h
    obtain ⟨tv, _, _, h1, h2, _⟩ := Prog.run_bind _ _ h
    obtain ⟨u, e1, e2⟩ := resVar_ok (P := P) hT hR h1
    cases tv with
    | tup vs => cases h2
    | cv b cs =>
      obtain ⟨hb, h2⟩ := Prog.run_chk h2
      obtain ⟨q, _, _, h3, h4, _⟩ := Prog.run_bind _ _ h2
      obtain ⟨r, _, _, h5, h6, _⟩ := Prog.run_bind _ _ h4
      cases Prog.run_ret h6
      rw [Bool.and_eq_true] at hb
      have hbm := of_decide_eq_true hb.1
      obtain ⟨vals, hvals, hback⟩ : ∃ vals : List Value, All2 (fun a v => AVR w (okOf X w H st.objs) H st.objs a v) cs vals ∧ ∀ {okn Hn osn} {ds : List AV}, All2 (fun a v => AVR w okn Hn osn a v) ds vals → CVR w okn Hn osn b ds u := by
        cases b with
        | false =>
          have hl := hb.2
          simp only [Bool.false_or] at hl
          have hl := beq_of hl
          obtain ⟨a', rfl⟩ := List.length_eq_one_iff.1 hl
          refine ⟨[u], .cons (e2 a' rfl) .nil, fun hds => ?_⟩
          intro a'' e
          cases hds with
          | cons g1 g2 => cases e; exact g1
        | true =>
          obtain ⟨vs', g1, g2⟩ := e2
          refine ⟨vs'.toList, all2_cells hT g2, fun hds => ⟨vs', g1, by simpa using hds.length.symm, fun k a'' ha => ?_⟩⟩
          obtain ⟨v', q1, q2⟩ := hds.get k a'' ha
          refine ⟨v', by simpa using q1, q2, ?_⟩
          have hlt : k < cs.length := by
            have h1 := (List.getElem?_eq_some_iff.1 q1).1
            have h2 := g2.1
            simp at h1; omega
          obtain ⟨v'', r1, _, r3⟩ := g2.2 k _ (List.getElem?_eq_getElem hlt)
          have : v'' = v' := by
            have q1' : vs'[k]? = some v' := by simpa using q1
            exact Option.some.inj (r1.symm.trans q1')
          rw [← this]; exact r3
      obtain ⟨f1, f2, f3⟩ := resP_ok hR.heap m.2 cs vals k hvals h3
      have hlen : (ownU q.2).length = (resCells m.2 q.1 k).2.length := by have := f2.length; simpa using this
      obtain ⟨us, g1, g2, g3, g4⟩ := resVars_ok hR ms vs (k + (ownU q.2).length) h5
      refine ⟨u :: us, .cons e1 g1, ?_, ?_, fun hfin ho => ?_⟩
      · simp only [fzU_append]; exact FrzU.append f1 g2
      · simp only [ownU_append, resAll, List.map_append]
        rw [← hlen]
        exact f2.append g3
      · simp only [fzU_append] at hfin
        simp only [ownU_append] at ho
        have hcv : CVR w _ _ _ b _ u := hback (f3 (hfin.sub fun x hx => List.mem_append_left _ hx) ho.left)
        simp only [resAll]
        rw [← hlen, ← hbm]
        exact .cons hcv (g4 (hfin.sub fun x hx => List.mem_append_right _ hx) ho.right)

theorem mapM_ok : ∀ {vs : List ResultVar} {us : List Value}, All2 (fun v u => (resSem a.tmps v).run P w = .ok u w) vs us → (vs.mapM (resSem a.tmps)).run P w = .ok us w
  | _, _, .nil => by simp
  | _, _, .cons h1 h2 => by
    rw [List.mapM_cons]
    simp [h1, mapM_ok h2]

omit hT in
theorem noTwice_nodup : ∀ {l : List Nat}, noTwice l = true → l.Nodup
  | [], _ => List.nodup_nil
  | x :: xs, h => by
    simp only [noTwice, Bool.and_eq_true, Bool.not_eq_true'] at h
    rw [List.nodup_cons]
    refine ⟨fun hm => ?_, noTwice_nodup h.2⟩
    have := List.elem_iff.2 hm
    rw [h.1] at this; cases this

/-- At a body's end. -/
theorem finish_ok (hR : RelH X H st a w) {fn : Func} {rs : List (Bool × List RM)} {y : RDen rs} {us : Upds} {rd : List Nat} (h : (resVars E st rs fn.results.toList).run st.look = some ((y, us), rd)) (hn : noTwice (us.map (·.1)) = true) :
    ∃ v Hn, (results fn a.tmps).run P w = .ok v w ∧ HeapR X Hn (resObjs rs y) w ∧ TVR w (okOf X w Hn (resObjs rs y)) Hn (resObjs rs y) (resTV rs y 0).val v := by
  obtain ⟨vals, g1, g2, g3, g4⟩ := resVars_ok (P := P) hT hR rs _ 0 h
  obtain ⟨H1, k1, k2, k3, k4⟩ := frz_all (fzU us) hR.heap g2
  have hnd := noTwice_nodup hn
  have hown : (ownU us).Nodup := List.Nodup.sublist (List.Sublist.map _ List.filter_sublist) hnd
  -- what is handed out is not among the frozen
  have hap : ∀ i ∈ ownU us, apart i (fzU us) = true := by
    intro i hi
    unfold ownU at hi
    rw [List.mem_map] at hi
    obtain ⟨u, hu, rfl⟩ := hi
    rw [List.mem_filter] at hu
    rw [apart, List.all_eq_true]
    intro v hv
    unfold fzU at hv
    rw [List.mem_filter] at hv
    simp only [Bool.not_eq_true']
    cases hb : Nat.beq v.1 u.1 with
    | false => rfl
    | true =>
      exfalso
      have he := beq_of hb
      obtain ⟨i, hi⟩ := List.getElem?_of_mem hu.1
      obtain ⟨j, hj⟩ := List.getElem?_of_mem hv.1
      have hi' : (us.map (·.1))[i]? = some u.1 := by rw [List.getElem?_map, hi]; rfl
      have hj' : (us.map (·.1))[j]? = some u.1 := by rw [List.getElem?_map, hj, Option.map_some, he]
      have h1 := List.getElem?_eq_some_iff.1 hi'
      have h2 := List.getElem?_eq_some_iff.1 hj'
      have : i = j := (List.getElem_inj hnd).1 (h1.2.trans h2.2.symm)
      subst this
      rw [hi] at hj
      cases hj
      rw [hu.2] at hv
      exact absurd hv.2 (by simp)
  have hlt : ∀ i ∈ ownU us, i < (setAll st.objs (fzU us)).length := by
    intro i hi
    obtain ⟨j, hj⟩ := List.getElem?_of_mem hi
    obtain ⟨s, _, n, o, e1, _⟩ := g3.get j i hj
    rw [setAll_length]
    exact (List.getElem?_eq_some_iff.1 e1).1
  obtain ⟨p1, p2⟩ := k1.1.pick hown hlt
  have hobj : reO (setAll st.objs (fzU us)) (ownU us) = resObjs rs y := by
    unfold resObjs
    rw [resTV_upds]
    apply List.ext_getElem?
    intro j
    have hl := g3.length
    by_cases hj : j < (ownU us).length
    · have e := List.getElem?_eq_getElem hj
      obtain ⟨s, e2, n, o, e3, e4⟩ := g3.get j _ e
      have hos : (setAll st.objs (fzU us))[(ownU us)[j]]? = some (n, o) := by
        rw [setAll_other _ (hap _ (List.getElem_mem hj))]; exact e3
      rw [reO_at e hos]
      have e2' : ((resAll rs y 0).2.map (·.2))[j]? = some s := e2
      rw [e2']
      rcases e4 with ⟨_, _, _, rfl, rfl⟩ | ⟨_, _, _, _, _, rfl, rfl⟩ <;> rfl
    · have h1 : (reO (setAll st.objs (fzU us)) (ownU us)).length = (ownU us).length := by simp [reO]
      have h2 : ((resAll rs y 0).2.map (·.2)).length = (ownU us).length := hl.symm
      rw [List.getElem?_eq_none (by omega), List.getElem?_eq_none (by omega)]
  rw [hobj] at p1 p2
  have hvals := g4 (H1 := H1) (os1 := setAll st.objs (fzU us)) (Hn := reH H1 (ownU us)) (osn := resObjs rs y) (okn := okOf X w (reH H1 (ownU us)) (resObjs rs y)) ⟨k1, k3, k4, p2⟩ (fun j i hj => by
    obtain ⟨s, e2, n, o, e3, e4⟩ := g3.get j i hj
    have hos : (setAll st.objs (fzU us))[i]? = some (n, o) := by
      rw [setAll_other _ (hap _ (List.mem_of_getElem? hj))]; exact e3
    have hat := reO_at hj hos
    rw [hobj] at hat
    refine ⟨_, by rw [Nat.zero_add]; exact hat, ?_, ?_⟩
    · rcases e4 with ⟨_, _, _, rfl, rfl⟩ | ⟨_, _, _, _, _, rfl, rfl⟩ <;> rfl
    · rw [Nat.zero_add, reH_at hj, k2 i (hap _ (List.mem_of_getElem? hj))])
  have hrun : (results fn a.tmps).run P w = .ok (if h : vals.toArray.size = 1 then vals.toArray[0] else .tuple vals.toArray) w := by
    rw [results_eq, Array.mapM_eq_mapM_toList]
    simp [mapM_ok hT g1]
  refine ⟨_, _, hrun, p1, ?_⟩
  have hlen := hvals.length
  unfold resTV
  generalize resAll rs y 0 = q at hvals hlen
  obtain ⟨qs, qu⟩ := q
  match qs, vals, hvals, hlen with
  | [], [], _, _ => exact ⟨#[], rfl, fun k p hp => by simp at hp⟩
  | [q], [u], hvals, _ =>
    cases hvals with
    | cons h1 h2 => exact h1
  | q1 :: q2 :: qs, u1 :: u2 :: us', hvals, _ =>
    refine ⟨(u1 :: u2 :: us').toArray, by simp, fun k p hp => ?_⟩
    obtain ⟨u, e1, e2⟩ := hvals.get k p hp
    exact ⟨u, by simpa using e1, e2⟩
end
end Go.Proofs.Yteblfhhhbfodgaa.Sim
/- Functions: from the interpreter's answer to the contract. -/
set_option linter.unusedVariables false
set_option linter.unusedSimpArgs false
set_option linter.unusedSectionVars false
namespace Go.Proofs.Yteblfhhhbfodgaa.Sim
open Go Go.RowKit

section
variable {w : World} {ok : Nat → Prop}

theorem args_length : ∀ {ts : List Ty} {x : DenL ts} {vs : List Value}, ArgsR w ok ts x vs → vs.length = ts.length
  | [], _, _, h => by cases h; rfl
  | _ :: _, _, _, ⟨cs, rest, h1, h2, h3⟩ => by rw [h1, List.length_cons, List.length_cons, args_length h3]
theorem argTVs_length : ∀ (ts : List Ty) (x : DenL ts), (argTVs ts x).length = ts.length
  | [], _ => rfl
  | t :: ts, x => by simp [argTVs, argTVs_length ts x.2]
theorem args_at {H : Nat → Wit} {os : List Slot} : ∀ {ts : List Ty} {x : DenL ts} {vs : List Value}, ArgsR w ok ts x vs → ∀ (k : Nat) y, (argTVs ts x)[k]? = some y → ∃ v, vs[k]? = some v ∧ TVR w ok H os y v
  | [], _, _, _, k, y, h => by simp [argTVs] at h
  | t :: ts, x, vs, ⟨cs, rest, h1, h2, h3⟩, 0, y, h => by cases h; exact ⟨_, by rw [h1]; rfl, tv_ro h2⟩
  | t :: ts, x, vs, ⟨cs, rest, h1, h2, h3⟩, k + 1, y, h => by
    obtain ⟨v, g1, g2⟩ := args_at h3 k y h
    exact ⟨v, by rw [h1]; exact g1, g2⟩

/-- A body's beginning. -/
theorem start_rel {fn : Func} {ts : List Ty} {x : DenL ts} {ok0 : Nat → Prop} {args : Array Value} (h : ArgsR w (fun b => b < w.heap.size ∧ ok0 b) ts x args.toList) : Rel (.pure w ok0) (start fn ts x) { tmps := args ++ Array.replicate (fn.ntmps - args.size) undef, defers := [] } w := by
  have hl : args.size = ts.length := by have := args_length h; simpa using this
  refine ⟨fun _ => ⟨undef, [], []⟩, ⟨Bel.refl _ _, fun i s hs => by simp [start] at hs, fun i j b hi => by simp [start] at hi, fun i hi => by simp [start] at hi, fun i b hi => by simp [start] at hi⟩, ?_, fun t y hy => ?_, rfl, fun k fr hk => by simp [start] at hk⟩
  · simp [start, argTVs_length, hl]
  · simp only [start] at hy
    have hk : ∀ b, (b < w.heap.size ∧ ok0 b) → okOf (.pure w ok0) w (fun _ => ⟨undef, [], []⟩) (start fn ts x).objs b := fun b hb => ⟨hb.1, fun _ => .inl hb.2, fun i _ => by simp⟩
    by_cases ht : t < (argTVs ts x).length
    · rw [List.getElem?_append_left ht] at hy
      obtain ⟨v, g1, g2⟩ := args_at (H := fun _ => ⟨undef, [], []⟩) (os := (start fn ts x).objs) h t y hy
      have ht2 : t < args.size := by rw [argTVs_length] at ht; omega
      refine ⟨v, ?_, g2.mono (fun _ _ => rfl) hk (fun i s hs _ => ⟨s, hs, Evol.refl _ _⟩)⟩
      rw [Array.getElem?_append_left ht2]; simpa using g1
    · rw [List.getElem?_append_right (by omega), List.getElem?_replicate] at hy
      split at hy
      · rename_i hlt
        cases hy
        rw [argTVs_length] at hlt ht
        refine ⟨undef, ?_, tv_one rfl⟩
        rw [Array.getElem?_append_right (by omega), Array.getElem?_replicate, if_pos (by omega)]
      · cases hy
end

theorem goFrom_nil {R : Type} (C : Cfg) (c : Code) (st : St) (K : Ex → St → Option R) : goFrom C [] c st K = exec C c st K := by cases c <;> rfl

/-- A contract whose function is the interpreter's answer. -/
theorem holds_of {P : Program} {C : Cfg} {c : Contract} {f : FuncId} {fn : Func} {code : Code} (hT : TabOk P C.E) (hF : AllHold P C.E) (hM : P.follows .mixedOrders = true)
    (hf : P.funcs[f]? = some fn) (hn : (fn.name == "runtime.NumGoroutine") = false) (hb : fn.body = some code) {g : RDen c.rs → c.R} (hg : ∀ y, c.back (g y) = y)
    (he : ∀ x, c.fn x = fromAt C fn c.rs g [] (start fn c.ps x)) : Holds P f c := by
  refine ⟨⟨fn, hf, hn, by rw [hb]; rfl⟩, fun w ok0 args x r ha hr => ?_⟩
  rw [he, fromAt, goFrom_nil, bodyOf, hb, Option.getD_some] at hr
  refine calls_of_wp hf hb (exec_ok hT hF hM code hr (start_rel ha) (fun e st' a' w' hR hk => ?_))
  have fin : (resVars C.E st' c.rs fn.results.toList).cps st'.look (fun p _ => match noTwice (p.2.map (·.1)) with | true => some (g p.1) | false => none) [] = some r → a'.defers = [] ∧ ∃ v, (results fn a'.tmps).run P w' = .ok v w' ∧ ∃ v' H, Ending.returned v = .returned v' ∧ HeapR (.pure w ok0) H (resObjs c.rs (c.back r)) w' ∧
      TVR w' (okOf (.pure w ok0) w' H (resObjs c.rs (c.back r))) H (resObjs c.rs (c.back r)) (resTV c.rs (c.back r) 0).val v' := by
    intro hk
    rw [Prog.cps_run, Option.bind_eq_some_iff] at hk
    obtain ⟨⟨⟨y, us⟩, rd⟩, h1, h2⟩ := hk
    dsimp only at h2
    cases hnt : noTwice (us.map (·.1)) with
    | false => rw [hnt] at h2; cases h2
    | true =>
      rw [hnt] at h2
      cases h2
      obtain ⟨H, hR⟩ := hR
      obtain ⟨v, Hn, k1, k2, k3⟩ := finish_ok (P := P) hT hR h1 hnt
      rw [hg]
      exact ⟨hR.defers, v, k1, v, Hn, rfl, k2, k3⟩
  cases e with
  | normal => exact fin hk
  | exit id => cases hk
  | ret => exact fin hk
end Go.Proofs.Yteblfhhhbfodgaa.Sim
/- The table of types, checked by computing; contracts of a table. -/
set_option linter.unusedVariables false
set_option linter.unusedSimpArgs false
set_option linter.unusedSectionVars false
namespace Go.Proofs.Yteblfhhhbfodgaa.Sim
open Go Go.RowKit

/-- Cells that zeros are made of, compared. -/
def cellEq : Value → Value → Bool
  | .int k n, .int k' n' => decide (k = k') && decide (n = n')
  | .bool a, .bool b => a == b
  | .string a, .string b => decide (a = b)
  | .slice none 0 0, .slice none 0 0 => true
  | .map none, .map none => true
  | _, _ => false
theorem cellEq_ok {a b : Value} (h : cellEq a b = true) : a = b := by
  unfold cellEq at h
  split at h
  · rw [Bool.and_eq_true] at h; rw [of_decide_eq_true h.1, of_decide_eq_true h.2]
  · rw [eq_of_beq h]
  · rw [of_decide_eq_true h]
  · rfl
  · rfl
  · cases h
def cellsEq : List Value → List Value → Bool
  | [], [] => true
  | a :: as, b :: bs => cellEq a b && cellsEq as bs
  | _, _ => false
theorem cellsEq_ok : ∀ {as bs : List Value}, cellsEq as bs = true → as = bs
  | [], [], _ => rfl
  | [], _ :: _, h => by cases h
  | _ :: _, [], h => by cases h
  | a :: as, b :: bs, h => by
    simp only [cellsEq, Bool.and_eq_true] at h
    rw [cellEq_ok h.1, cellsEq_ok h.2]
def zeroEq (z : Option Value) (t : Ty) : Bool := match z with
  | some v => (match t.isAgg with
    | true => (match v with
      | .agg cs => cellsEq cs.toList t.zcells
      | _ => false)
    | false => cellEq v (t.zcells.headD undef))
  | none => false
theorem zeroEq_ok {z : Option Value} {t : Ty} (h : zeroEq z t = true) : z = some (valOf t t.zcells) := by
  unfold zeroEq at h
  cases z with
  | none => cases h
  | some v =>
    unfold valOf
    cases ha : t.isAgg with
    | true =>
      rw [ha] at h
      cases v <;> try (cases h; done)
      rename_i cs
      rw [if_pos rfl, ← cellsEq_ok h]
    | false => rw [ha] at h; rw [cellEq_ok h]; rfl

def chainB (E : Env) : List (TypeId × Nat) → Nat → Ty → Bool
  | [], _, ty => decide (ty = .unit)
  | f :: fs, off, ty => match ty with
    | .pair a b => decide ((E.info f.1).ty = some a) && Nat.beq f.2 off && chainB E fs (off + a.sz) b
    | _ => false
theorem chainB_ok {E : Env} : ∀ {fs : List (TypeId × Nat)} {off : Nat} {ty : Ty}, chainB E fs off ty = true → Chain E fs off ty
  | [], off, ty, h => by unfold chainB at h; exact (of_decide_eq_true h : ty = .unit)
  | f :: fs, off, ty, h => by
    unfold chainB at h
    split at h
    · rename_i a b
      simp only [Bool.and_eq_true] at h
      exact ⟨a, b, rfl, of_decide_eq_true h.1.1, beq_of h.1.2, chainB_ok h.2⟩
    · cases h

def fieldsEq (F : List Field) (fs : List (TypeId × Nat)) : Bool := decide (F.map (fun f => (f.type, f.offset)) = fs)

def infoB (P : Program) (E : Env) (t : TypeId) : Bool := match P.info? t with
  | some i => Nat.beq i.size (E.info t).size && Nat.beq i.bytes (E.info t).bytes && (match (E.info t).ty with
    | some ty => Nat.beq ty.sz (E.info t).size && zeroEq i.zero ty
    | none => (match (E.info t).shp with
      | .map _ _ => (match i.zero with | some v => cellEq v (.map none) | none => false)
      | _ => true))
  | none => false
def shpB (P : Program) (E : Env) (t : TypeId) : Bool := match (E.info t).shp with
  | .other => (E.info t).ty.isNone
  | .prim => (match P.underlying t with
    | some (.int k) => decide ((E.info t).ty = some (.int k))
    | some .bool => decide ((E.info t).ty = some .bool)
    | some .string => decide ((E.info t).ty = some .str)
    | _ => false)
  | .slice e => (match P.underlying t with
    | some (.slice e') => Nat.beq e' e && (match (E.info e).ty with
      | some u => decide ((E.info t).ty = some (.slice u)) && Nat.blt 0 u.sz && Nat.blt 0 (E.info e).bytes
      | none => (E.info t).ty.isNone)
    | _ => false)
  | .struct fs => (match P.underlying t with
    | some (.struct F) => fieldsEq F.toList fs && (match (E.info t).ty with
      | some ty => chainB E fs 0 ty
      | none => true)
    | _ => false)
  | .array n e => (match P.underlying t with
    | some (.array n' e') => Nat.beq n' n && Nat.beq e' e && (match (E.info t).ty with
      | some (.arr m u) => Nat.beq m n && decide ((E.info e).ty = some u) && Nat.blt 0 u.sz
      | some _ => false
      | none => true)
    | _ => false)
  | .map k v => (match P.underlying t with
    | some (.map k' v') => Nat.beq k' k && Nat.beq v' v && (E.info t).ty.isNone
    | _ => false)
def Shp.isOther : Shp → Bool
  | .other => true
  | _ => false
def tiB (P : Program) (E : Env) (t : TypeId) : Bool := ((E.info t).shp.isOther || infoB P E t) && shpB P E t

theorem isNone_none {α : Type} {x : Option α} (h : x.isNone = true) : x = none := by cases x <;> first | rfl | cases h

theorem tiB_ok {P : Program} {E : Env} {t : TypeId} (h : tiB P E t = true) : TIok P E t := by
  unfold tiB at h
  rw [Bool.and_eq_true] at h
  obtain ⟨h1, h2⟩ := h
  have hinfo : (E.info t).shp ≠ .other → infoB P E t = true := fun hne => by
    rw [Bool.or_eq_true] at h1
    rcases h1 with h1 | h1
    · cases hs : (E.info t).shp <;> rw [hs] at h1 hne <;> first | exact absurd rfl hne | cases h1
    · exact h1
  unfold shpB at h2
  refine ⟨?_, ?_, ?_, ?_, ?_, ?_, ?_⟩
  · intro hne
    have hi := hinfo hne
    unfold infoB at hi
    split at hi
    · rename_i i hP
      simp only [Bool.and_eq_true] at hi
      obtain ⟨⟨g1, g2⟩, g3⟩ := hi
      refine ⟨i, hP, beq_of g1, beq_of g2, ?_, ?_⟩
      · intro ty hty
        rw [hty] at g3
        simp only [Bool.and_eq_true] at g3
        exact ⟨beq_of g3.1, zeroEq_ok g3.2⟩
      · intro hty k v hm
        rw [hty, hm] at g3
        dsimp only at g3
        split at g3
        · rename_i v' hv'; rw [hv', cellEq_ok g3]
        · cases g3
    · cases hi
  · intro ty hty hs
    rw [hs] at h2
    dsimp only at h2
    rw [hty] at h2; cases h2
  · intro hs
    rw [hs] at h2
    dsimp only at h2
    split at h2
    · rename_i k hu; exact ⟨_, of_decide_eq_true h2, .inl ⟨k, rfl, hu⟩⟩
    · rename_i hu; exact ⟨_, of_decide_eq_true h2, .inr (.inl ⟨rfl, hu⟩)⟩
    · rename_i hu; exact ⟨_, of_decide_eq_true h2, .inr (.inr ⟨rfl, hu⟩)⟩
    · cases h2
  · intro e hs
    rw [hs] at h2
    dsimp only at h2
    split at h2
    · rename_i e' hu
      rw [Bool.and_eq_true] at h2
      have he := beq_of h2.1
      subst he
      refine ⟨hu, ?_, ?_⟩
      · intro u hu2
        have h3 := h2.2
        rw [hu2] at h3
        simp only [Bool.and_eq_true] at h3
        exact ⟨of_decide_eq_true h3.1.1, blt_true h3.1.2, blt_true h3.2⟩
      · intro ty hty
        have h3 := h2.2
        cases hu2 : (E.info e').ty with
        | none => rw [hu2] at h3; dsimp only at h3; rw [hty] at h3; cases h3
        | some u =>
          rw [hu2] at h3
          simp only [Bool.and_eq_true] at h3
          have := of_decide_eq_true h3.1.1
          rw [hty] at this
          exact ⟨u, Option.some.inj this, rfl⟩
    · cases h2
  · intro fs hs
    rw [hs] at h2
    dsimp only at h2
    split at h2
    · rename_i F hu
      rw [Bool.and_eq_true] at h2
      refine ⟨F, hu, of_decide_eq_true h2.1, ?_⟩
      intro ty hty
      have h3 := h2.2
      rw [hty] at h3
      exact chainB_ok h3
    · cases h2
  · intro n e hs
    rw [hs] at h2
    dsimp only at h2
    split at h2
    · rename_i n' e' hu
      simp only [Bool.and_eq_true] at h2
      obtain ⟨⟨g1, g2⟩, g3⟩ := h2
      have e1 := beq_of g1
      have e2 := beq_of g2
      subst e1; subst e2
      refine ⟨hu, ?_⟩
      intro ty hty
      rw [hty] at g3
      cases ty with
      | arr m u =>
        simp only [Bool.and_eq_true] at g3
        have := beq_of g3.1.1
        subst this
        exact ⟨u, rfl, of_decide_eq_true g3.1.2, blt_true g3.2⟩
      | _ => cases g3
    · cases h2
  · intro k v hs
    rw [hs] at h2
    dsimp only at h2
    split at h2
    · rename_i k' v' hu
      simp only [Bool.and_eq_true] at h2
      have e1 := beq_of h2.1.1
      have e2 := beq_of h2.1.2
      subst e1; subst e2
      exact ⟨hu, isNone_none h2.2⟩
    · cases h2

theorem info_out {E : Env} {t : TypeId} (h : E.ti.length ≤ t) : E.info t = ⟨none, 0, 0, .other⟩ := by
  unfold Env.info; rw [List.getElem?_eq_none h]; rfl
theorem tab_of {P : Program} {E : Env} (h : (List.range E.ti.length).all (tiB P E) = true) : TabOk P E := by
  intro t
  rcases Nat.lt_or_ge t E.ti.length with ht | ht
  · rw [List.all_eq_true] at h
    exact tiB_ok (h t (List.mem_range.2 ht))
  · refine tiB_ok ?_
    unfold tiB shpB
    rw [info_out ht]; rfl

theorem chain_re {ti : List TI} {fl fl' : List (FuncId × Contract)} {rl rl' : List Tmp} : ∀ {fs : List (TypeId × Nat)} {off : Nat} {ty : Ty}, Chain ⟨ti, fl, rl⟩ fs off ty → Chain ⟨ti, fl', rl'⟩ fs off ty
  | [], _, _, h => h
  | _ :: _, _, _, ⟨a, b, h1, h2, h3, h4⟩ => ⟨a, b, h1, h2, h3, chain_re h4⟩
theorem TabOk.re {P : Program} {ti : List TI} {fl fl' : List (FuncId × Contract)} {rl rl' : List Tmp} (h : TabOk P ⟨ti, fl, rl⟩) : TabOk P ⟨ti, fl', rl'⟩ := fun t =>
  ⟨(h t).info, (h t).tyo, (h t).prim, (h t).slice, fun fs hs => by obtain ⟨F, a, b, c⟩ := (h t).struct fs hs; exact ⟨F, a, b, fun ty hty => chain_re (c ty hty)⟩, (h t).array, (h t).map⟩

theorem allHold_nil {P : Program} {ti : List TI} {rl : List Tmp} : AllHold P ⟨ti, [], rl⟩ := fun f c h => by cases h
theorem allHold_cons {P : Program} {ti : List TI} {rl : List Tmp} {f : FuncId} {c : Contract} {fl : List (FuncId × Contract)} (h : Holds P f c) (hs : AllHold P ⟨ti, fl, rl⟩) : AllHold P ⟨ti, (f, c) :: fl, rl⟩ := by
  intro f' c' h'
  unfold Env.fns at h'
  simp only [List.find?_cons] at h'
  cases hb : Nat.beq f f' with
  | true =>
    rw [hb] at h'
    cases h'
    rw [← beq_of hb]; exact h
  | false =>
    rw [hb] at h'
    exact hs f' c' h'
end Go.Proofs.Yteblfhhhbfodgaa.Sim
/- What comes in, as data of the table's types. -/
set_option linter.unusedVariables false
set_option linter.unusedSimpArgs false
set_option linter.unusedSectionVars false
namespace Go.Proofs.Yteblfhhhbfodgaa.Sim
open Go Go.RowKit Go.ChangeShapes Go.WideShapes Go.Deep
section
variable {P : Program}
theorem cell_lt {w : World} {a : Addr} {u : Value} (h : w.cell? a = some u) : a.block < w.heap.size := by
  rcases Nat.lt_or_ge a.block w.heap.size with hlt | hge
  · exact hlt
  · exfalso
    unfold World.cell? at h
    rw [Array.getElem?_eq_none hge] at h
    simp at h
theorem cells_get {w : World} {base n : Nat} {a : Addr} {cs : List Value} (h : w.cells? base a n = some cs) : cs.length = n ∧ ∀ i u, cs[i]? = some u → w.cell? (a.add i) = some u := by
  unfold World.cells? at h
  split at h
  · have h1 := mapM_some_length h
    rw [List.length_range] at h1
    refine ⟨h1, fun i u hu => ?_⟩
    have hi : i < cs.length := (List.getElem?_eq_some_iff.1 hu).1
    have := mapM_some_get h i i (List.getElem?_range (by omega))
    rw [hu] at this
    exact this
  · cases h
/-- Whatever reads as data of type t has a value of this kind, and that value is fine. -/
def Opens (P : Program) (t : Nat) (d : Ty) (ok : d.den → Prop) : Prop :=
  ∀ {H : Type} (enc : TypeId × Value → H) (W : World) (spare : Nat → Bool) (held : Bool) (fuel : Nat) (cs : List Value) (x : DataW H × List MemPlace),
    DataW.trod enc P W 0 spare held fuel t cs = some x → (x.1.weights P t).all (· ≤ reachBytes) = true → ∃ a, RO W (allOk W) d a cs ∧ ok a
theorem opens_int {t : Nat} {k : IntKind} (hu : P.underlying t = some (.int k)) : Opens P t (.int k) (fun a => (Lit.int k a).wf = true) := by
  intro H enc W spare held fuel cs x h _
  obtain ⟨a, rfl, _, hw⟩ := DataW.trod_int hu h
  exact ⟨a, rfl, hw⟩
theorem opens_bool {t : Nat} (hu : P.underlying t = some .bool) : Opens P t .bool (fun _ => True) := by
  intro H enc W spare held fuel cs x h _
  obtain ⟨a, rfl, _⟩ := DataW.trod_bool hu h
  exact ⟨a, rfl, trivial⟩
theorem opens_string {t : Nat} (hu : P.underlying t = some .string) : Opens P t .str (fun a => a.size ≤ 140737488351232) := by
  intro H enc W spare held fuel cs x h hz
  obtain ⟨a, rfl, rfl, _⟩ := DataW.trod_string hu h
  refine ⟨a, rfl, ?_⟩
  have h2 := (List.all_eq_true.1 hz) a.data.toList.length (by simp [DataW.weights])
  have h3 := of_decide_eq_true h2
  rw [Array.length_toList] at h3
  exact h3
theorem opens_slice {t e : Nat} {d : Ty} {ok : d.den → Prop} {B : Nat} (hu : P.underlying t = some (.slice e)) (hd : 0 < d.sz) (hc : P.cellsOf e = d.sz) (hB : P.bytesOf e = B) (ho : Opens P e d ok) :
    Opens P t (.slice d) (fun l => List.length l * B ≤ 140737488351232 ∧ ∀ a ∈ l, ok a) := by
  intro H enc W spare held fuel cs x h hz
  rcases open_slice hu h with ⟨rfl, rfl⟩ | ⟨a, len, cap, m, n, D, Pl, rfl, _, hl, hm, hmm, rfl, hx⟩
  · exact ⟨[], ⟨none, 0, rfl, Nat.le_refl _, fun _ => rfl, fun h => absurd h (Nat.lt_irrefl 0)⟩, by simp, fun a ha => by cases ha⟩
  · simp only [DataW.weights, hu, List.all_cons, List.all_append, Bool.and_eq_true, decide_eq_true_eq, List.length_map, List.length_range, hB] at hz
    obtain ⟨hz0, hz1, _⟩ := hz
    have hlm : len ≤ m := by rw [hmm]; split <;> omega
    have key : ∀ i, i < len → ∃ b, (∃ c, c.length = d.sz ∧ RO W (allOk W) d b c ∧ ∀ j u, c[j]? = some u → W.cell? (a.add (i * d.sz + j)) = some u) ∧ ok b := by
      intro i hi
      obtain ⟨cs', h1, h2⟩ := hx i (by omega)
      rw [hc] at h1
      obtain ⟨hcl, hcc⟩ := cells_get h1
      have hw : ((D i).weights P e).all (· ≤ reachBytes) = true := by
        rw [List.all_eq_true] at hz1 ⊢
        intro q hq
        refine hz1 q ?_
        have : ∀ (l : List Nat), i ∈ l → q ∈ DataW.weightsAll P e (l.map D) := by
          intro l
          induction l with
          | nil => intro h; cases h
          | cons y l ih =>
            intro h
            simp only [List.map_cons, DataW.weightsAll, List.mem_append]
            rcases List.mem_cons.1 h with rfl | h
            · exact .inl hq
            · exact .inr (ih h)
        exact this _ (List.mem_range.2 hi)
      obtain ⟨b, hb, hok⟩ := ho enc W spare held n cs' (D i, Pl i) h2 hw
      refine ⟨b, ⟨cs', hcl, hb, fun j u hu => ?_⟩, hok⟩
      have := hcc j u hu
      rwa [Addr.add_add] at this
    obtain ⟨l, hll, hlk⟩ : ∃ l : List d.den, l.length = len ∧ ∀ i b, l[i]? = some b → (∃ c, c.length = d.sz ∧ RO W (allOk W) d b c ∧ ∀ j u, c[j]? = some u → W.cell? (a.add (i * d.sz + j)) = some u) ∧ ok b := by
      refine ⟨(List.range len).attach.map fun i => (key i.1 (List.mem_range.1 i.2)).choose, by simp, fun i b hb => ?_⟩
      rw [List.getElem?_eq_some_iff] at hb
      obtain ⟨hi, rfl⟩ := hb
      simp only [List.length_map, List.length_attach, List.length_range] at hi
      have := (key i hi).choose_spec
      simpa using this
    have hm2 : len ≤ 9223372036854775807 := by unfold maxLen at hm; omega
    have hrol : ∀ (m : Nat) (l : List d.den), (∀ (i : Nat) b, l[i]? = some b → ∃ c, c.length = d.sz ∧ RO W (allOk W) d b c ∧ ∀ j u, c[j]? = some u → W.cell? (a.add ((m + i) * d.sz + j)) = some u) →
        ∃ fl, ROL (RO W (allOk W) d) l fl ∧ ∀ j u, fl[j]? = some u → W.cell? (a.add (m * d.sz + j)) = some u := by
      intro m l
      induction l generalizing m with
      | nil => intro _; exact ⟨[], rfl, fun j u hu => by simp at hu⟩
      | cons x l ih =>
        intro h
        obtain ⟨c, h1, h2, h3⟩ := h 0 x rfl
        obtain ⟨fl, h4, h5⟩ := ih (m + 1) (fun i b hb => by
          obtain ⟨c, g1, g2, g3⟩ := h (i + 1) b hb
          exact ⟨c, g1, g2, fun j u hu => by rw [show m + 1 + i = m + (i + 1) by omega]; exact g3 j u hu⟩)
        refine ⟨c ++ fl, ⟨c, fl, rfl, h2, h4⟩, fun j u hu => ?_⟩
        rcases Nat.lt_or_ge j c.length with hj | hj
        · rw [List.getElem?_append_left hj] at hu
          have := h3 j u hu
          rw [Nat.add_zero] at this; exact this
        · rw [List.getElem?_append_right hj] at hu
          have := h5 _ u hu
          rw [Nat.succ_mul] at this
          rw [show m * d.sz + j = m * d.sz + d.sz + (j - c.length) by omega]; exact this
    obtain ⟨fl, hf1, hf2⟩ := hrol 0 l (fun i b hb => by
      obtain ⟨c, g1, g2, g3⟩ := (hlk i b hb).1
      exact ⟨c, g1, g2, fun j u hu => by rw [Nat.zero_add]; exact g3 j u hu⟩)
    refine ⟨l, ⟨some a, cap, by rw [hll], by rw [hll]; omega, (fun h => by cases h), fun hpos => ⟨a, fl, rfl, hf1, ?_, fun j u hu => by have := hf2 j u hu; rwa [Nat.zero_mul, Nat.zero_add] at this⟩⟩, ?_, ?_⟩
    · -- its block is there
      have hfl : 0 < fl.length := by
        rw [ROL_len (fun _ _ h => RO_len h) hf1]
        exact Nat.mul_pos hpos hd
      have h1 := hf2 0 _ (List.getElem?_eq_getElem hfl)
      rw [Nat.zero_mul, Nat.zero_add] at h1
      have hb : (a.add 0).block = a.block := by unfold Addr.add; split <;> rfl
      rw [← hb]
      exact cell_lt h1
    · have h3 : len * B ≤ (len + (m - len)) * B := Nat.mul_le_mul_right _ (by omega)
      simp only [reachBytes] at hz0
      rw [hll]; omega
    · intro b hb
      obtain ⟨i, hi⟩ := List.mem_iff_getElem?.1 hb
      exact (hlk i b hi).2
/-- The fields of a struct, one behind the other from a place on. -/
def OpensF (P : Program) (fs : List Field) (off : Nat) (d : Ty) (ok : d.den → Prop) : Prop :=
  ∀ {H : Type} (enc : TypeId × Value → H) (W : World) (spare : Nat → Bool) (held : Bool) (n : Nat) (cs : List Value) (xs : List (DataW H × List MemPlace)),
    xs.length = fs.length → (∀ (i : Nat) (f : Field), fs[i]? = some f → DataW.trod enc P W 0 spare held n f.type ((cs.drop f.offset).take (P.cellsOf f.type)) = xs[i]?) →
    (DataW.weightsEach P (fs.map (·.type)) (xs.map (·.1))).all (· ≤ reachBytes) = true → cs.length = off + d.sz → ∃ a, RO W (allOk W) d a (cs.drop off) ∧ ok a
theorem opensF_nil {off : Nat} : OpensF P [] off .unit (fun _ => True) := by
  intro H enc W spare held n cs xs hl hx hz hs
  have hs' : cs.length = off + 0 := hs
  exact ⟨(), List.drop_of_length_le (by omega), trivial⟩
theorem opensF_cons {f : Field} {fs : List Field} {off off' : Nat} {d d' : Ty} {ok : d.den → Prop} {ok' : d'.den → Prop} (hf : f.offset = off) (hc : P.cellsOf f.type = d.sz) (h2 : off' = off + d.sz)
    (ho : Opens P f.type d ok) (hr : OpensF P fs off' d' ok') : OpensF P (f :: fs) off (.pair d d') (fun a => ok a.1 ∧ ok' a.2) := by
  subst h2
  intro H enc W spare held n cs xs hl hx hz hs
  match xs, hl with
  | x :: xs, hl =>
    have hs' : cs.length = off + (d.sz + d'.sz) := hs
    simp only [List.map_cons, DataW.weightsEach, List.all_append, Bool.and_eq_true] at hz
    have h := hx 0 f rfl
    rw [hf, hc] at h
    obtain ⟨a, ha, oka⟩ := ho enc W spare held n _ x h hz.1
    obtain ⟨b, hb, okb⟩ := hr enc W spare held n cs xs (by simpa using hl) (fun i g hg => hx (i + 1) g hg) hz.2 (by omega)
    refine ⟨(a, b), ⟨(cs.drop off).take d.sz, cs.drop (off + d.sz), ?_, ha, hb⟩, oka, okb⟩
    rw [← List.drop_drop, List.take_append_drop]
theorem opens_struct {t : Nat} {fs : Array Field} {d : Ty} {ok : d.den → Prop} (hu : P.underlying t = some (.struct fs)) (hc : P.cellsOf t = d.sz)
    (hF : OpensF P fs.toList 0 d ok) : Opens P t d ok := by
  intro H enc W spare held fuel cs x h hz
  obtain ⟨xs, n, _, rfl, hl, hlen, hf⟩ := DataW.trod_struct hu h
  obtain ⟨a, ha, hok⟩ := hF enc W spare held n cs xs (by rw [hlen]; exact (Array.length_toList).symm) (fun i g hg => hf i g (by rw [← Array.getElem?_toList]; exact hg)) (by simpa [DataW.weights, hu] using hz) (by rw [hl, hc]; omega)
  exact ⟨a, by simpa using ha, hok⟩
/-- The weights of one argument. -/
theorem weigh {H : Type} {ts : List TypeId} {ds : List (DataW H)} {j : Nat} {t : TypeId} {d : DataW H} (hsz : (DataW.weightsEach P ts ds).all (· ≤ reachBytes) = true) (ht : ts[j]? = some t) (hd : ds[j]? = some d) : (d.weights P t).all (· ≤ reachBytes) = true := by
  rw [List.all_eq_true] at hsz ⊢
  exact fun n hn => hsz n (DataW.weights_mem_each ht hd n hn)
end
end Go.Proofs.Yteblfhhhbfodgaa.Sim
/- From a contract to a law's row. -/
set_option linter.unusedVariables false
namespace Go.Proofs.Yteblfhhhbfodgaa.Sim
open Go Go.RowKit

section
variable {W : World}
abbrev okA (W : World) (b : Nat) : Prop := b < W.heap.size ∧ True
theorem args_nil : ArgsR W (okA W) [] () [] := rfl
theorem args_agg {t : Ty} {ts : List Ty} {x : t.den} {y : DenL ts} {cs : Array Value} {rest : List Value} (ht : t.isAgg = true) (h : RO W (allOk W) t x cs.toList) (hr : ArgsR W (okA W) ts y rest) : ArgsR W (okA W) (t :: ts) (x, y) (.agg cs :: rest) :=
  ⟨cs.toList, rest, by unfold valOf; rw [if_pos ht], h.mono (fun _ _ => rfl) (fun b hb => ⟨hb, trivial⟩), hr⟩
theorem args_one {t : Ty} {ts : List Ty} {x : t.den} {y : DenL ts} {v : Value} {rest : List Value} (ht : t.isAgg = false) (h : RO W (allOk W) t x [v]) (hr : ArgsR W (okA W) ts y rest) : ArgsR W (okA W) (t :: ts) (x, y) (v :: rest) :=
  ⟨[v], rest, by unfold valOf; rw [if_neg (by rw [ht]; simp)]; rfl, h.mono (fun _ _ => rfl) (fun b hb => ⟨hb, trivial⟩), hr⟩

/-- A law's function answers true. -/
theorem law_calls {P : Program} {f : FuncId} {c : Contract} (h : Holds P f c) {args : Array Value} {x : DenL c.ps} {r : c.R} (ha : ArgsR W (okA W) c.ps x args.toList) (hr : c.fn x = some r) (hres : (resTV c.rs (c.back r) 0).val = .one (.ro .bool true)) :
    Calls P f args W fun e W' => e = .returned (.bool true) ∧ Below W.heap.size W W' := by
  refine (h.2 W (fun _ => True) args x r ha hr).mono (fun e W' he => ?_)
  obtain ⟨v, H, rfl, k1, k2⟩ := he
  rw [hres] at k2
  obtain ⟨cs, e1, e2⟩ := k2 _ rfl
  cases e1
  have : v = .bool true := e2
  subst this
  exact ⟨rfl, k1.below.below⟩
end
end Go.Proofs.Yteblfhhhbfodgaa.Sim
/- More rounds, and contracts that tell more: the answer stands. -/
set_option linter.unusedVariables false
set_option linter.unusedSimpArgs false
namespace Go.Proofs.Yteblfhhhbfodgaa.Sim
open Go

/-- The same table of types and of rows; contracts that tell at least as much. -/
structure ELe (E E' : Env) : Prop where
  ti : E'.ti = E.ti
  rl : E'.rl = E.rl
  fns : ∀ f c, E.fns f = some c → ∃ fn', E'.fns f = some { c with fn := fn' } ∧ ∀ x r, c.fn x = some r → fn' x = some r
  out : ∀ f, E.fns f = none → E'.fns f = none

theorem info_same {E E' : Env} (h : E'.ti = E.ti) (t : TypeId) : E'.info t = E.info t := by unfold Env.info; rw [h]

theorem zeroFs_same {z z' : TypeId → Nat → Option (List AV × Upds)} (h : ∀ t fr, z' t fr = z t fr) : ∀ (fs : List (TypeId × Nat)) (fr : Nat), zeroFs z' fs fr = zeroFs z fs fr
  | [], _ => rfl
  | f :: fs, fr => by
    simp only [zeroFs, h]
    congr 1; funext p
    rw [zeroFs_same h fs]
theorem zeroCells_same {E E' : Env} (h : E'.ti = E.ti) : ∀ (d : Nat) (t : TypeId) (fr : Nat), zeroCells E' d t fr = zeroCells E d t fr
  | 0, _, _ => rfl
  | d + 1, t, fr => by
    simp only [zeroCells, info_same h]
    split <;> first | rfl | exact zeroFs_same (zeroCells_same h d) _ _
theorem layParts_same {E E' : Env} (h : E'.ti = E.ti) {fs : List (TypeId × Nat)} {ρ : Operand → TV} : ∀ (ps : List (Nat × Operand)) (cells : List AV), layParts E' fs ρ ps cells = layParts E fs ρ ps cells
  | [], _ => rfl
  | (i, x) :: ps, cells => by
    simp only [layParts, info_same h]
    congr 1; funext f; congr 1; funext cs
    split
    · exact layParts_same h ps _
    · rfl

section
variable {E E' : Env} (h : E'.ti = E.ti)
include h
theorem mat_same (t : TypeId) (v : TV) (fr : Nat) : mat E' t v fr = mat E t v fr := by unfold mat; simp only [info_same h]
theorem binP_same (t : TypeId) (op : BinOp) (x y : TV) : binP E' t op x y = binP E t op x y := by unfold binP; simp only [info_same h]
theorem idxP_same (t : TypeId) (x : TV) (j : Int) : idxP E' t x j = idxP E t x j := by unfold idxP; simp only [info_same h]
theorem fieldP_same (t : TypeId) (x : TV) (f : Nat) : fieldP E' t x f = fieldP E t x f := by unfold fieldP; simp only [info_same h]
theorem loadP_same (t : TypeId) (x : TV) : loadP E' t x = loadP E t x := by unfold loadP; simp only [info_same h]
theorem storeP_same (t : TypeId) (x v : TV) : storeP E' t x v = storeP E t x v := by unfold storeP; simp only [info_same h]
theorem boxP_same (t : TypeId) (v : TV) (fr : Nat) : boxP E' t v fr = boxP E t v fr := by unfold boxP; simp only [info_same h]
theorem allocP_same (t : TypeId) (fr : Nat) : allocP E' t fr = allocP E t fr := by unfold allocP; simp only [info_same h, zeroCells_same h]
theorem buildP_same (t : TypeId) (ps : List (Nat × Operand)) (ρ : Operand → TV) (fr : Nat) : buildP E' t ps ρ fr = buildP E t ps ρ fr := by unfold buildP; simp only [info_same h, zeroCells_same h, layParts_same h]
theorem buildSliceP_same (t : TypeId) (n : Nat) (ps : List (Nat × Operand)) (ρ : Operand → TV) (fr : Nat) : buildSliceP E' t n ps ρ fr = buildSliceP E t n ps ρ fr := by unfold buildSliceP; simp only [info_same h]
theorem makeP_same (rw_ : Bool) (t : TypeId) (n m : TV) (fr : Nat) : makeP E' rw_ t n m fr = makeP E rw_ t n m fr := by unfold makeP; simp only [info_same h]
theorem lenP_same (t : TypeId) (x : TV) : lenP E' t x = lenP E t x := by unfold lenP; simp only [info_same h]
theorem appendP_same (t : TypeId) (s x : TV) (fr : Nat) : appendP E' t s x fr = appendP E t s x fr := by unfold appendP; simp only [info_same h]
theorem convP_same (s d : TypeId) (x : TV) (fr : Nat) : convP E' s d x fr = convP E s d x fr := by unfold convP; simp only [info_same h]
theorem makeMapP_same (t : TypeId) (fr : Nat) : makeMapP E' t fr = makeMapP E t fr := by unfold makeMapP; simp only [info_same h]
theorem mapTy_same (t : TypeId) (a b : Ty) : mapTy E' t a b = mapTy E t a b := by unfold mapTy; simp only [info_same h]
theorem lookupP_same (t : TypeId) (x k : TV) (c : Bool) : lookupP E' t x k c = lookupP E t x k c := by unfold lookupP; simp only [mapTy_same h]
theorem mapUpdateP_same (t : TypeId) (x k v : TV) : mapUpdateP E' t x k v = mapUpdateP E t x k v := by unfold mapUpdateP; simp only [mapTy_same h]
end

theorem callP_more {c : Contract} {fn' : DenL c.ps → Option c.R} (hfn : ∀ x r, c.fn x = some r → fn' x = some r) {vs : List TV} {fr : Nat} {l : Nat → Option Slot} {q : Res × List Nat} (h : (callP c vs fr).run l = some q) : (callP { c with fn := fn' } vs fr).run l = some q := by
  have key : ∀ {α : Type} (p : Prog α) (f g : α → Prog Res), (∀ a q, (f a).run l = some q → (g a).run l = some q) → ∀ {q}, (p.bind f).run l = some q → (p.bind g).run l = some q := by
    intro α p f g hfg
    induction p with
    | ret a => intro q h; exact hfg a q h
    | fail => intro q h; cases h
    | guard c d k ih =>
      intro q h
      simp only [Prog.bind, Prog.run] at h ⊢
      by_cases hc : c
      · rw [if_pos hc] at h ⊢; exact ih h
      · rw [if_neg hc] at h; cases h
    | look i k ih =>
      intro q h
      simp only [Prog.bind, Prog.run] at h ⊢
      cases hl : l i with
      | none => rw [hl] at h; cases h
      | some s =>
        rw [hl] at h
        simp only [Option.map_eq_some_iff] at h ⊢
        obtain ⟨r, h1, h2⟩ := h
        exact ⟨r, ih s h1, h2⟩
    | bindO γ x k ih =>
      intro q h
      simp only [Prog.bind, Prog.run] at h ⊢
      cases x with
      | none => cases h
      | some b => exact ih b h
  unfold callP at h ⊢
  dsimp only
  split at h
  · refine key _ _ _ (fun x q hq => ?_) h
    simp only [Prog.run] at hq ⊢
    cases hr : c.fn x with
    | none => rw [hr] at hq; cases hq
    | some r => rw [hr] at hq; rw [hfn x r hr]; exact hq
  · refine key _ _ _ (fun x q hq => ?_) h
    simp only [Prog.run] at hq ⊢
    cases hr : c.fn x.1 with
    | none => rw [hr] at hq; cases hq
    | some r => rw [hr] at hq; rw [hfn x.1 r hr]; exact hq

section
variable {E E' : Env} (hE : ELe E E')
include hE

theorem opP_more {rw_ : Bool} {o : Oper} {ρ : Operand → TV} {fr : Nat} {l : Nat → Option Slot} {q : Res × List Nat} (h : (opP E rw_ o ρ fr).run l = some q) : (opP E' rw_ o ρ fr).run l = some q := by
  have ht := hE.ti
  cases hop : o.op with
  | call c =>
    unfold opP at h ⊢
    rw [hop] at h ⊢
    dsimp only at h ⊢
    split at h
    · simp only [lenP_same ht]; exact h
    · simp only [appendP_same ht]; exact h
    · exact h
    · rename_i f hc
      replace h := Prog.run_opt h; obtain ⟨c', h1, h2⟩ := h
      obtain ⟨fn', g1, g2⟩ := hE.fns f c' h1
      rw [g1]
      exact callP_more g2 h2
    · cases h
  | makeMap t r =>
    unfold opP at h ⊢
    rw [hop] at h ⊢
    cases r with
    | none => dsimp only at h ⊢; rw [makeMapP_same ht]; exact h
    | some r => exact h
  | _ =>
    unfold opP at h ⊢
    rw [hop] at h ⊢
    simp only [mat_same ht, allocP_same ht, boxP_same ht, buildP_same ht, buildSliceP_same ht, loadP_same ht, storeP_same ht, binP_same ht, convP_same ht, makeMapP_same ht, makeP_same ht, fieldP_same ht, idxP_same ht, lookupP_same ht, mapUpdateP_same ht, info_same ht] at h ⊢
    exact h

theorem need_same (o : Oper) : need E' o = need E o := by
  have ht := hE.ti
  unfold need
  cases hop : o.op with
  | call c =>
    dsimp only
    cases hc : c.callee with
    | value x =>
      cases x with
      | func f =>
        dsimp only
        cases h1 : E.fns f with
        | none => rw [hE.out f h1]
        | some c' => obtain ⟨fn', g1, _⟩ := hE.fns f c' h1; rw [g1]; rfl
      | _ => rfl
    | builtin b => cases b <;> rfl
    | _ => rfl
  | _ => simp only [zeroCells_same ht]

theorem step1_more {ops : Array Oper} {i : Nat} {o : Oper} {fr : Nat} {st : St} {p : St × Rec} (h : step1 E ops i o fr st = some p) : step1 E' ops i o fr st = some p := by
  have hrows : E'.rows (o.dst.getD 0) = E.rows (o.dst.getD 0) := by unfold Env.rows; rw [hE.rl]
  unfold step1 at h ⊢
  rw [Option.bind_eq_some_iff] at h ⊢
  obtain ⟨g, hg, h⟩ := h
  refine ⟨g, hg, ?_⟩
  cases g with
  | false => exact h
  | true =>
    dsimp only at h ⊢
    rw [need_same hE, hrows]
    split at h
    · rename_i hd
      rw [Option.map_eq_some_iff] at h
      obtain ⟨q, h1, h2⟩ := h
      rw [opP_more hE h1, Option.map_some, h2]
    · cases h

theorem execOps_more {R : Type} {ops : Array Oper} {x : R} : ∀ (l : List Oper) (i fr : Nat) (st : St) (rs : List Rec) {K K' : St → List Rec → Option R}, (∀ st rs, K st rs = some x → K' st rs = some x) → execOps E ops l i fr st rs K = some x → execOps E' ops l i fr st rs K' = some x
  | [], _, _, st, rs, K, K', hK, h => hK _ _ h
  | o :: l, i, fr, st, rs, K, K', hK, h => by
    simp only [execOps] at h ⊢
    rw [stepK_eq, Option.bind_eq_some_iff] at h ⊢
    obtain ⟨p, h1, h2⟩ := h
    refine ⟨p, step1_more hE h1, ?_⟩
    rw [need_same hE]
    exact execOps_more l _ _ _ _ hK h2

theorem total_same : ∀ l : List Oper, total E' l = total E l
  | [] => rfl
  | o :: l => by simp only [total, need_same hE, total_same l]

theorem execRegion_more {R : Type} {ops : Array Oper} {draw : Bool} {st : St} {x : R} {K K' : St → Option R} (hK : ∀ st, K st = some x → K' st = some x) (h : execRegion E ops draw st K = some x) : execRegion E' ops draw st K' = some x := by
  unfold execRegion at h ⊢
  dsimp only at h ⊢
  rw [total_same hE]
  refine execOps_more hE _ _ _ _ _ (fun st rs h => ?_) h
  cases draw with
  | false => exact hK _ h
  | true =>
    dsimp only at h ⊢
    cases hf : allFree ops rs with
    | false => rw [hf] at h; cases h
    | true => rw [hf] at h; exact hK _ h
end

/-- More rounds. -/
structure CfgLe (C C' : Cfg) : Prop where
  env : ELe C.E C'.E
  live : C'.live = C.live
  fuel : C.fuel ≤ C'.fuel

theorem iter_more {R : Type} {x : R} {b b' : St → (Ex → St → Option R) → Option R} {nrm : St → St} (hb : ∀ st (K K' : Ex → St → Option R), (∀ e st, K e st = some x → K' e st = some x) → b st K = some x → b' st K' = some x) : ∀ (n n' : Nat) (st : St) {K K' : Ex → St → Option R}, n ≤ n' → (∀ e st, K e st = some x → K' e st = some x) → iterK b nrm K n st = some x → iterK b' nrm K' n' st = some x
  | 0, _, st, K, K', _, _, h => by cases h
  | n + 1, 0, st, K, K', hn, _, _ => by omega
  | n + 1, n' + 1, st, K, K', hn, hK, h => by
    simp only [iterK] at h ⊢
    refine hb _ _ _ (fun e st he => ?_) h
    cases e with
    | normal => exact iter_more hb n n' _ (by omega) hK he
    | exit id => exact hK _ _ he
    | ret => exact hK _ _ he

theorem exec_more {R : Type} {C C' : Cfg} (hC : CfgLe C C') {x : R} : ∀ (c : Code) (st : St) (K K' : Ex → St → Option R), (∀ e st, K e st = some x → K' e st = some x) → exec C c st K = some x → exec C' c st K' = some x
  | .skip, st, K, K', hK, h => hK _ _ h
  | .region id ops draw, st, K, K', hK, h => by
    simp only [exec, Cfg.lv, hC.live] at h ⊢
    exact execRegion_more hC.env (fun st h => hK _ _ h) h
  | .seq c d, st, K, K', hK, h => by
    simp only [exec] at h ⊢
    refine exec_more hC c _ _ _ (fun e st he => ?_) h
    cases e with
    | normal => exact exec_more hC d _ _ _ hK he
    | exit id => exact hK _ _ he
    | ret => exact hK _ _ he
  | .cond c d e, st, K, K', hK, h => by
    simp only [exec] at h ⊢
    split at h
    · rename_i b hb
      cases b with
      | true => exact exec_more hC d _ _ _ hK h
      | false => exact exec_more hC e _ _ _ hK h
    · cases h
  | .block id c, st, K, K', hK, h => by
    simp only [exec] at h ⊢
    refine exec_more hC c _ _ _ (fun e st he => ?_) h
    cases e with
    | normal => exact hK _ _ he
    | exit i =>
      simp only [blockK] at he ⊢
      split at he <;> exact hK _ _ he
    | ret => exact hK _ _ he
  | .loop c, st, K, K', hK, h => by
    simp only [exec, Cfg.lv, hC.live] at h ⊢
    exact iter_more (fun st K K' hK h => exec_more hC c st K K' hK h) _ _ _ hC.fuel hK h
  | .exit id, st, K, K', hK, h => by simp only [exec] at h ⊢; exact hK _ _ h
  | .ret, st, K, K', hK, h => by simp only [exec] at h ⊢; exact hK _ _ h
  | .scope c, st, K, K', hK, h => by simp only [exec] at h ⊢; exact exec_more hC c _ _ _ hK h
  | .label _, st, K, K', hK, h => by simp [exec] at h
  | .goto _, st, K, K', hK, h => by simp [exec] at h

theorem resVars_same {E E' : Env} (h : E'.ti = E.ti) (st : St) : ∀ (rs : List (Bool × List RM)) (vs : List ResultVar), resVars E' st rs vs = resVars E st rs vs
  | [], [] => rfl
  | [], _ :: _ => rfl
  | _ :: _, [] => rfl
  | m :: ms, v :: vs => by
    have hv : resVar E' st v = resVar E st v := by
      cases v with
      | tmp t => rfl
      | cell a t => simp only [resVar, loadP_same h]
    simp only [resVars, hv]
    congr 1; funext tv
    cases tv with
    | tup us => rfl
    | cv b cs =>
      dsimp only
      congr 1; congr 1; funext p
      rw [resVars_same h st ms vs]

theorem fromAt_more {R : Type} {C C' : Cfg} (hC : CfgLe C C') {fn : Func} {rs : List (Bool × List RM)} {g : RDen rs → R} {st : St} {r : R} (h : fromAt C fn rs g [] st = some r) : fromAt C' fn rs g [] st = some r := by
  unfold fromAt at h ⊢
  rw [goFrom_nil] at h ⊢
  refine exec_more hC _ _ _ _ (fun e st he => ?_) h
  unfold finish at he ⊢
  cases e with
  | exit id => exact he
  | normal => dsimp only at he ⊢; rw [resVars_same hC.env.ti]; exact he
  | ret => dsimp only at he ⊢; rw [resVars_same hC.env.ti]; exact he

/-- A contract that tells at least as much. -/
def CtLe (c c' : Contract) : Prop := ∃ fn', c' = { c with fn := fn' } ∧ ∀ x r, c.fn x = some r → fn' x = some r
theorem ele_nil {ti : List TI} {rl : List Tmp} : ELe ⟨ti, [], rl⟩ ⟨ti, [], rl⟩ := ⟨rfl, rfl, (fun f c h => by cases h), fun _ _ => rfl⟩
theorem ele_cons {ti : List TI} {rl : List Tmp} {f : FuncId} {c c' : Contract} {fl fl' : List (FuncId × Contract)} (h : CtLe c c') (hs : ELe ⟨ti, fl, rl⟩ ⟨ti, fl', rl⟩) : ELe ⟨ti, (f, c) :: fl, rl⟩ ⟨ti, (f, c') :: fl', rl⟩ := by
  obtain ⟨fn', rfl, h2⟩ := h
  refine ⟨rfl, rfl, fun f1 c1 h1 => ?_, fun f1 h1 => ?_⟩
  · unfold Env.fns at h1 ⊢
    simp only [List.find?_cons] at h1 ⊢
    cases hb : Nat.beq f f1 with
    | true => rw [hb] at h1; cases h1; exact ⟨fn', rfl, h2⟩
    | false => rw [hb] at h1; exact hs.fns f1 c1 h1
  · unfold Env.fns at h1 ⊢
    simp only [List.find?_cons] at h1 ⊢
    cases hb : Nat.beq f f1 with
    | true => rw [hb] at h1; cases h1
    | false => rw [hb] at h1; exact hs.out f1 h1
theorem ct_more {C C' : Cfg} {c : Contract} {fn' : DenL c.ps → Option c.R} {fn : Func} {g : RDen c.rs → c.R} (hC : CfgLe C C') (h1 : ∀ x, c.fn x = fromAt C fn c.rs g [] (start fn c.ps x)) (h2 : ∀ x, fn' x = fromAt C' fn c.rs g [] (start fn c.ps x)) : CtLe c { c with fn := fn' } :=
  ⟨fn', rfl, fun x r h => by rw [h2]; rw [h1] at h; exact fromAt_more hC h⟩
end Go.Proofs.Yteblfhhhbfodgaa.Sim
