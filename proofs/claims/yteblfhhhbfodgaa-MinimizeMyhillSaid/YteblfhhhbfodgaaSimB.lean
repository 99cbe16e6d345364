-- An interpreter of Go's code over typed data, and its soundness (texts of wip/sim, merged).
import Derived.Test.YteblfhhhbfodgaaSimA
import Derived.Maps.OwnSet
import Derived.Lib.OthersKept
import Derived.DeepKeys3
import Derived.Laws.Cover3
/- The operations one by one: stores. -/
set_option linter.unusedVariables false
set_option linter.unusedSimpArgs false
set_option linter.unusedSectionVars false
namespace Go.Proofs.Yteblfhhhbfodgaa.Sim
open Go Go.RowKit

section
variable {X : Ctx} {H H' : Nat → Wit} {os os' : List Slot} {w w' : World} {ok : Nat → Prop}

theorem ROL_elem {ok : Nat → Prop} {e : Ty} : ∀ {xs : List e.den} {cs : List Value} (hr : ROL (RO w ok e) xs cs) (i : Nat) (hi : i < xs.length), RO w ok e xs[i] ((cs.drop (i * e.sz)).take e.sz)
  | [], _, _, i, hi => by cases hi
  | a :: as, cs, hr, i, hi => by
    obtain ⟨p, q, r1, r2, r3⟩ := hr
    have hp := RO_len r2
    cases i with
    | zero => simp only [Nat.zero_mul, List.drop_zero, List.getElem_cons_zero]; rw [r1, List.take_append_of_le_length (by omega), List.take_of_length_le (by omega)]; exact r2
    | succ i =>
      simp only [List.getElem_cons_succ]
      rw [r1, List.drop_append, List.drop_of_length_le (by rw [hp, Nat.add_mul]; omega), hp, show (i + 1) * e.sz - e.sz = i * e.sz by rw [Nat.add_mul]; omega, List.nil_append]
      exact ROL_elem r3 i (by simpa using hi)

theorem ROL_setAt {ok : Nat → Prop} {u v : Ty} {y : v.den} {ds : List Value} (hy : RO w ok v y ds) {xs : List u.den} {fl : List Value} (hr : ROL (RO w ok u) xs fl) (i : Nat) (hi : i < xs.length) {off : Nat} {z : u.den} (h : setAt v y u (xs.getD i u.zero) off = some z) :
    ROL (RO w ok u) (xs.set i z) (fl.take (i * u.sz + off) ++ ds ++ fl.drop (i * u.sz + off + ds.length)) ∧ i * u.sz + off + ds.length ≤ fl.length := by
  have hg : xs.getD i u.zero = xs[i] := by simp [List.getD_eq_getElem?_getD, hi]
  rw [hg] at h
  have hlen := ROL_len (fun _ _ h => RO_len h) hr
  have hes := ROL_elem hr i hi
  obtain ⟨k1, k2⟩ := setAt_ok hy u _ off hes h
  have hel : ((fl.drop (i * u.sz)).take u.sz).length = u.sz := RO_len hes
  rw [hel] at k2
  have hmul : i * u.sz + u.sz ≤ fl.length := by
    rw [hlen, ← Nat.succ_mul]
    exact Nat.mul_le_mul_right _ hi
  refine ⟨?_, by omega⟩
  have hset := ROL_set (R := RO w ok u) (fun _ _ h => RO_len h) k1 hr i hi
  have he : fl.take (i * u.sz + off) ++ ds ++ fl.drop (i * u.sz + off + ds.length) = fl.take (i * u.sz) ++ (((fl.drop (i * u.sz)).take u.sz).take off ++ ds ++ ((fl.drop (i * u.sz)).take u.sz).drop (off + ds.length)) ++ fl.drop (i * u.sz + u.sz) := by
    generalize i * u.sz = q at *
    have h1 : fl.take (q + off) = fl.take q ++ (fl.drop q).take off := List.take_add
    have h2 : (fl.drop (q + off + ds.length)) = ((fl.drop q).take u.sz).drop (off + ds.length) ++ fl.drop (q + u.sz) := by
      rw [List.drop_take, List.drop_drop]
      have : fl.drop (q + u.sz) = (fl.drop (q + (off + ds.length))).drop (u.sz - (off + ds.length)) := by
        rw [List.drop_drop]; congr 1; omega
      rw [this, List.take_append_drop]; congr 1; omega
    rw [h1, h2, List.take_take, Nat.min_eq_left (by omega)]
    simp [List.append_assoc]
  rw [he]
  exact hset

/-- A run of cells laid over a row. -/
theorem ownsRow_lay {e : TypeId} {sz n g cap : Nat} {fl ds : List Value} {o : Nat} (h : w.ownsRow 0 e sz (.slice (some ⟨g, 0, none⟩) n cap) n fl) (hb : o + ds.length ≤ fl.length) {cur : Array Value} (hc : w.heap[g]? = some (.cells cur e (0, 0))) :
    (w.setRow g (cur.toList.take o ++ ds ++ cur.toList.drop (o + ds.length)).toArray).ownsRow 0 e sz (.slice (some ⟨g, 0, none⟩) n cap) n (fl.take o ++ ds ++ fl.drop (o + ds.length)) := by
  obtain ⟨h1, h2⟩ := h
  rcases h2 with ⟨h2, _⟩ | ⟨g', cap', cur', h2, h3, h4, h5, h6, h7, h8⟩
  · cases h2
  · simp only [Value.slice.injEq, Option.some.injEq, Addr.mk.injEq, and_true, true_and] at h2
    obtain ⟨rfl, rfl⟩ := h2
    rw [hc] at h4
    injection h4 with h4
    injection h4 with h4 _
    subst h4
    have hcl : cur.toList.length = cap * sz := by simpa using h7
    have hfl : fl.length = n * sz := h1
    have hle : n * sz ≤ cap * sz := Nat.mul_le_mul_right _ h5
    refine ⟨by simp only [List.length_append, List.length_take, List.length_drop]; omega, .inr ⟨g, cap, _, rfl, h3, setRow_heap w g cur _ e _ hc, h5, h6, ?_, ?_⟩⟩
    · simp only [List.size_toArray, List.length_append, List.length_take, List.length_drop]; omega
    · simp only [List.take_append, List.length_append, List.length_take, List.take_take]
      rw [← h8]
      have e1 : min o cur.toList.length = o := by omega
      rw [e1, List.take_of_length_le (by omega : ds.length ≤ n * sz - o), List.take_take, List.drop_take]
      simp only [Nat.min_eq_left (by omega : o ≤ n * sz), Nat.min_eq_right (by omega : o ≤ n * sz)]

theorem flat_dis {α : Type} {f : α → List Nat} : ∀ {l : List α}, (l.flatMap f).Nodup → ∀ {i j : Nat} {x y : α}, l[i]? = some x → l[j]? = some y → i ≠ j → ∀ b, b ∈ f x → b ∉ f y
  | [], _, i, j, x, y, hi, _, _, _, _ => by simp at hi
  | a :: l, h, i, j, x, y, hi, hj, hne, b, hb => by
    rw [List.flatMap_cons, List.nodup_append] at h
    obtain ⟨h1, h2, h3⟩ := h
    cases i with
    | zero =>
      cases hi
      cases j with
      | zero => exact absurd rfl hne
      | succ j => exact fun hy => h3 b hb b (List.mem_flatMap.2 ⟨y, List.mem_of_getElem? hj, hy⟩) rfl
    | succ i =>
      cases j with
      | zero => cases hj; exact fun hy => h3 b hy b (List.mem_flatMap.2 ⟨x, List.mem_of_getElem? hi, hb⟩) rfl
      | succ j => exact flat_dis h2 hi hj (fun e => hne (by rw [e])) b hb

theorem flat_set {α : Type} {f : α → List Nat} {x : α} (hx : (f x).Nodup) : ∀ {l : List α} (j : Nat), (l.flatMap f).Nodup → (∀ b, b ∈ f x → b ∉ l.flatMap f) → ((l.set j x).flatMap f).Nodup ∧ ∀ b, b ∈ (l.set j x).flatMap f → b ∈ f x ∨ b ∈ l.flatMap f
  | [], j, h, _ => ⟨h, fun b hb => .inr hb⟩
  | a :: l, 0, h, hd => by
    simp only [List.set_cons_zero, List.flatMap_cons] at h hd ⊢
    rw [List.nodup_append] at h ⊢
    refine ⟨⟨hx, h.2.1, fun b hb c hc e => ?_⟩, fun b hb => (List.mem_append.1 hb).imp id (List.mem_append_right _)⟩
    subst e; exact hd b hb (List.mem_append_right _ hc)
  | a :: l, j + 1, h, hd => by
    simp only [List.set_cons_succ, List.flatMap_cons] at h hd ⊢
    rw [List.nodup_append] at h ⊢
    obtain ⟨i1, i2⟩ := flat_set hx j h.2.1 (fun b hb hm => hd b hb (List.mem_append_right _ hm))
    refine ⟨⟨h.1, i1, fun b hb c hc e => ?_⟩, fun b hb => ?_⟩
    · subst e
      rcases i2 b hc with hc | hc
      · exact hd b hc (List.mem_append_left _ hb)
      · exact h.2.2 b hb b hc rfl
    · rcases List.mem_append.1 hb with hb | hb
      · exact .inr (List.mem_append_left _ hb)
      · exact (i2 b hb).imp id (List.mem_append_right _)

section types
variable {P : Program} {E : Env} (hT : TabOk P E)
include hT

theorem store_run {t : TypeId} (hk : (E.info t).shp ≠ .other) {g off : Nat} {cur : Array Value} {ty : TypeId} {v : Value} (hg : w.heap[g]? = some (.cells cur ty (0, 0))) (hs : v.cells.size = (E.info t).size) (hb : off + v.cells.size ≤ cur.size) (h1 : ∀ u ∈ v.cells.toList, u.oneCell' = true) :
    (Instr.storeAt t (.pointer (some ⟨g, off, none⟩)) v).run P w = .ok () (w.setRow g (cur.toList.take off ++ v.cells.toList ++ cur.toList.drop (off + v.cells.toList.length)).toArray) := by
  obtain ⟨i, hi, hsz, _⟩ := (hT t).info hk
  have := run_storeCells_at P g off ty v.cells.toList 0 cur w hg (by simpa using hb) h1
  simp only [Nat.add_zero] at this
  simp [Instr.storeAt, Instr.sureAddr, storeVar, sizeOf, typeInfo, hi, hsz, hs]
  simpa [hs] using this

variable (hh : HeapR X H os w)
include hh

theorem setRow_below {i g : Nat} (hi : i < os.length) (hg : g ∈ (H i).bs) (cs : Array Value) : Bel X w (w.setRow g cs) :=
  ⟨rfl, rfl, rfl, by rw [size_setRow]; exact Nat.le_refl _, fun k hk hnm => setRow_other w g k cs (fun e => by subst e; exact ((hh.rng i k hi hg).1.elim (fun h => Nat.not_le.2 hk h) hnm).elim)⟩

theorem storeP_ok {t : TypeId} {x y : TV} {v1 v2 : Value} (hx : TVR w (okOf X w H os) H os x v1) (hy : TVR w (okOf X w H os) H os y v2) {res : Res} {rd : List Nat} (h : (storeP E t x y).run (fun i => os[i]?) = some (res, rd)) :
    ∃ w', (Instr.storeAt t v1 v2).run P w = .ok () w' ∧ Out X H os w (setAll os res.upds) res.val undef w' := by
  unfold storeP at h
  split at h
  · -- a variable
    rename_i i off
    replace h := Prog.run_look h; obtain ⟨s, rd', hsl, h⟩ := h
    obtain ⟨s0, g, g1, g2, g3, g4⟩ := ptr_of hT hh (hx _ rfl)
    have : s0 = s := Option.some.inj (g1.symm.trans hsl)
    subst this
    have ho := hh.obj _ s0 g1
    have hi : i < os.length := (List.getElem?_eq_some_iff.1 g1).1
    clear hsl
    obtain ⟨n, o⟩ := s0
    cases o <;> try cases g2
    · rename_i ty cells
      dsimp only at h
      replace h := Prog.run_opt h; obtain ⟨cs, hfl, h⟩ := h
      replace h := Prog.run_chk h; obtain ⟨hc, h⟩ := h
      cases Prog.run_ret h
      simp only [Bool.and_eq_true] at hc
      obtain ⟨⟨hc1, hc2⟩, hc3⟩ := hc
      obtain ⟨g', vs, e1, e2, e3, e4⟩ := ho
      have hgg : g' = g := by rw [g3] at e1; injection e1 with e1; injection e1 with e1; injection e1 with e1; exact e1.symm
      subst hgg
      have hd := flat_ok hy hfl
      have hd1 := hd.1
      have hv1 := e4.1
      have hcs : cs.length = (E.info t).size := beq_of hc1
      have hle : off + cs.length ≤ cells.length := Nat.le_of_ble_eq_true hc2
      have hrun := store_run (P := P) hT (t := t) (fun e => by rw [e] at hc3; cases hc3) (off := off) e3 (v := v2) (by omega) (by omega) (fun u hu => by
        obtain ⟨k, hk⟩ := List.getElem?_of_mem hu
        have hkl : k < cs.length := by
          have := (List.getElem?_eq_some_iff.1 hk).1
          simp at this; omega
        obtain ⟨u', q1, q2, q3⟩ := hd.2 k _ (List.getElem?_eq_getElem hkl)
        have : u' = u := by
          have hk' : v2.cells[k]? = some u := by simpa using hk
          exact Option.some.inj (q1.symm.trans hk')
        rw [← this]; exact q3)
      have hvl : v2.cells.toList.length = cs.length := by simpa using hd1
      rw [hvl] at hrun
      refine ⟨_, by rw [g4]; exact hrun, ?_⟩
      have k3 := (hh.one (s' := (n, .box ty (cells.take off ++ cs ++ cells.drop (off + cs.length)))) g1 (H i) (setRow_below hT hh hi (g := g') (by rw [e2]; simp) (vs.toList.take off ++ v2.cells.toList ++ vs.toList.drop (off + cs.length)).toArray) (by rw [size_setRow]; exact Nat.le_refl _) (fun b _ hb => setRow_other w g' b _ (fun e => hb (by rw [e2, e]; simp))) (fun b hb => ⟨.inl hb, by rw [size_setRow]; exact (hh.rng i b hi hb).2⟩) (hh.nod i hi)
        (.inr ⟨Nat.le_refl _, (fun _ => ⟨rfl, rfl⟩), (fun h => by cases h), fun _ _ => ⟨rfl, rfl, (fun d hd => by cases hd), (fun r hr => by cases hr)⟩⟩) (fun hok hun hev => ⟨g', _, e1, e2, setRow_heap w g' vs _ ty _ e3, (e4.mono hun hok hev).lay (hd.mono hun hok hev) hle⟩))
      exact k3.out tv_junk
    · rename_i ty nn u xs
      dsimp only at h
      split at h
      · rename_i n' u' hty
        replace h := Prog.run_chk h; obtain ⟨hc, h⟩ := h
        rw [Bool.and_eq_true] at hc
        replace h := Prog.run_bind _ _ h; obtain ⟨p, _, _, h1, h, _⟩ := h
        replace h := Prog.run_chk h; obtain ⟨ha, h⟩ := h
        replace h := Prog.run_cast h; obtain ⟨ec, h⟩ := h
        subst ec
        cases Prog.run_ret h
        obtain ⟨H1, k1, k2, cs, hro, e6⟩ := cons_kept hh hy h1
        obtain ⟨q1, q2⟩ := k2 i ha
        have hnn : n' = nn := beq_of hc.2
        have ho0 : off = 0 := beq_of hc.1
        subst hnn; subst ho0
        have ho1 := k1.1.obj i (n, .vec ty n' u' xs) (by rw [q2]; exact g1)
        obtain ⟨⟨r0, r1⟩, g', fl, e1, e2, e3, e4⟩ := ho1
        have hgg : g' = g := by rw [q1, g3] at e1; injection e1 with e1; injection e1 with e1; injection e1 with e1; exact e1.symm
        subst hgg
        have hflen := ROL_len (fun _ _ h => RO_len h) e3
        have hcl := RO_len hro
        obtain ⟨i0, hi0, hisz, _, hzz, _⟩ := (hT t).info ((hT t).tyo _ hty)
        have hsz := (hzz _ hty).1
        have hvc : v2.cells.toList = cs := by rw [e6]; exact valOf_cells hcl (RO_one hro)
        have hvs : v2.cells.size = cs.length := by rw [← hvc]; simp
        have hfn : fl.length = cs.length := by rw [hcl, hflen, r1]; rfl
        have hrun := store_run (P := P) hT (t := t) ((hT t).tyo _ hty) (off := 0) e4 (v := v2) (by rw [hvs, hcl, hsz]) (by rw [hvs]; simp [hfn]) (by rw [hvc]; exact RO_one hro)
        rw [hvc] at hrun
        have hcs : (fl.toArray.toList.take 0 ++ cs ++ fl.toArray.toList.drop (0 + cs.length)).toArray = cs.toArray := by
          rw [List.take_zero, List.drop_of_length_le (by simp [hfn])]; simp
        rw [hcs] at hrun
        have hi1 : i < (setAll os p.2).length := by rw [setAll_length]; exact hi
        refine ⟨_, by rw [g4]; exact hrun, ?_⟩
        have k3 := k1.1.one (i := i) (s := (n, .vec ty n' u' xs)) (s' := (n, .vec ty n' u' p.1)) (by rw [q2]; exact g1) (H1 i) (setRow_below hT k1.1 hi1 (by rw [e2]; simp) cs.toArray) (by rw [size_setRow]; exact Nat.le_refl _) (fun b _ hb => setRow_other w g' b _ (fun e => hb (by rw [e2, e]; simp))) (fun b hb => ⟨.inl hb, by rw [size_setRow]; exact (k1.1.rng i b hi1 hb).2⟩) (k1.1.nod i hi1)
          (.inr ⟨Nat.le_refl _, (fun _ => ⟨rfl, rfl⟩), (fun h => by cases h), fun _ _ => ⟨rfl, rfl, (fun d hd => by cases hd; simp only [Obj.dim, r1, hro.1]), (fun r hr => by cases hr)⟩⟩) (fun hok hun hev => ⟨⟨r0, hro.1⟩, g', cs, e1, e2, ROL_imp (fun _ _ h => h.mono hun hok) hro.2, setRow_heap w g' _ _ ty _ e4⟩)
        have := (k1.trans k3).out (x := .junk) (v := undef) tv_junk
        rwa [← show setAll os (p.2 ++ [(i, (n, .vec ty n' u' p.1))]) = (setAll os p.2).set i (n, .vec ty n' u' p.1) by rw [setAll_append]; rfl] at this
      · cases h
  · -- an element
    rename_i i ver j off
    replace h := Prog.run_look h; obtain ⟨s, rd', hsl, h⟩ := h
    replace h := Prog.run_chk h; obtain ⟨hv, h⟩ := h
    obtain ⟨n, o⟩ := s
    have hver : n = ver := beq_of hv
    have hi : i < os.length := (List.getElem?_eq_some_iff.1 hsl).1
    cases o with
    | arr e u xs =>
      dsimp only at h
      replace h := Prog.run_opt h; obtain ⟨ww, hty, h⟩ := h
      replace h := Prog.run_bind _ _ h; obtain ⟨p, _, _, h1, h, _⟩ := h
      replace h := Prog.run_chk h; obtain ⟨ha, h⟩ := h
      replace h := Prog.run_opt h; obtain ⟨z, hz, h⟩ := h
      cases Prog.run_ret h
      obtain ⟨d, g, m1, m2, m3, m4, m5, m6⟩ := elt_of hT hh (hx _ rfl) hsl hv rfl
      cases m1
      obtain ⟨H1, k1, k2, ds, hro, e6⟩ := cons_kept hh hy h1
      obtain ⟨q1, q2⟩ := k2 i ha
      have hs1 : (setAll os p.2)[i]? = some (n, .arr e u xs) := by rw [q2]; exact hsl
      have ho1 := k1.1.obj i _ hs1
      obtain ⟨r0, ⟨fl, r1, r2⟩, r3⟩ := ho1
      simp only at m2 m3
      obtain ⟨t1, t2⟩ := ROL_setAt hro r1 j m2 hz
      obtain ⟨g', c, e3⟩ := elt_addr hT k1.1 r2 (by omega)
      have hgg : g' = g := by have := m4 0; rw [← q1, e3] at this; injection this with this; injection this with this; injection this with this
      subst hgg
      rw [e3] at r2
      obtain ⟨cur, hcur, hcs⟩ : ∃ cur, w.heap[g']? = some (.cells cur e (0, 0)) ∧ fl.length ≤ cur.size := by
        rcases r2.2 with ⟨f1, _⟩ | ⟨g2, cap2, cur2, f1, f2, f3, f4, f5, f6, f7⟩
        · cases f1
        · simp only [Value.slice.injEq, Option.some.injEq, Addr.mk.injEq, and_true, true_and] at f1
          obtain ⟨rfl, rfl⟩ := f1
          exact ⟨cur2, f3, by rw [r2.1, f6]; exact Nat.mul_le_mul_right _ f4⟩
      obtain ⟨i0, hi0, hisz, _, hzz, _⟩ := (hT t).info ((hT t).tyo _ hty)
      have hsz := (hzz _ hty).1
      have hvc : v2.cells.toList = ds := by rw [e6]; exact valOf_cells (RO_len hro) (RO_one hro)
      have hvs : v2.cells.size = ds.length := by rw [← hvc]; simp
      have hrun := store_run (P := P) hT (t := t) ((hT t).tyo _ hty) (off := j * u.sz + off) hcur (v := v2) (by rw [hvs, RO_len hro, hsz]) (by omega) (by rw [hvc]; exact RO_one hro)
      rw [hvc] at hrun
      have hown := ownsRow_lay r2 t2 hcur
      have hi1 : i < (setAll os p.2).length := by rw [setAll_length]; exact hi
      have hgm : g' ∈ (H1 i).bs := by rw [r3, e3]; simp [blockOf, Value.ownBlock]
      refine ⟨_, by rw [m3]; exact hrun, ?_⟩
      have k3 := row_turn hT k1.1 hs1 (ver' := n) (ys := xs.set j z) (v' := (H1 i).hdr) (w' := w.setRow g' (cur.toList.take (j * u.sz + off) ++ ds ++ cur.toList.drop (j * u.sz + off + ds.length)).toArray) ⟨rfl, rfl, rfl, by rw [size_setRow]; exact Nat.le_refl _, fun k hk hne => setRow_other w g' k _ (fun ek => hne (by rw [e3, ek]; rfl))⟩ (.inl rfl) (.inr ⟨rfl, rfl, by simp⟩) t1 (by rw [List.length_set, e3]; exact hown)
      have := (k1.trans k3).out (x := .junk) (v := undef) tv_junk
      subst hver
      rwa [← show setAll os (p.2 ++ [(i, (n, .arr e u (xs.set j z)))]) = (setAll os p.2).set i (n, .arr e u (xs.set j z)) by rw [setAll_append]; rfl] at this
    | vec ty nn u xs =>
      dsimp only at h
      replace h := Prog.run_opt h; obtain ⟨ww, hty, h⟩ := h
      replace h := Prog.run_bind _ _ h; obtain ⟨p, _, _, h1, h, _⟩ := h
      replace h := Prog.run_chk h; obtain ⟨ha, h⟩ := h
      replace h := Prog.run_opt h; obtain ⟨z, hz, h⟩ := h
      cases Prog.run_ret h
      obtain ⟨d, g, m1, m2, m3, m4, m5, m6⟩ := elt_of hT hh (hx _ rfl) hsl hv rfl
      cases m1
      obtain ⟨H1, k1, k2, ds, hro, e6⟩ := cons_kept hh hy h1
      obtain ⟨q1, q2⟩ := k2 i ha
      have hs1 : (setAll os p.2)[i]? = some (n, .vec ty nn u xs) := by rw [q2]; exact hsl
      have ho1 := k1.1.obj i _ hs1
      obtain ⟨⟨r0, r00⟩, g', fl, e1, e2, r1, r2⟩ := ho1
      simp only at m2 m3
      obtain ⟨t1, t2⟩ := ROL_setAt hro r1 j m2 hz
      have hgg : g' = g := by have := m4 0; rw [← q1, e1] at this; injection this with this; injection this with this; injection this with this
      subst hgg
      obtain ⟨i0, hi0, hisz, _, hzz, _⟩ := (hT t).info ((hT t).tyo _ hty)
      have hsz := (hzz _ hty).1
      have hvc : v2.cells.toList = ds := by rw [e6]; exact valOf_cells (RO_len hro) (RO_one hro)
      have hvs : v2.cells.size = ds.length := by rw [← hvc]; simp
      have hrun := store_run (P := P) hT (t := t) ((hT t).tyo _ hty) (off := j * u.sz + off) r2 (v := v2) (by rw [hvs, RO_len hro, hsz]) (by rw [hvs]; simpa using t2) (by rw [hvc]; exact RO_one hro)
      rw [hvc] at hrun
      have hi1 : i < (setAll os p.2).length := by rw [setAll_length]; exact hi
      refine ⟨_, by rw [m3]; exact hrun, ?_⟩
      have k3 := k1.1.one (i := i) (s := (n, .vec ty nn u xs)) (s' := (n, .vec ty nn u (xs.set j z))) hs1 (H1 i) (setRow_below hT k1.1 hi1 (g := g') (by rw [e2]; simp) (fl.toArray.toList.take (j * u.sz + off) ++ ds ++ fl.toArray.toList.drop (j * u.sz + off + ds.length)).toArray) (by rw [size_setRow]; exact Nat.le_refl _) (fun b _ hb => setRow_other w g' b _ (fun e => hb (by rw [e2, e]; simp))) (fun b hb => ⟨.inl hb, by rw [size_setRow]; exact (k1.1.rng i b hi1 hb).2⟩) (k1.1.nod i hi1)
        (.inr ⟨Nat.le_refl _, (fun _ => ⟨rfl, rfl⟩), (fun h => by cases h), fun _ _ => ⟨rfl, rfl, (fun d hd => by cases hd; simp [Obj.dim]), (fun r hr => by cases hr)⟩⟩) (fun hok hun hev => ⟨⟨r0, by simpa using r00⟩, g', _, e1, e2, ROL_imp (fun _ _ h => h.mono hun hok) t1, setRow_heap w g' _ _ ty _ r2⟩)
      have := (k1.trans k3).out (x := .junk) (v := undef) tv_junk
      subst hver
      rwa [← show setAll os (p.2 ++ [(i, (n, .vec ty nn u (xs.set j z)))]) = (setAll os p.2).set i (n, .vec ty nn u (xs.set j z)) by rw [setAll_append]; rfl] at this
    | rows rv e e2 u xss =>
      dsimp only at h
      split at h
      · rename_i k kv
        replace h := Prog.run_chk h; obtain ⟨hc, h⟩ := h
        simp only [Bool.and_eq_true] at hc
        obtain ⟨⟨hoff, hki⟩, hty⟩ := hc
        replace h := Prog.run_look h; obtain ⟨r, rd2, hrl, h⟩ := h
        replace h := Prog.run_chk h; obtain ⟨hkv, h⟩ := h
        obtain ⟨m, o2⟩ := r
        have hmk : m = kv := beq_of hkv
        cases o2 with
        | arr e3 u' ys =>
          dsimp only at h
          replace h := Prog.run_chk h; obtain ⟨he3, h⟩ := h
          replace h := Prog.run_cast h; obtain ⟨ec, h⟩ := h
          subst ec
          replace h := Prog.run_grd h; obtain ⟨hpos, h⟩ := h
          cases Prog.run_ret h
          have he3' : e3 = e2 := beq_of he3
          subst he3'
          have ho0 : off = 0 := beq_of hoff
          subst ho0; subst hmk; subst hver
          have hty' := of_decide_eq_true hty
          have hne : k ≠ i := fun e => by rw [e] at hki; simp [Nat.beq_eq_true_eq] at hki
          obtain ⟨_, hv2⟩ := own_of (hy _ rfl) hrl (by simp)
          have hk : k < os.length := (List.getElem?_eq_some_iff.1 hrl).1
          -- the address
          obtain ⟨_, s0, g1, g2, g3⟩ := hx _ rfl
          have : s0 = (n, .rows rv e e3 u' xss) := Option.some.inj (g1.symm.trans hsl)
          subst this
          obtain ⟨_, hd⟩ := g3 rfl
          obtain ⟨m1, m2⟩ := hd (xss.length, 1) rfl
          simp only at m1 m2
          have ho := hh.obj _ _ hsl
          have ho2 := hh.obj _ _ hrl
          obtain ⟨r0, r1, r2, r3, r4⟩ := ho
          obtain ⟨p0, p1, p2⟩ := ho2
          obtain ⟨g, c, e5⟩ := elt_addr hT hh r2 (by omega)
          obtain ⟨fl2, p3, p4⟩ := p1
          obtain ⟨gk, ck, e6⟩ := elt_addr hT hh p4 hpos
          obtain ⟨cur, hcur, hcs⟩ : ∃ cur, w.heap[g]? = some (.cells cur e (0, 0)) ∧ (H i).rw.length ≤ cur.size := by
            rcases r2.2 with ⟨f1, _⟩ | ⟨g2, cap2, cur2, f1, f2, f3, f4, f5, f6, f7⟩
            · rw [e5] at f1; cases f1
            · rw [e5] at f1
              simp only [Value.slice.injEq, Option.some.injEq, Addr.mk.injEq, and_true, true_and] at f1
              obtain ⟨rfl, rfl⟩ := f1
              exact ⟨cur2, f3, by rw [r1, f6, Nat.mul_one]; exact f4⟩
          have hone : v2.oneCell' = true := by rw [hv2, e6]; rfl
          have hvc : v2.cells = #[v2] := by rw [hv2, e6]; rfl
          obtain ⟨i0, hi0, hisz, _, hzz, _⟩ := (hT t).info ((hT t).tyo _ hty')
          have hsz : (E.info t).size = 1 := (hzz _ hty').1.symm
          have hrun := store_run (P := P) hT (t := t) ((hT t).tyo _ hty') (off := j) hcur (v := v2) (by rw [hvc, hsz]; rfl) (by rw [hvc]; simp; omega) (by rw [hvc]; intro u hu; simp at hu; rw [hu]; exact hone)
          rw [hvc] at hrun
          have hlay : (cur.toList.take j ++ #[v2].toList ++ cur.toList.drop (j + #[v2].toList.length)).toArray = (cur.toList.take j ++ [v2] ++ cur.toList.drop (j + [v2].length)).toArray := rfl
          rw [hlay] at hrun
          have hbk : (H k).bs = [gk] := by rw [p2, e6]; rfl
          have hgi : g ∈ (H i).bs := by rw [r4, e5]; simp [blockOf, Value.ownBlock]
          have hbv : blockOf v2 = [gk] := by rw [hv2, e6]; rfl
          have hnd := hh.nod i hi
          rw [r4, List.nodup_append] at hnd
          have hgk : gk ∉ (H i).bs := fun hm => hh.dis k i gk hk hi hne (by rw [hbk]; simp) hm
          have hgk' : gk ∉ (H i).rw.flatMap blockOf := fun hm => hgk (by rw [r4]; exact List.mem_append_right _ hm)
          obtain ⟨fs1, fs2⟩ := flat_set (f := blockOf) (x := v2) (by rw [hbv]; simp) (l := (H i).rw) j hnd.2.1 (fun b hb => by rw [hbv] at hb; simp at hb; rw [hb]; exact hgk')
          have hjrw : j < (H i).rw.length := by omega
          have hset : (H i).rw.set j v2 = (H i).rw.take j ++ [v2] ++ (H i).rw.drop (j + [v2].length) := by
            rw [List.set_eq_take_append_cons_drop, if_pos hjrw]; simp
          let Wi : Wit := ⟨(H i).hdr, blockOf (H i).hdr ++ ((H i).rw.set j v2).flatMap blockOf, (H i).rw.set j v2⟩
          let Hn : Nat → Wit := updH (updH H k ⟨(H k).hdr, [], (H k).rw⟩) i Wi
          have hHi : Hn i = Wi := updH_same _ _ _
          have hHk : Hn k = ⟨(H k).hdr, [], (H k).rw⟩ := by rw [show Hn k = updH H k ⟨(H k).hdr, [], (H k).rw⟩ k from updH_other _ _ hne, updH_same]
          have hHo : ∀ q, q ≠ i → q ≠ k → Hn q = H q := fun q h1 h2 => by rw [show Hn q = updH H k ⟨(H k).hdr, [], (H k).rw⟩ q from updH_other _ _ h1, updH_other _ _ h2]
          let osn : List Slot := (os.set k (m + 1, .dead)).set i (n, .rows (rv + 1) e e3 u' (xss.set j ys))
          have hoi : osn[i]? = some (n, .rows (rv + 1) e e3 u' (xss.set j ys)) := List.getElem?_set_self (by simpa using hi)
          have hok : osn[k]? = some (m + 1, .dead) := by
            show ((os.set k (m + 1, .dead)).set i _)[k]? = _
            rw [List.getElem?_set_ne (Ne.symm hne), List.getElem?_set_self hk]
          have hoo : ∀ q, q ≠ i → q ≠ k → osn[q]? = os[q]? := fun q h1 h2 => by
            show ((os.set k (m + 1, .dead)).set i _)[q]? = _
            rw [List.getElem?_set_ne (Ne.symm h1), List.getElem?_set_ne (Ne.symm h2)]
          have hev : Evols os osn H Hn := by
            intro q s hq hl
            by_cases h1 : q = i
            · subst h1
              have : s = (n, .rows rv e e3 u' xss) := Option.some.inj (hq.symm.trans hsl)
              subst this
              refine ⟨_, hoi, ⟨Nat.le_refl _, (fun h => by cases h), (fun h => by cases h), fun _ _ => ⟨rfl, by rw [hHi], (fun d hd => by cases hd; simp [Obj.dim]), fun r hr => ?_⟩⟩⟩
              cases hr
              exact ⟨_, rfl, rfl, Nat.le_succ _, fun he => by simp at he⟩
            · by_cases h2 : q = k
              · subst h2
                have : s = (m, .arr e3 u' ys) := Option.some.inj (hq.symm.trans hrl)
                subst this
                exact ⟨_, hok, ⟨Nat.le_succ _, (fun h => by cases h), (fun h => by cases h), fun he _ => by simp at he⟩⟩
              · exact ⟨s, by rw [hoo q h1 h2]; exact hq, by rw [hHo q h1 h2]; exact Evol.refl _ _⟩
          have hglt : ∀ b ∈ Wi.bs, ((∃ q, (q = i ∨ q = k) ∧ q < os.length ∧ b ∈ (H q).bs) ∨ w.heap.size ≤ b) ∧ b < (w.setRow g (cur.toList.take j ++ [v2] ++ cur.toList.drop (j + [v2].length)).toArray).heap.size := by
            intro b hb
            rw [size_setRow]
            rcases List.mem_append.1 hb with hb | hb
            · have hm : b ∈ (H i).bs := by rw [r4]; exact List.mem_append_left _ hb
              exact ⟨.inl ⟨i, .inl rfl, hi, hm⟩, (hh.rng i b hi hm).2⟩
            · rcases fs2 b hb with hb | hb
              · rw [hbv] at hb
                have hm : b ∈ (H k).bs := by rw [hbk]; exact hb
                exact ⟨.inl ⟨k, .inr rfl, hk, hm⟩, (hh.rng k b hk hm).2⟩
              · have hm : b ∈ (H i).bs := by rw [r4]; exact List.mem_append_right _ hb
                exact ⟨.inl ⟨i, .inl rfl, hi, hm⟩, (hh.rng i b hi hm).2⟩
          obtain ⟨u1, u2, u3⟩ := hh.update (os' := osn) (H' := Hn) (w' := w.setRow g (cur.toList.take j ++ [v2] ++ cur.toList.drop (j + [v2].length)).toArray) (fun q => q = i ∨ q = k) (by simp [osn]) (setRow_below hT hh hi hgi _) (by rw [size_setRow]; exact Nat.le_refl _)
            (fun q hq => ⟨hoo q (fun e => hq (.inl e)) (fun e => hq (.inr e)), hHo q (fun e => hq (.inl e)) (fun e => hq (.inr e))⟩)
            (fun b _ hb => setRow_other w g b _ (fun eb => hb i (.inl rfl) hi (by rw [eb]; exact hgi)))
            (fun q hq _ => by
              rcases hq with rfl | rfl
              · rw [hHi]
                refine ⟨hglt, ?_⟩
                show (blockOf (H q).hdr ++ ((H q).rw.set j v2).flatMap blockOf).Nodup
                rw [List.nodup_append]
                refine ⟨hnd.1, fs1, fun b hb c hc ebc => ?_⟩
                subst ebc
                rcases fs2 b hc with hc | hc
                · rw [hbv] at hc; simp at hc; subst hc
                  exact hgk (by rw [r4]; exact List.mem_append_left _ hb)
                · exact hnd.2.2 b hb b hc rfl
              · rw [hHk]; exact ⟨fun b hb => (by cases hb), List.nodup_nil⟩)
            (fun p q b hp hq _ _ hpq hb => by
              rcases hp with rfl | rfl
              · rcases hq with rfl | rfl
                · exact absurd rfl hpq
                · rw [hHk]; exact fun h => by cases h
              · rw [hHk] at hb; cases hb)
            hev (fun hok' hun q s' hq hs' => by
              rcases hq with rfl | rfl
              · rw [hoi] at hs'; cases hs'
                rw [hHi]
                refine ⟨r0, by simp [Wi, r1], ?_, fun j' xs' h' hx' hr' => ?_, rfl⟩
                · show World.ownsRow _ 0 e 1 (H q).hdr (xss.set j ys).length ((H q).rw.set j v2)
                  rw [List.length_set, hset, e5]
                  rw [e5] at r2
                  exact ownsRow_lay r2 (by simp; omega) hcur
                · by_cases hjj : j' = j
                  · subst hjj
                    have hx2 : xs' = ys := by rw [List.getElem?_set_self m1] at hx'; cases hx'; rfl
                    have hr2 : h' = v2 := by
                      have : ((H q).rw.set j' v2)[j']? = some h' := hr'
                      rw [List.getElem?_set_self hjrw] at this; cases this; rfl
                    subst hx2; subst hr2
                    refine ⟨RowR.mono hun hok' (fun b hb => ?_) ⟨fl2, p3, by rw [hv2]; exact p4⟩, fun e0 => by rw [e0] at hpos; simp at hpos⟩
                    rw [hbv] at hb; simp at hb; subst hb
                    exact setRow_other w g b _ (fun eb => hgk (by rw [eb]; exact hgi))
                  · have hx2 : xss[j']? = some xs' := by rw [List.getElem?_set_ne (Ne.symm hjj)] at hx'; exact hx'
                    have hr2 : (H q).rw[j']? = some h' := by
                      have : ((H q).rw.set j v2)[j']? = some h' := hr'
                      rw [List.getElem?_set_ne (Ne.symm hjj)] at this; exact this
                    obtain ⟨w1, w2⟩ := r3 j' xs' h' hx2 hr2
                    refine ⟨w1.mono hun hok' (fun b hb => setRow_other w g b _ (fun eb => ?_)), w2⟩
                    subst eb
                    exact hnd.2.2 b (by rw [e5]; simp [blockOf, Value.ownBlock]) b (List.mem_flatMap.2 ⟨h', List.mem_of_getElem? hr2, hb⟩) rfl
              · rw [hok] at hs'; cases hs'
                rw [hHk]; rfl)
          refine ⟨_, by rw [m2, e5, Nat.mul_one, Nat.add_zero]; exact hrun, ?_⟩
          exact Kept.out (os' := osn) (H' := Hn) ⟨u1, u2, u3, hev⟩ tv_junk
        | _ => cases h
      · cases h
    | _ => cases h
  · -- an element of a row among rows
    rename_i i ver rv r j off
    replace h := Prog.run_look h; obtain ⟨s, rd', hsl, h⟩ := h
    replace h := Prog.run_chk h; obtain ⟨hv, h⟩ := h
    obtain ⟨n, o⟩ := s
    have hver : n = ver := beq_of hv
    have hi : i < os.length := (List.getElem?_eq_some_iff.1 hsl).1
    cases o with
    | rows rv' e e2 u xss =>
      dsimp only at h
      replace h := Prog.run_chk h; obtain ⟨hrv, h⟩ := h
      replace h := Prog.run_opt h; obtain ⟨ww, hty, h⟩ := h
      replace h := Prog.run_bind _ _ h; obtain ⟨p, _, _, h1, h, _⟩ := h
      replace h := Prog.run_chk h; obtain ⟨ha, h⟩ := h
      replace h := Prog.run_opt h; obtain ⟨z, hz, h⟩ := h
      cases Prog.run_ret h
      obtain ⟨_, s0, g1, _, g3⟩ := hx _ rfl
      have : s0 = (n, .rows rv' e e2 u xss) := Option.some.inj (g1.symm.trans hsl)
      subst this
      obtain ⟨_, g4⟩ := g3 hver
      obtain ⟨_, g5⟩ := g4 (rv', xss.map List.length, u.sz) rfl
      obtain ⟨nn, hd, m1, m2, m3, m4⟩ := g5 (beq_of hrv)
      have hrv' : rv' = rv := beq_of hrv
      obtain ⟨H1, k1, k2, ds, hro, e6⟩ := cons_kept hh hy h1
      obtain ⟨q1, q2⟩ := k2 i ha
      have hs1 : (setAll os p.2)[i]? = some (n, .rows rv' e e2 u xss) := by rw [q2]; exact hsl
      have ho1 := k1.1.obj i _ hs1
      obtain ⟨r0, r1, r2, r3, r4⟩ := ho1
      obtain ⟨xr, hxr, hnn⟩ : ∃ xr, xss[r]? = some xr ∧ xr.length = nn := by
        simp only [List.getElem?_map, Option.map_eq_some_iff] at m1; exact m1
      have hgd : xss.getD r [] = xr := by simp [List.getD_eq_getElem?_getD, hxr]
      rw [hgd] at hz
      have hrl : r < xss.length := (List.getElem?_eq_some_iff.1 hxr).1
      rw [← q1] at m3
      obtain ⟨⟨fl, t0, t3⟩, t4⟩ := r3 r xr hd hxr m3
      obtain ⟨t1, t2⟩ := ROL_setAt hro t0 j (by omega) hz
      obtain ⟨g', c, e3⟩ := elt_addr hT k1.1 t3 (by omega)
      subst e3
      obtain ⟨cur, hcur, hcs⟩ : ∃ cur, w.heap[g']? = some (.cells cur e2 (0, 0)) ∧ fl.length ≤ cur.size := by
        rcases t3.2 with ⟨f1, _⟩ | ⟨g2, cap2, cur2, f1, f2, f3, f4, f5, f6, f7⟩
        · cases f1
        · simp only [Value.slice.injEq, Option.some.injEq, Addr.mk.injEq, and_true, true_and] at f1
          obtain ⟨rfl, rfl⟩ := f1
          exact ⟨cur2, f3, by rw [t3.1, f6]; exact Nat.mul_le_mul_right _ f4⟩
      obtain ⟨i0, hi0, hisz, _, hzz, _⟩ := (hT t).info ((hT t).tyo _ hty)
      have hsz := (hzz _ hty).1
      have hvc : v2.cells.toList = ds := by rw [e6]; exact valOf_cells (RO_len hro) (RO_one hro)
      have hvs : v2.cells.size = ds.length := by rw [← hvc]; simp
      have hrun := store_run (P := P) hT (t := t) ((hT t).tyo _ hty) (off := j * u.sz + off) hcur (v := v2) (by rw [hvs, RO_len hro, hsz]) (by omega) (by rw [hvc]; exact RO_one hro)
      rw [hvc] at hrun
      have hown := ownsRow_lay t3 t2 hcur
      have hi1 : i < (setAll os p.2).length := by rw [setAll_length]; exact hi
      have hgf : g' ∈ (H1 i).rw.flatMap blockOf := List.mem_flatMap.2 ⟨_, List.mem_of_getElem? m3, by simp [blockOf, Value.ownBlock]⟩
      have hgm : g' ∈ (H1 i).bs := by rw [r4]; exact List.mem_append_right _ hgf
      have hnd := k1.1.nod i hi1
      rw [r4, List.nodup_append] at hnd
      refine ⟨_, by rw [m4]; exact hrun, ?_⟩
      have hlens : (xss.set r (xr.set j z)).map List.length = xss.map List.length := by
        apply List.ext_getElem?
        intro q
        by_cases hq : r = q
        · subst hq; rw [List.getElem?_map, List.getElem?_set_self hrl, List.getElem?_map, hxr]; simp
        · rw [List.getElem?_map, List.getElem?_set_ne hq, List.getElem?_map]
      have k3 := k1.1.one (i := i) (s := (n, .rows rv' e e2 u xss)) (s' := (n, .rows rv' e e2 u (xss.set r (xr.set j z)))) hs1 (H1 i) (setRow_below hT k1.1 hi1 (g := g') hgm (cur.toList.take (j * u.sz + off) ++ ds ++ cur.toList.drop (j * u.sz + off + ds.length)).toArray) (by rw [size_setRow]; exact Nat.le_refl _) (fun b _ hb => setRow_other w g' b _ (fun e => hb (by rw [e]; exact hgm))) (fun b hb => ⟨.inl hb, by rw [size_setRow]; exact (k1.1.rng i b hi1 hb).2⟩) (k1.1.nod i hi1)
        (.inr ⟨Nat.le_refl _, (fun h => by cases h), (fun h => by cases h), fun _ _ => ⟨rfl, rfl, (fun d hd => by cases hd; simp [Obj.dim]), (fun r' hr => by cases hr; exact ⟨_, rfl, rfl, Nat.le_refl _, fun _ => ⟨hlens.symm, rfl⟩⟩)⟩⟩)
        (fun hok hun hev => by
          refine ⟨r0, by rw [List.length_set]; exact r1, ?_, fun j' xs' h' hx' hr' => ?_, r4⟩
          · rw [List.length_set]
            exact ownsRow_block r2 (fun b hb => setRow_other w g' b _ (fun eb => hnd.2.2 b hb g' hgf eb))
          · by_cases hjj : r = j'
            · subst hjj
              rw [List.getElem?_set_self hrl] at hx'
              cases hx'
              have : h' = .slice (some ⟨g', 0, none⟩) xr.length c := Option.some.inj (hr'.symm.trans m3)
              subst this
              refine ⟨⟨_, ROL_imp (fun _ _ h => h.mono hun hok) t1, by rw [List.length_set]; exact hown⟩, fun e0 => ?_⟩
              have : (xr.set j z).length = 0 := by rw [e0]; rfl
              rw [List.length_set] at this
              omega
            · rw [List.getElem?_set_ne hjj] at hx'
              obtain ⟨w1, w2⟩ := r3 j' xs' h' hx' hr'
              refine ⟨w1.mono hun hok (fun b hb => setRow_other w g' b _ (fun eb => ?_)), w2⟩
              subst eb
              exact flat_dis hnd.2.1 m3 hr' hjj b (by simp [blockOf, Value.ownBlock]) hb)
      have := (k1.trans k3).out (x := .junk) (v := undef) tv_junk
      rwa [← show setAll os (p.2 ++ [(i, (n, .rows rv' e e2 u (xss.set r (xr.set j z))))]) = (setAll os p.2).set i (n, .rows rv' e e2 u (xss.set r (xr.set j z))) by rw [setAll_append]; rfl, hver, ← hgd, hrv'] at this
    | _ => cases h
  · cases h
end types
end
end Go.Proofs.Yteblfhhhbfodgaa.Sim
/- Maps that the call itself has made. -/
set_option linter.unusedVariables false
set_option linter.unusedSimpArgs false
set_option linter.unusedSectionVars false
namespace Go.Proofs.Yteblfhhhbfodgaa.Sim
open Go Go.RowKit

section
variable {K V : Type}
/-- Where a key stands. -/
def mpos [DecidableEq K] : List (K × V) → K → Nat → Option (Nat × V)
  | [], _, _ => none
  | p :: l, k, i => if k = p.1 then some (i, p.2) else mpos l k (i + 1)
theorem mpos_get [DecidableEq K] (l : List (K × V)) (k : K) : ∀ i, (mpos l k i).map (·.2) = mget l k := by
  induction l with
  | nil => intro i; rfl
  | cons p l ih =>
    intro i
    unfold mpos mget
    split
    · rfl
    · exact ih (i + 1)
/-- Keys of a kind: what the machine does with them. -/
structure KeyOk (P : Program) (kt : TypeId) [DecidableEq K] (good : K → Prop) (ke : K → Value) : Prop where
  check : ∀ (b : Bool) (k : K) (w : World), good k → (Instr.checkKey b 10000 kt (ke k)).run P w = .ok () w
  find : ∀ (k : K) (b : Nat) (l : List (K × Value)) (w : World), good k → (∀ p ∈ l, good p.1) → (Instr.findKey kt (ke k) (entsM ke id b l)).run P w = .ok (mpos l k 0) w
  stays : ∀ (k : K) (w : World), good k → (Instr.keyThatStays (ke k) (ke k)).run P w = .ok (ke k) w
theorem int_find (q : IntKind) (k : Int) : ∀ (l : List (Int × Value)) (b i : Nat), Instr.findNow (.int q) (.int q k) (entsM (Value.int q) id b l) i = some (mpos l k i)
  | [], _, _ => rfl
  | p :: l, b, i => by
    have ih := int_find q k l (b + 1) (i + 1)
    simp only [entsM, Instr.findNow, Instr.sameNow, if_true, mpos]
    by_cases h : k = p.1
    · rw [if_pos h, h]; simp
    · rw [if_neg h, show (k == p.1) = false from beq_eq_false_iff_ne.2 h]; exact ih
theorem KeyOk.int {P : Program} {kt : TypeId} {q : IntKind} (hk : P.underlying kt = some (.int q)) : KeyOk P kt (fun _ => True) (Value.int q) := by
  refine ⟨fun b k w _ => ?_, fun k b l w _ _ => ?_, fun k w _ => ?_⟩
  · exact MapKept.run_checkKey (k := Value.int q k) hk (by simp [MapKept.IsKey]) b 9999
  · simp [Instr.findKey, run_underlying hk, int_find]
  · exact MapKept.run_keyThatStays (d := .int q) (by simp [MapKept.IsKey])
theorem bytes_iff (x y : ByteArray) : (x.toList == y.toList) = true ↔ x = y := by
  rw [beq_iff_eq, ByteArray.toList_eq, ByteArray.toList_eq]
  exact ⟨fun h => ByteArray.ext (Array.toList_inj.mp h), fun h => by rw [h]⟩
theorem bytes_false {x y : ByteArray} (h : x ≠ y) : (x.toList == y.toList) = false := by
  rw [← Bool.not_eq_true, bytes_iff]; exact h
theorem string_find (k : ByteArray) : ∀ (l : List (ByteArray × Value)) (b i : Nat), Instr.findNow .string (.string k) (entsM Value.string id b l) i = some (mpos l k i)
  | [], _, _ => rfl
  | p :: l, b, i => by
    have ih := string_find k l (b + 1) (i + 1)
    simp only [entsM, Instr.findNow, Instr.sameNow, mpos]
    by_cases h : k = p.1
    · rw [if_pos h, show (k == p.1) = true by rw [beq_toListBytes]; exact (bytes_iff _ _).2 h]; rfl
    · rw [if_neg h, show (k == p.1) = false from by rw [beq_toListBytes]; exact bytes_false h]; exact ih
theorem KeyOk.string {P : Program} {kt : TypeId} (hk : P.underlying kt = some .string) : KeyOk P kt (fun _ => True) Value.string := by
  refine ⟨fun b k w _ => ?_, fun k b l w _ _ => ?_, fun k w _ => ?_⟩
  · exact MapKept.run_checkKey (k := Value.string k) hk (by simp [MapKept.IsKey]) b 9999
  · simp [Instr.findKey, run_underlying hk, string_find]
  · exact MapKept.run_keyThatStays (d := .string) (by simp [MapKept.IsKey])
end
/-- An array as a value. -/
def arrV {n : Nat} (v : Vector Int n) : Value := .agg (v.toArray.map (Value.int .i64))
section
variable {P : Program} {kt e : TypeId} {n : Nat} {w : World}
theorem arr_cell (v : Vector Int n) {i : Nat} (h : i < n) : (v.toArray.map (Value.int .i64))[i]? = some (.int .i64 v[i]) := by
  rw [Array.getElem?_map, Array.getElem?_eq_getElem (by rw [v.size_toArray]; exact h)]; rfl
theorem eqItems_int (he : P.plainKey e = true) (hu : P.underlying e = some (.int .i64)) (d : Nat) (a b : Vector Int n) : ∀ is : List Nat, (∀ i ∈ is, i < n) → (Op.eqItems (d + 1) e 1 (a.toArray.map (Value.int .i64)) (b.toArray.map (Value.int .i64)) is).run P w = .ok (is.all (fun i => if h : i < n then a[i] == b[i] else true)) w
  | [], _ => by simp [Op.eqItems]
  | i :: is, h => by
    have hi := h i List.mem_cons_self
    have ih := eqItems_int he hu d a b is (fun j hj => h j (List.mem_cons_of_mem _ hj))
    have p1 := run_part_plain (w := w) he (off := i * 1) (by rw [Nat.mul_one]; exact arr_cell a hi)
    have p2 := run_part_plain (w := w) he (off := i * 1) (by rw [Nat.mul_one]; exact arr_cell b hi)
    have p3 := run_equalIn_int w d e .i64 .i64 a[i] b[i] hu
    simp only [Op.eqItems, Sem.run_bind, p1, p2, p3, Result.andThen_ok, List.all_cons, dif_pos hi]
    cases hc : (a[i] == b[i])
    · simp
    · simpa using ih
theorem equal_arr (hk : P.underlying kt = some (.array n e)) (hu : P.underlying e = some (.int .i64)) (hc : P.cellsOf e = 1) (he : P.plainKey e = true) (a b : Vector Int n) : (Op.equal kt (arrV a) (arrV b)).run P w = .ok (decide (a = b)) w := by
  obtain ⟨i, hi⟩ := info_of_underlying hu
  have h := run_equalIn_array (w := w) 9999 (a.toArray.map (Value.int .i64)) (b.toArray.map (Value.int .i64)) hk hi
  rw [hc, eqItems_int he hu 9998 a b (List.range n) (fun i hi => List.mem_range.1 hi)] at h
  have e1 : (List.range n).all (fun i => if h : i < n then a[i] == b[i] else true) = decide (a = b) := by
    rw [Bool.eq_iff_iff, List.all_eq_true, decide_eq_true_eq]
    constructor
    · intro h
      apply Vector.ext
      intro i hi
      have := h i (List.mem_range.2 hi)
      rw [dif_pos hi] at this
      exact eq_of_beq this
    · rintro rfl i hi
      rw [dif_pos (List.mem_range.1 hi)]; simp
  rw [e1] at h
  exact h
theorem arr_stays (k : Vector Int n) : (Instr.keyThatStays (arrV k) (arrV k)).run P w = .ok (arrV k) w := by
  have h : Instr.sameBits 10000 (arrV k) (arrV k) = true := by
    unfold arrV
    rw [show (10000 : Nat) = 9999 + 1 from rfl, Instr.sameBits]
    simp only [beq_self_eq_true, Bool.true_and]
    have key : ∀ l : List Int, ((l.map (Value.int .i64)).zip (l.map (Value.int .i64))).all (fun x => Instr.sameBits 9999 x.1 x.2) = true := by
      intro l
      induction l with
      | nil => rfl
      | cons x l ih => simp only [List.map_cons, List.zip_cons_cons, List.all_cons, ih, Bool.and_true]; simp [Instr.sameBits]
    have := key k.toArray.toList
    simpa using this
  simp [Instr.keyThatStays, h]
theorem arr_check (hk : P.underlying kt = some (.array n e)) (hu : P.underlying e = some (.int .i64)) (hc : P.cellsOf e = 1) (he : P.plainKey e = true) (em : Bool) (k : Vector Int n) : (Instr.checkKey em 10000 kt (arrV k)).run P w = .ok () w := by
  obtain ⟨i, hi⟩ := info_of_underlying hu
  unfold arrV
  rw [show (10000 : Nat) = 9999 + 1 from rfl, Instr.checkKey]
  simp only [Sem.run_bind, run_underlying hk, Result.andThen_ok]
  simp only [Std.Legacy.Range.forIn_eq_forIn_range', Std.Legacy.Range.size, Nat.sub_zero, Nat.add_one_sub_one, Nat.div_one]
  have each : ∀ j ∈ List.range' 0 n, j < n := fun j hj => by simpa using hj
  generalize List.range' 0 n = is at each
  induction is with
  | nil => simp
  | cons j is ih =>
    have hj := each j (by simp)
    have p1 := run_part_plain (w := w) he (off := j * 1) (by rw [Nat.mul_one]; exact arr_cell k hj)
    have p2 := MapKept.run_checkKey (P := P) (w := w) (k := Value.int .i64 k[j]) hu (by simp [MapKept.IsKey]) em 9998
    simp only [List.forIn_cons, Sem.run_bind, run_sizeOf w hi, hc, Result.andThen_ok, p1, p2, Sem.run_pure]
    exact ih (fun y hy => each y (by simp [hy]))

def arrK (x : List Int) : Value := .agg (x.map (Value.int .i64)).toArray
theorem arrK_vec {x : List Int} (h : x.length = n) : arrK x = arrV (n := n) ⟨x.toArray, by simpa using h⟩ := by simp [arrK, arrV]
theorem equal_arrK (hk : P.underlying kt = some (.array n e)) (hu : P.underlying e = some (.int .i64)) (hc : P.cellsOf e = 1) (he : P.plainKey e = true) {a b : List Int} (ha : a.length = n) (hb : b.length = n) : (Op.equal kt (arrK a) (arrK b)).run P w = .ok (decide (a = b)) w := by
  rw [arrK_vec ha, arrK_vec hb, equal_arr hk hu hc he]
  congr 1
  simp
theorem arrK_find (hk : P.underlying kt = some (.array n e)) (hu : P.underlying e = some (.int .i64)) (hc : P.cellsOf e = 1) (he : P.plainKey e = true) {k : List Int} (hkl : k.length = n) : ∀ (l : List (List Int × Value)) (b i : Nat), (∀ p ∈ l, p.1.length = n) → (Instr.findAsking kt (arrK k) (entsM arrK id b l) i).run P w = .ok (mpos l k i) w
  | [], _, _, _ => by simp [entsM, Instr.findAsking, mpos]
  | p :: l, b, i, hl => by
    have ih := arrK_find hk hu hc he hkl l (b + 1) (i + 1) (fun q hq => hl q (List.mem_cons_of_mem _ hq))
    simp only [entsM, Instr.findAsking, Sem.run_bind, equal_arrK hk hu hc he hkl (hl p List.mem_cons_self), Result.andThen_ok, mpos]
    by_cases h : k = p.1
    · simp [h]
    · simpa [h] using ih
theorem KeyOk.arr (hk : P.underlying kt = some (.array n e)) (hu : P.underlying e = some (.int .i64)) (hc : P.cellsOf e = 1) (he : P.plainKey e = true) : KeyOk P kt (fun k : List Int => k.length = n) arrK := by
  refine ⟨fun b k w h => by rw [arrK_vec h]; exact arr_check hk hu hc he b _, fun k b l w h h2 => ?_, fun k w h => by rw [arrK_vec h]; exact arr_stays _⟩
  have hf := arrK_find (w := w) hk hu hc he h l b 0 h2
  unfold Instr.findKey
  simp only [Sem.run_bind, run_underlying hk, Result.andThen_ok]
  cases l with
  | nil => simp [entsM, Instr.findNow, mpos]
  | cons p l =>
    have e1 : Instr.findNow (.array n e) (arrK k) (entsM arrK id b (p :: l)) 0 = none := by simp [entsM, Instr.findNow, Instr.sameNow, arrK]
    rw [e1]
    exact hf
end
section
variable {K : Type} [DecidableEq K] {P : Program} {kt et mt : TypeId} {good : K → Prop} {ke : K → Value} {w : World} {g : Nat} {l : List (K × Value)} {z : Value}
theorem look_run (O : KeyOk P kt good ke) (ht : P.underlying mt = some (.map kt et)) (hz : (zeroValue et).run P w = .ok z w) (hb : w.heap[g]? = some (mobj ke id l)) (k : K) (hk : good k) (hl : ∀ p ∈ l, good p.1) (c : Bool) :
    (Instr.lookup mt (.map (some g)) (ke k) c).run P w = .ok (if c then .tuple #[(mget l k).getD z, .bool (mget l k).isSome] else (mget l k).getD z) w := by
  have hf := O.find k 0 l w hk hl
  have e : mget l k = (mpos l k 0).map (·.2) := (mpos_get l k 0).symm
  rw [e]
  cases hp : mpos l k 0 with
  | none => rw [hp] at hf; simp [Instr.lookup, run_underlying ht, MapKept.run_getObj_map hb, O.check _ _ _ hk, hf, hz, Result.andThen]
  | some q => rw [hp] at hf; simp [Instr.lookup, run_underlying ht, MapKept.run_getObj_map hb, O.check _ _ _ hk, hf, Result.andThen]
variable {V : Type} {ve : V → Value}
omit [DecidableEq K] in
theorem entsM_length (l : List (K × V)) : ∀ b, (entsM ke ve b l).length = l.length := by
  induction l with
  | nil => intro b; rfl
  | cons p l ih => intro b; simp only [entsM, List.length_cons, ih (b + 1)]
omit [DecidableEq K] in
theorem entsM_append (l m : List (K × V)) : ∀ b, entsM ke ve b (l ++ m) = entsM ke ve b l ++ entsM ke ve (b + l.length) m := by
  induction l with
  | nil => intro b; simp [entsM]
  | cons p l ih => intro b; simp only [entsM, List.cons_append, ih (b + 1), List.length_cons]; rw [show b + 1 + l.length = b + (l.length + 1) by omega]
theorem mput_none {l : List (K × V)} {k : K} {v : V} : ∀ {i : Nat}, mpos l k i = none → mput l k v = l ++ [(k, v)] := by
  induction l with
  | nil => intro i _; rfl
  | cons p l ih =>
    intro i h
    unfold mpos at h
    split at h
    · cases h
    · rename_i hk
      unfold mput
      rw [if_neg hk, ih h]; rfl
theorem mput_some {l : List (K × V)} {k : K} {v u : V} : ∀ {i j : Nat}, mpos l k i = some (j, u) → ∃ n, j = i + n ∧ n < l.length ∧ (∃ h : n < l.length, l[n].1 = k) ∧ mput l k v = l.set n (k, v) := by
  induction l with
  | nil => intro i j h; simp [mpos] at h
  | cons p l ih =>
    intro i j h
    unfold mpos at h
    split at h
    · rename_i hk
      injection h with h
      injection h with h1 h2
      refine ⟨0, by omega, by simp, ⟨by simp, by simp [hk]⟩, ?_⟩
      unfold mput
      rw [if_pos hk]; rfl
    · rename_i hk
      obtain ⟨n, h1, h2, ⟨h3, h4⟩, h5⟩ := ih h
      refine ⟨n + 1, by omega, by simp; omega, ⟨by simp; omega, by simpa using h4⟩, ?_⟩
      unfold mput
      rw [if_neg hk, h5]; rfl
omit [DecidableEq K] in
theorem entsM_set (l : List (K × V)) (k : K) (v : V) : ∀ (n b : Nat) (h : n < l.length), (l[n]).1 = k → (entsM ke ve b l).modify n (fun e => { e with key := ke k, val := ve v }) = entsM ke ve b (l.set n (k, v)) := by
  induction l with
  | nil => intro n b h _; simp at h
  | cons p l ih =>
    intro n b h hk
    cases n with
    | zero => simp [entsM]
    | succ n => simp only [entsM, List.modify_succ_cons, List.set_cons_succ]; rw [ih n (b + 1) (by simpa using h) (by simpa using hk)]
omit [DecidableEq K] in
theorem entsM_key {l : List (K × V)} : ∀ {n b : Nat} (h : n < l.length), ((entsM ke ve b l)[n]?).map (·.key) = some (ke l[n].1) := by
  induction l with
  | nil => intro n b h; simp at h
  | cons p l ih =>
    intro n b h
    cases n with
    | zero => simp [entsM]
    | succ n => simpa [entsM] using ih (n := n) (b := b + 1) (by simpa using h)
omit [DecidableEq K] in
theorem mobj_push (l : List (K × V)) (k : K) (v : V) : mobj ke ve (l ++ [(k, v)]) = .map ((entsM ke ve 0 l).toArray.push { key := ke k, val := ve v, born := l.length }) (l.length + 1) := by
  unfold mobj
  rw [entsM_append, List.length_append]
  simp [entsM]
omit [DecidableEq K] in
theorem mobj_set (l : List (K × V)) (k : K) (v : V) {n : Nat} (h : n < l.length) (hk : l[n].1 = k) : mobj ke ve (l.set n (k, v)) = .map ((entsM ke ve 0 l).toArray.modify n (fun e => { e with key := ke k, val := ve v })) l.length := by
  unfold mobj
  rw [← entsM_set l k v n 0 h hk, List.length_set]
  simp
theorem put_run (O : KeyOk P kt good ke) (ht : P.underlying mt = some (.map kt et)) (hb : w.heap[g]? = some (mobj ke id l)) (k : K) (v : Value) (hkg : good k) (hl : ∀ p ∈ l, good p.1) :
    ∃ w', (Instr.mapUpdate mt (.map (some g)) (ke k) v).run P w = .ok () w' ∧ w'.heap[g]? = some (mobj ke id (mput l k v)) ∧ w.grownBy w' (some g) := by
  have hf := O.find k 0 l w hkg hl
  have hr : (Instr.mapUpdate mt (.map (some g)) (ke k) v).run P w = .ok () (ChangeMaps.setBlock w g (mobj ke id (mput l k v))) := by
    cases hp : mpos l k 0 with
    | none =>
      rw [hp] at hf
      rw [mput_none hp, mobj_push]
      simp [Instr.mapUpdate, run_underlying ht, MapKept.run_getObj_map hb, O.check _ _ _ hkg, hf, MapKept.run_setObj_map _ hb, Result.andThen, ChangeMaps.setBlock]
    | some q =>
      obtain ⟨j, u⟩ := q
      rw [hp] at hf
      obtain ⟨n, h1, h2, ⟨h3, h4⟩, h5⟩ := mput_some (v := v) hp
      obtain rfl : j = n := by omega
      have hk := entsM_key (ke := ke) (ve := id) (b := 0) h3
      rw [h5, mobj_set l k v h3 h4]
      rw [h4] at hk
      simp [Instr.mapUpdate, run_underlying ht, MapKept.run_getObj_map hb, O.check _ _ _ hkg, hf, MapKept.run_setObj_map _ hb, Result.andThen, O.stays _ _ hkg, hk, ChangeMaps.setBlock]
  exact ⟨_, hr, ChangeMaps.heap_setBlock_same hb _, ⟨rfl, rfl, rfl, by simp [ChangeMaps.setBlock], fun i _ hi => ChangeMaps.heap_setBlock_other hb _ (fun e => hi (by rw [e]))⟩⟩
end
end Go.Proofs.Yteblfhhhbfodgaa.Sim
/- Maps: the operations. -/
set_option linter.unusedVariables false
set_option linter.unusedSimpArgs false
set_option linter.unusedSectionVars false
namespace Go.Proofs.Yteblfhhhbfodgaa.Sim
open Go Go.RowKit

section
variable {X : Ctx} {H H' : Nat → Wit} {os os' : List Slot} {w w' : World} {ok : Nat → Prop}

theorem MapR_good {kt vt : Ty} : ∀ {es : List (kt.den × vt.den)} {l : List (kt.den × Value)}, MapR w ok kt vt es l → ∀ p ∈ l, keyGood kt p.1
  | [], _, h, p, hp => by cases h; cases hp
  | _ :: _, _, ⟨v, l', h1, h2, _, h5⟩, p, hp => by
    rw [h1] at hp
    rcases List.mem_cons.1 hp with rfl | hp
    · exact h2
    · exact MapR_good h5 p hp
theorem MapR_get {kt vt : Ty} (k : kt.den) : ∀ {es : List (kt.den × vt.den)} {l : List (kt.den × Value)}, MapR w ok kt vt es l →
    (∃ ds, RO w ok vt ((mget es k).getD vt.zero) ds ∧ (mget l k).getD (valOf vt vt.zcells) = valOf vt ds) ∧ (mget l k).isSome = (mget es k).isSome
  | [], _, h => by cases h; exact ⟨⟨_, RO_zero w ok vt, rfl⟩, rfl⟩
  | p :: es, _, ⟨v, l', h1, h2, ⟨ds, h3, h4⟩, h5⟩ => by
    rw [h1]
    simp only [mget]
    by_cases hk : k = p.1
    · rw [if_pos hk, if_pos hk]; exact ⟨⟨ds, h3, h4⟩, rfl⟩
    · rw [if_neg hk, if_neg hk]; exact MapR_get k h5
theorem MapR_put {kt vt : Ty} {k : kt.den} (hk : keyGood kt k) {x : vt.den} {ds : List Value} (hx : RO w ok vt x ds) : ∀ {es : List (kt.den × vt.den)} {l : List (kt.den × Value)}, MapR w ok kt vt es l → MapR w ok kt vt (mput es k x) (mput l k (valOf vt ds))
  | [], _, h => by cases h; exact ⟨_, [], rfl, hk, ⟨ds, hx, rfl⟩, rfl⟩
  | p :: es, _, ⟨v, l', h1, h2, h3, h5⟩ => by
    rw [h1]
    simp only [mput]
    by_cases hk' : k = p.1
    · rw [if_pos hk', if_pos hk']; exact ⟨_, l', rfl, hk, ⟨ds, hx, rfl⟩, h5⟩
    · rw [if_neg hk', if_neg hk']; exact ⟨v, _, rfl, h2, h3, MapR_put hk hx h5⟩

theorem key_val {kt : Ty} (h : kt.keyOk = true) {x : kt.den} {cs : List Value} (hr : RO w ok kt x cs) : valOf kt cs = keyV kt x ∧ keyGood kt x := by
  cases kt with
  | int k => cases hr; exact ⟨rfl, trivial⟩
  | str => cases hr; exact ⟨rfl, trivial⟩
  | arr n e =>
    cases e with
    | int k =>
      have hq : k = .i64 := by cases k <;> first | rfl | cases h
      subst hq
      obtain ⟨h1, h2⟩ := hr
      refine ⟨?_, h1⟩
      have key : ∀ {xs : List Int} {cs : List Value}, ROL (RO w ok (.int .i64)) xs cs → cs = xs.map (Value.int .i64) := by
        intro xs
        induction xs with
        | nil => intro cs h; exact h
        | cons x xs ih => rintro cs ⟨p, q, e1, e2, e3⟩; cases e2; rw [e1, ih e3]; rfl
      rw [key h2]; unfold valOf; rw [if_pos (show (Ty.arr n (Ty.int .i64)).isAgg = true from rfl)]; rfl
    | _ => cases h
  | _ => cases h

section
variable {P : Program} {E : Env} (hT : TabOk P E)
include hT

theorem map_tys {t : TypeId} {kt vt : Ty} (h : mapTy E t kt vt = true) : ∃ k v, P.underlying t = some (.map k v) ∧ (E.info k).ty = some kt ∧ (E.info v).ty = some vt ∧ kt.keyOk = true ∧ vt.isAgg = false := by
  unfold mapTy at h
  split at h
  · rename_i k v hs
    simp only [Bool.and_eq_true, decide_eq_true_eq, Bool.not_eq_true'] at h
    exact ⟨k, v, ((hT t).map _ _ hs).1, h.1.1.1, h.1.1.2, h.1.2, h.2⟩
  · cases h

theorem key_ok {k : TypeId} {kt : Ty} (hk : (E.info k).ty = some kt) (hko : kt.keyOk = true) : KeyOk P k (keyGood kt) (keyV kt) := by
  have prim : ∀ {t : TypeId} {ty : Ty}, (E.info t).ty = some ty → (∃ q, ty = .int q) ∨ ty = .str → (∃ q, ty = .int q ∧ P.underlying t = some (.int q)) ∨ (ty = .str ∧ P.underlying t = some .string) := by
    intro t ty ht hty
    cases hs : (E.info t).shp with
    | prim =>
      obtain ⟨ty', e1, e2⟩ := (hT t).prim hs
      rw [ht] at e1; cases e1
      rcases e2 with ⟨q, e, e3⟩ | ⟨e, _⟩ | ⟨e, e3⟩
      · exact .inl ⟨q, e, e3⟩
      · rcases hty with ⟨q, rfl⟩ | rfl <;> cases e
      · exact .inr ⟨e, e3⟩
    | slice e =>
      obtain ⟨_, _, h3⟩ := (hT t).slice e hs
      obtain ⟨u, rfl, _⟩ := h3 ty ht
      rcases hty with ⟨q, e⟩ | e <;> cases e
    | struct fs =>
      obtain ⟨F, _, _, h3⟩ := (hT t).struct fs hs
      have := h3 ty ht
      cases fs with
      | nil => cases (show ty = .unit from this); rcases hty with ⟨q, e⟩ | e <;> cases e
      | cons f fs => obtain ⟨a, b, rfl, _⟩ := this; rcases hty with ⟨q, e⟩ | e <;> cases e
    | array n e =>
      obtain ⟨_, h2⟩ := (hT t).array n e hs
      obtain ⟨u, rfl, _⟩ := h2 ty ht
      rcases hty with ⟨q, e⟩ | e <;> cases e
    | map k v => have := ((hT t).map _ _ hs).2; rw [ht] at this; cases this
    | other => exact absurd hs ((hT t).tyo _ ht)
  cases kt with
  | int q =>
    rcases prim hk (.inl ⟨q, rfl⟩) with ⟨q', e, h⟩ | ⟨e, _⟩
    · cases e; exact KeyOk.int h
    · cases e
  | str =>
    rcases prim hk (.inr rfl) with ⟨q', e, h⟩ | ⟨_, h⟩
    · cases e
    · exact KeyOk.string h
  | arr n e =>
    cases e with
    | int q =>
      have hq : q = .i64 := by cases q <;> first | rfl | cases hko
      subst hq
      cases hs : (E.info k).shp with
      | array n' e =>
        obtain ⟨h1, h2⟩ := (hT k).array n' e hs
        obtain ⟨u, e1, e2, _⟩ := h2 _ hk
        cases e1
        rcases prim e2 (.inl ⟨_, rfl⟩) with ⟨q', e, h⟩ | ⟨e, _⟩
        · cases e
          obtain ⟨i, hi, hsz, _, hz, _⟩ := (hT e).info ((hT e).tyo _ e2)
          have hc : P.cellsOf e = 1 := by
            have := (hz _ e2).1
            simp [Program.cellsOf, hi, hsz, ← this, Ty.sz]
          exact KeyOk.arr h1 h hc (by simp [Program.plainKey, h])
        · cases e
      | prim =>
        obtain ⟨ty', e1, e2⟩ := (hT k).prim hs
        rw [hk] at e1; cases e1
        rcases e2 with ⟨q, e, e3⟩ | ⟨e, _⟩ | ⟨e, e3⟩ <;> cases e
      | slice e =>
        obtain ⟨_, _, h3⟩ := (hT k).slice e hs
        obtain ⟨u, e1, _⟩ := h3 _ hk
        cases e1
      | struct fs =>
        obtain ⟨F, _, _, h3⟩ := (hT k).struct fs hs
        have := h3 _ hk
        cases fs with
        | nil => cases (show Ty.arr n (.int .i64) = .unit from this)
        | cons f fs => obtain ⟨a, b, e, _⟩ := this; cases e
      | map k v => have := ((hT _).map _ _ hs).2; rw [hk] at this; cases this
      | other => exact absurd hs ((hT _).tyo _ hk)
    | _ => cases hko
  | _ => cases hko

variable (hh : HeapR X H os w)
include hh

theorem mp_of {i : Nat} {v : Value} (h : AVR w (okOf X w H os) H os (.mp i) v) {n : Nat} {mt : TypeId} {kt vt : Ty} {es : List (kt.den × vt.den)} (hs : os[i]? = some (n, .map mt kt vt es)) :
    ∃ g l, v = .map (some g) ∧ (H i).hdr = .map (some g) ∧ (H i).bs = [g] ∧ w.heap[g]? = some (mobj (keyV kt) id l) ∧ MapR w (okOf X w H os) kt vt es l := by
  obtain ⟨_, s0, g1, g2, g3⟩ := h
  obtain ⟨g, l, e1, e2, e3, e4⟩ := hh.obj _ _ hs
  exact ⟨g, l, g3.trans e1, e1, e2, e3, e4⟩

theorem makeMapP_ok {t : TypeId} {fr : Nat} (hf : os[fr]? = some (0, .dead)) {res : Res} {rd : List Nat} (h : (makeMapP E t fr).run (fun i => os[i]?) = some (res, rd)) :
    ∃ u w', (Instr.makeMap t none).run P w = .ok u w' ∧ Out X H os w (setAll os res.upds) res.val u w' := by
  unfold makeMapP at h
  split at h
  · split at h
    · rename_i k v hs kt vt hk hv
      replace h := Prog.run_chk h; obtain ⟨hc, h⟩ := h
      cases Prog.run_ret h
      have hlen : fr < os.length := (List.getElem?_eq_some_iff.1 hf).1
      have hz : (mobj (keyV kt) id ([] : List (kt.den × Value))) = .map #[] 0 := rfl
      refine ⟨.map (some w.heap.size), w.alloc (.map #[] 0), by simp [Instr.makeMap], ?_⟩
      have k3 := hh.one (s' := (0, .map t kt vt [])) hf ⟨.map (some w.heap.size), [w.heap.size], []⟩ (w' := w.alloc (.map #[] 0)) (below_alloc' hh _) (by simp) (fun b hb _ => heap_alloc_old w _ b hb)
        (fun b hb => by cases List.mem_singleton.1 hb; exact ⟨.inr (Nat.le_refl _), by simp⟩) (by simp) (.inl rfl) (fun hok hun hev => ⟨_, [], rfl, rfl, by rw [hz]; exact heap_alloc_new w _, rfl⟩)
      exact k3.out (tv_one ⟨rfl, _, List.getElem?_set_self hlen, rfl, by rw [updH_same]⟩)
    · cases h
  · cases h

theorem lookupP_ok {t : TypeId} {x y : TV} {u v : Value} {c : Bool} (hx : TVR w (okOf X w H os) H os x u) (hy : TVR w (okOf X w H os) H os y v) {res : Res} {rd : List Nat} (h : (lookupP E t x y c).run (fun i => os[i]?) = some (res, rd)) :
    ∃ z, (Instr.lookup t u v c).run P w = .ok z w ∧ res.upds = [] ∧ TVR w (okOf X w H os) H os res.val z := by
  unfold lookupP at h
  split at h
  · rename_i i
    replace h := Prog.run_look h; obtain ⟨s, rd', hsl, h⟩ := h
    obtain ⟨n, o⟩ := s
    cases o <;> try (cases h; done)
    rename_i mt kt vt es
    dsimp only at h
    replace h := Prog.run_chk h; obtain ⟨hm, h⟩ := h
    replace h := Prog.run_bind _ _ h; obtain ⟨key, _, _, h1, h, _⟩ := h
    obtain ⟨k, vv, m1, m2, m3, m4, m5⟩ := map_tys (P := P) hT hm
    obtain ⟨g, l, e1, e2, e3, e4, e5⟩ := mp_of hT hh (hx _ rfl) hsl
    obtain ⟨cs, r1, r2⟩ := view_ok hh hy h1
    obtain ⟨q1, q2⟩ := key_val m4 r1
    obtain ⟨ii, hi, hsz, _, hz, _⟩ := (hT vv).info ((hT vv).tyo _ m3)
    have hzero : (zeroValue vv).run P w = .ok (valOf vt vt.zcells) w := by simp [zeroValue, typeInfo, hi, (hz _ m3).2]
    have hrun := look_run (key_ok (P := P) hT m2 m4) m1 hzero e4 key q2 (MapR_good e5) c
    obtain ⟨⟨ds, p1, p2⟩, p3⟩ := MapR_get key e5
    rw [p2, p3] at hrun
    rw [e1, r2, q1, hrun]
    cases c with
    | false => cases Prog.run_ret h; exact ⟨_, rfl, rfl, tv_ro p1⟩
    | true =>
      cases Prog.run_ret h
      refine ⟨_, rfl, rfl, _, rfl, fun q p hp => ?_⟩
      match q, hp with
      | 0, hp => cases hp; exact ⟨_, rfl, fun a e => by cases e; exact ⟨ds, p1, rfl⟩⟩
      | 1, hp => cases hp; exact ⟨_, rfl, fun a e => by cases e; exact ⟨_, rfl, rfl⟩⟩
  · cases h

theorem mapUpdateP_ok {t : TypeId} {x y z : TV} {v1 v2 v3 : Value} (hx : TVR w (okOf X w H os) H os x v1) (hy : TVR w (okOf X w H os) H os y v2) (hz : TVR w (okOf X w H os) H os z v3) {res : Res} {rd : List Nat} (h : (mapUpdateP E t x y z).run (fun i => os[i]?) = some (res, rd)) :
    ∃ w', (Instr.mapUpdate t v1 v2 v3).run P w = .ok () w' ∧ Out X H os w (setAll os res.upds) res.val undef w' := by
  unfold mapUpdateP at h
  split at h
  · rename_i i
    replace h := Prog.run_look h; obtain ⟨s, rd', hsl, h⟩ := h
    obtain ⟨n, o⟩ := s
    cases o <;> try (cases h; done)
    rename_i mt kt vt es
    dsimp only at h
    replace h := Prog.run_chk h; obtain ⟨hm, h⟩ := h
    replace h := Prog.run_bind _ _ h; obtain ⟨key, _, _, h1, h, _⟩ := h
    replace h := Prog.run_bind _ _ h; obtain ⟨p, _, _, h2, h, _⟩ := h
    replace h := Prog.run_chk h; obtain ⟨ha, h⟩ := h
    cases Prog.run_ret h
    obtain ⟨k, vv, m1, m2, m3, m4, m5⟩ := map_tys (P := P) hT hm
    obtain ⟨cs, r1, r2⟩ := view_ok hh hy h1
    obtain ⟨q1, q2⟩ := key_val m4 r1
    obtain ⟨H1, k1, k2, ds, hro, e6⟩ := cons_kept hh hz h2
    obtain ⟨p1, p2⟩ := k2 i ha
    obtain ⟨g, l, e1, e2, e3, e4, e5⟩ := mp_of hT hh (hx _ rfl) hsl
    have hs1 : (setAll os p.2)[i]? = some (n, .map mt kt vt es) := by rw [p2]; exact hsl
    obtain ⟨g', l', f2, f3, f4, f5⟩ := k1.1.obj _ _ hs1
    have hgg : g' = g := by rw [p1, e2] at f2; injection f2 with f2; injection f2 with f2; exact f2.symm
    subst hgg
    have hi : i < os.length := (List.getElem?_eq_some_iff.1 hsl).1
    have hi1 : i < (setAll os p.2).length := by rw [setAll_length]; exact hi
    obtain ⟨w', g1, g2, g3⟩ := put_run (key_ok (P := P) hT m2 m4) m1 f4 key (valOf vt ds) q2 (MapR_good f5)
    refine ⟨w', by rw [e1, r2, q1, e6]; exact g1, ?_⟩
    have hgm : g' ∈ (H1 i).bs := by rw [f3]; simp
    have k3 := k1.1.one (i := i) (s := (n, .map mt kt vt es)) (s' := (n, .map mt kt vt (mput es key p.1))) (w' := w') hs1 (H1 i)
      ⟨g3.os, g3.tape, g3.output, g3.size, fun b hb hnm => g3.block b (Nat.lt_of_lt_of_le hb k1.1.below.size) (fun e => by cases e; exact ((k1.1.rng i _ hi1 hgm).1.elim (fun h => Nat.not_le.2 hb h) hnm).elim)⟩ g3.size
      (fun b hb hn => g3.block b hb (fun e => by cases e; exact hn hgm)) (fun b hb => ⟨.inl hb, Nat.lt_of_lt_of_le (k1.1.rng i b hi1 hb).2 g3.size⟩) (k1.1.nod i hi1)
      (.inr ⟨Nat.le_refl _, (fun h => by cases h), (fun _ => ⟨rfl, rfl⟩), fun _ _ => ⟨rfl, rfl, (fun d hd => by cases hd), (fun r hr => by cases hr)⟩⟩) (fun hok hun hev => ⟨g', _, f2, f3, g2, MapR_put q2 (hro.mono hun hok) (f5.mono hun hok)⟩)
    have := (k1.trans k3).out (x := .junk) (v := undef) tv_junk
    rwa [← show setAll os (p.2 ++ [(i, (n, .map mt kt vt (mput es key p.1)))]) = (setAll os p.2).set i (n, .map mt kt vt (mput es key p.1)) by rw [setAll_append]; rfl] at this
  · cases h
end
end
end Go.Proofs.Yteblfhhhbfodgaa.Sim
/- Every operation that is no call of a function. -/
set_option linter.unusedVariables false
set_option linter.unusedSimpArgs false
set_option linter.unusedSectionVars false
namespace Go.Proofs.Yteblfhhhbfodgaa.Sim
open Go Go.RowKit

section
variable {X : Ctx} {H H' : Nat → Wit} {os os' : List Slot} {w w' : World} {ok : Nat → Prop}
variable {P : Program} {E : Env} (hT : TabOk P E)
include hT

theorem agg_run {t : TypeId} (hk : (E.info t).shp ≠ .other) : (isAgg t).run P w = .ok (match (E.info t).shp with | .struct _ | .array _ _ => true | _ => false) w := by
  cases hsh : (E.info t).shp with
  | prim =>
    obtain ⟨ty', _, e2⟩ := (hT t).prim hsh
    rcases e2 with ⟨k, _, e3⟩ | ⟨_, e3⟩ | ⟨_, e3⟩ <;> simp [isAgg, run_underlying e3]
  | slice e => simp [isAgg, run_underlying ((hT t).slice e hsh).1]
  | struct fs => obtain ⟨F, h1, _⟩ := (hT t).struct fs hsh; simp [isAgg, run_underlying h1]
  | array n e => simp [isAgg, run_underlying ((hT t).array n e hsh).1]
  | map k v' => simp [isAgg, run_underlying ((hT t).map _ _ hsh).1]
  | other => exact absurd hsh hk

theorem agg_ty {t : TypeId} {v : Ty} (ht : (E.info t).ty = some v) : v.isAgg = (match (E.info t).shp with | .struct _ | .array _ _ => true | _ => false) := by
  cases hs : (E.info t).shp with
  | prim =>
    obtain ⟨ty', e1, e2⟩ := (hT t).prim hs
    rw [ht] at e1; cases e1
    rcases e2 with ⟨k, rfl, e3⟩ | ⟨rfl, e3⟩ | ⟨rfl, e3⟩ <;> rfl
  | slice e =>
    obtain ⟨h1, _, h3⟩ := (hT t).slice e hs
    obtain ⟨u, rfl, _⟩ := h3 v ht
    rfl
  | struct fs =>
    obtain ⟨F, h1, _, h3⟩ := (hT t).struct fs hs
    have := h3 v ht
    cases fs with
    | nil => cases (show v = .unit from this); rfl
    | cons f fs => obtain ⟨a, b, rfl, _⟩ := this; rfl
  | array n e =>
    obtain ⟨h1, h2⟩ := (hT t).array n e hs
    obtain ⟨u, rfl, _⟩ := h2 v ht
    rfl
  | map k v' => have := ((hT t).map _ _ hs).2; rw [ht] at this; cases this
  | other => exact absurd hs ((hT t).tyo _ ht)

theorem extract_at {vs : Array Value} {ds : List Value} {off : Nat} (hm : ∀ (j : Nat) u, ds[j]? = some u → vs[off + j]? = some u) : vs.extract off (off + ds.length) = ds.toArray := by
  apply Array.ext'
  rw [Array.toList_extract]
  apply List.ext_getElem?
  intro j
  show ((vs.toList.drop off).take (off + ds.length - off))[j]? = ds[j]?
  rw [List.getElem?_take]
  split
  · rename_i hj
    have hj' : j < ds.length := by omega
    have := hm j _ (List.getElem?_eq_getElem hj')
    rw [List.getElem?_drop, List.getElem?_eq_getElem hj']
    simpa using this
  · rename_i hj
    rw [List.getElem?_eq_none (by omega)]

theorem part_mem {t : TypeId} {v : Ty} (ht : (E.info t).ty = some v) {z : v.den} {ds : List Value} (hr : RO w ok v z ds) {vs : Array Value} {off : Nat} (hm : ∀ (j : Nat) u, ds[j]? = some u → vs[off + j]? = some u) :
    (part t vs off).run P w = .ok (valOf v ds) w := by
  obtain ⟨i, hi, hsz, _, hz, _⟩ := (hT t).info ((hT t).tyo _ ht)
  have hsz' : i.size = v.sz := by rw [hsz]; exact (hz _ ht).1.symm
  have hl := RO_len hr
  have hag := agg_run (P := P) (w := w) hT ((hT t).tyo _ ht)
  rw [← agg_ty hT ht] at hag
  have hex := extract_at hT hm
  unfold valOf
  cases hv : v.isAgg
  · rw [hv] at hag
    have hs : v.sz = 1 := by cases v <;> first | rfl | cases hv
    rw [hs] at hl
    obtain ⟨u, rfl⟩ := List.length_eq_one_iff.1 hl
    have := hm 0 u rfl
    rw [Nat.add_zero] at this
    simp [part, hag, this]
  · rw [hv] at hag
    rw [hl] at hex
    simp [part, hag, sizeOf, typeInfo, hi, hsz', hex]

theorem pickTV_ok {b : Bool} {x y : TV} {u v : Value} (hx : TVR w (okOf X w H os) H os x u) (hy : TVR w (okOf X w H os) H os y v) {res : Res} {rd : List Nat} (h : (pickTV b x y).run (fun i => os[i]?) = some (res, rd)) :
    res.upds = [] ∧ TVR w (okOf X w H os) H os res.val (if b then u else v) := by
  unfold pickTV at h
  split at h
  · rename_i t x' t' y'
    replace h := Prog.run_cast h; obtain ⟨e, h⟩ := h
    subst e
    cases Prog.run_ret h
    cases b with
    | false => exact ⟨rfl, hy⟩
    | true => exact ⟨rfl, hx⟩
  · cases b with
    | false => cases Prog.run_ret h; exact ⟨rfl, hy⟩
    | true => cases Prog.run_ret h; exact ⟨rfl, hx⟩

theorem bt_get {s : ByteArray} {i : Nat} (hi : i < s.size) : bt s i = ((s[i]'hi).toNat : Int) := by
  have h1 : s.data.toList.getD i 0 = s[i] := by
    have h2 : i < s.data.toList.length := by simpa using hi
    rw [List.getD_eq_getElem?_getD, List.getElem?_eq_getElem h2]
    rfl
  unfold bt; rw [h1]

theorem callee_ne {c : Call} {b : Builtin} (h : c.callee = .builtin b) (ρ : Operand → Value) (ty : TypeId) :
    ∃ cs, (do let d ← resolve ρ c ty; invoke d.target d.args : Sem Next).run P w = (builtin b c.argTypes ty cs (c.args.map ρ)).run P w := by
  apply Exists.intro
  simp only [resolve, h, pure_bind, invoke]
  rfl

theorem opP_ok {rw_ : Bool} {st : St} {a : Act} {o : Oper} {fr : Nat} (hR : RelH X H st a w) (hf : ∀ k, k < need E o → st.objs[fr + k]? = some (0, .dead)) (hc : ∀ c f, o.op = .call c → c.callee = .value (.func f) → False) {res : Res} {rd : List Nat}
    (h : (opP E rw_ o st.ev fr).run st.look = some (res, rd)) : OpOut P X H st a w o res := by
  have hh := hR.heap
  have hev := hR.ev
  have hv : ∀ {s : Sem Value}, execOp a.eval o = (do pure (.value (← s))) → (∃ u w', s.run P w = .ok u w' ∧ Out X H st.objs w (setAll st.objs res.upds) res.val u w') → OpOut P X H st a w o res := by
    rintro s e ⟨u, w', h1, h2⟩
    exact ⟨u, w', .inl (by rw [e]; simp [h1]), h2⟩
  have hu : ∀ {s : Sem Unit}, execOp a.eval o = (do s; pure .skip) → (∃ w', s.run P w = .ok () w' ∧ Out X H st.objs w (setAll st.objs res.upds) res.val undef w') → OpOut P X H st a w o res := by
    rintro s e ⟨w', h1, h2⟩
    exact ⟨undef, w', .inr ⟨by rw [e]; simp [h1], rfl⟩, h2⟩
  have hp : ∀ {s : Sem Value} {u : Value}, execOp a.eval o = (do pure (.value (← s))) → s.run P w = .ok u w → res.upds = [] → TVR w (okOf X w H st.objs) H st.objs res.val u → OpOut P X H st a w o res := by
    intro s u e h1 h2 h3
    exact hv e ⟨u, w, h1, by rw [h2]; exact Out.pure hh h3⟩
  have hm : ∀ x, (match isNil x with | true => mat E o.type (st.ev x) fr | false => Prog.ret ⟨st.ev x, []⟩ : Prog Res).run st.look = some (res, rd) → need E o = (if isNil x then 1 else 0) → execOp a.eval o = pure (.value (a.eval x)) → OpOut P X H st a w o res := by
    intro x h hn e
    refine ⟨a.eval x, w, .inl (by rw [e]; simp), ?_⟩
    split at h
    · rename_i hx
      rw [hx] at hn
      exact mat_ok hT hh (hev x) (hf 0 (by rw [hn]; simp)) h
    · cases Prog.run_ret h
      exact Out.pure hh (hev x)
  cases hop : o.op <;> (unfold opP at h; rw [hop] at h; try dsimp only at h) <;> try (cases h; done)
  case move x => exact hm x h (by simp [need, hop]) (by unfold execOp; rw [hop])
  case assign x => exact hm x h (by simp [need, hop]) (by unfold execOp; rw [hop])
  case pick c x y =>
    replace h := Prog.run_opt h; obtain ⟨b, hb, h⟩ := h
    have := bool_of hb (hev c)
    obtain ⟨h1, h2⟩ := pickTV_ok hT (hev x) (hev y) h
    exact ⟨if b then a.eval x else a.eval y, w, .inl (by unfold execOp; rw [hop]; simp only [this]; simp [asBool]), by rw [h1]; exact Out.pure hh h2⟩
  case alloc t => exact hv (by unfold execOp; rw [hop]) (allocP_ok hT hh (by simpa [need, hop] using hf) h)
  case box t x => exact hv (by unfold execOp; rw [hop]) (boxP_ok hT hh (hev x) (hf 0 (by simp [need, hop])) h)
  case build t ps =>
    have := buildP_ok (P := P) hT hh (ρ := st.ev) (ρ' := a.eval) hev (by simpa [need, hop] using hf) h
    obtain ⟨u, h1, h2⟩ := this
    exact hv (s := Instr.build t (ps.map fun (i, x) => (i, a.eval x))) (by unfold execOp; rw [hop]) ⟨u, w, by rw [← h1]; congr 2; apply Array.ext'; simp, h2⟩
  case buildSlice t n ps =>
    have := buildSliceP_ok (P := P) hT hh (ρ := st.ev) (ρ' := a.eval) hev (hf 0 (by simp [need, hop])) h
    obtain ⟨u, w', h1, h2⟩ := this
    exact hv (s := Instr.buildSlice t n (ps.map fun (i, x) => (i, a.eval x))) (by unfold execOp; rw [hop]) ⟨u, w', by rw [← h1]; congr 2; apply Array.ext'; simp, h2⟩
  case load t x =>
    obtain ⟨u, h1, h2, h3⟩ := loadP_ok (P := P) hT hh (hev x) h
    exact hp (by unfold execOp; rw [hop]) h1 h2 h3
  case store t x y => exact hu (by unfold execOp; rw [hop]) (storeP_ok hT hh (hev x) (hev y) h)
  case nilCheck x =>
    split at h
    · rename_i i off hx
      cases Prog.run_ret h
      have hx1 := hev x
      rw [hx] at hx1
      obtain ⟨s, g, g1, g2, g3, g4⟩ := ptr_of hT hh (hx1 _ rfl)
      exact ⟨a.eval x, w, .inl (by unfold execOp; rw [hop]; dsimp only; rw [g4]; simp), Out.pure hh hx1⟩
    · cases h
  case binOp op t x y hd =>
    obtain ⟨z, h1, h2, h3⟩ := binP_ok (P := P) hT hh (hev x) (hev y) h x y
    exact hp (by unfold execOp; rw [hop]) h1 h2 h3
  case unOp op t x =>
    split at h
    · replace h := Prog.run_opt h; obtain ⟨b, hb, h⟩ := h
      cases Prog.run_ret h
      have := bool_of hb (hev x)
      exact hp (s := Op.unary .not (a.eval x)) (u := .bool (!b)) (by unfold execOp; rw [hop]) (by rw [this]; rfl) rfl (tv_bool _)
    · replace h := Prog.run_opt h; obtain ⟨b, hb, h⟩ := h
      cases Prog.run_ret h
      have := int_of (k := b.1) (n := b.2) hb (hev x)
      exact hp (s := Op.unary .neg (a.eval x)) (u := .int b.1 (b.1.wrap (0 - b.2))) (by unfold execOp; rw [hop]) (by rw [this]; show (Op.intArith .sub b.1 0 b.2).run P w = _; simp [Op.intArith]) rfl (tv_int _ _)
    · cases h
  case convert src dst x =>
    obtain ⟨z, h1, h2, h3⟩ := convP_ok (P := P) hT hh (hev x) h
    exact hp (by unfold execOp; rw [hop]) h1 h2 h3
  case makeMap t r =>
    cases r with
    | none => exact hv (by unfold execOp; rw [hop]; rfl) (makeMapP_ok hT hh (hf 0 (by simp [need, hop])) h)
    | some r => cases h
  case makeSlice t l c => exact hv (by unfold execOp; rw [hop]) (makeP_ok hT hh (hev l) (hev c) (hf 0 (by simp [need, hop])) h)
  case fieldAddr t x f =>
    obtain ⟨u, y, h1, h2, h3⟩ := fieldP_ok (P := P) hT hh (hev x) h
    subst h2
    exact hp (by unfold execOp; rw [hop]) h1 rfl (tv_one h3)
  case field t x f =>
    have key : ∀ {p : TypeId × Nat} {fs : List (TypeId × Nat)}, (E.info t).shp = .struct fs → fs[f]? = some p → ∀ {vs : Array Value}, a.eval x = .agg vs → ∀ {u}, (part p.1 vs p.2).run P w = .ok u w → (Instr.field t (a.eval x) f).run P w = .ok u w := by
      intro p fs hs hp2 vs hx u hpt
      obtain ⟨F, hu, hF, _⟩ := (hT t).struct fs hs
      obtain ⟨fl, e1, e2⟩ : ∃ fl, F[f]? = some fl ∧ (fl.type, fl.offset) = p := by
        rw [← hF, List.getElem?_map, Option.map_eq_some_iff] at hp2
        obtain ⟨fl, g1, g2⟩ := hp2
        exact ⟨fl, by simpa using g1, g2⟩
      subst e2
      rw [hx]
      simp only at hpt
      simp [Instr.field, run_underlying hu, e1, asAgg, hpt]
    split at h
    · rename_i fs cs hs hx
      replace h := Prog.run_opt h; obtain ⟨p, hp1, h⟩ := h
      have hx1 := hev x
      rw [hx] at hx1
      obtain ⟨vs, e1, e2, e3⟩ := hx1
      have fin : ∀ {c : AV}, cs[p.2]? = some c → (match (E.info p.1).shp with | .struct _ | .array _ _ => true | _ => false) = false → (E.info p.1).shp ≠ .other → res = ⟨.one c, []⟩ → OpOut P X H st a w o res := by
        intro c hc1 hag hno hr
        subst hr
        obtain ⟨u, q1, q2, q3⟩ := e3 _ _ hc1
        have ha := agg_run (P := P) (w := w) hT hno
        rw [hag] at ha
        exact hp (by unfold execOp; rw [hop]) (key hs hp1 e1 (by simp [part, ha, q1])) rfl (tv_one q2)
      split at h
      · cases h
      · cases h
      · cases h
      · rename_i h1 h2 h3
        replace h := Prog.run_opt h; obtain ⟨c, hc1, h⟩ := h
        cases Prog.run_ret h
        refine fin hc1 ?_ (fun e => h3 e) rfl
        split
        · rename_i q; exact absurd q (h1 _)
        · rename_i q; exact absurd q (h2 _ _)
        · rfl
    · rename_i fs u y hs hx
      replace h := Prog.run_chk h; obtain ⟨hag, h⟩ := h
      replace h := Prog.run_opt h; obtain ⟨p, hp1, h⟩ := h
      replace h := Prog.run_opt h; obtain ⟨v, hv1, h⟩ := h
      replace h := Prog.run_opt h; obtain ⟨z, hz, h⟩ := h
      cases Prog.run_ret h
      have hx1 := hev x
      rw [hx] at hx1
      obtain ⟨cs, e1, e2⟩ := hx1 _ rfl
      obtain ⟨ds, q1, q2⟩ := projAt_ok _ _ _ e1 hz
      have e3 : a.eval x = .agg cs.toArray := by rw [e2]; unfold valOf; rw [hag, if_pos rfl]
      exact hp (by unfold execOp; rw [hop]) (key hs hp1 e3 (part_mem hT hv1 q1 (fun j u hu => by simpa using q2 j u hu))) rfl (tv_ro q1)
    · cases h
  case indexAddr t x i =>
    replace h := Prog.run_opt h; obtain ⟨n, hn, h⟩ := h
    have := int_of (k := n.1) (n := n.2) hn (hev i)
    obtain ⟨u, y, h1, h2, h3⟩ := idxP_ok (P := P) (k := n.1) hT hh (hev x) h
    subst h2
    exact hp (s := Instr.indexAt t (a.eval x) (a.eval i)) (by unfold execOp; rw [hop]) (by rw [this]; exact h1) rfl (tv_one h3)
  case index t x i =>
    replace h := Prog.run_opt h; obtain ⟨n, hn, h⟩ := h
    have h1 := int_of (k := n.1) (n := n.2) hn (hev i)
    split at h
    · rename_i hs
      replace h := Prog.run_chk h; obtain ⟨hty, h⟩ := h
      replace h := Prog.run_opt h; obtain ⟨s, hs2, h⟩ := h
      replace h := Prog.run_grd h; obtain ⟨h2, h⟩ := h
      replace h := Prog.run_grd h; obtain ⟨h3, h⟩ := h
      cases Prog.run_ret h
      have h4 := str_of hs2 (hev x)
      have h5 := prim_str hT hs (of_decide_eq_true hty)
      refine hp (s := Instr.index t (a.eval x) (a.eval i)) (u := .int .u8 (bt s n.2.toNat)) (by unfold execOp; rw [hop]) ?_ rfl (tv_int _ _)
      rw [h1, h4, run_index_string w t s n.1 n.2 h5, dif_pos ⟨h2, h3⟩, bt_get hT (by omega)]
    · cases h
  case lookup t x k c =>
    obtain ⟨z, h1, h2, h3⟩ := lookupP_ok (P := P) hT hh (hev x) (hev k) h
    exact hp (by unfold execOp; rw [hop]) h1 h2 h3
  case mapUpdate t m k x => exact hu (by unfold execOp; rw [hop]) (mapUpdateP_ok hT hh (hev m) (hev k) (hev x) h)
  case insert t m k x => exact hu (by unfold execOp; rw [hop]) (mapUpdateP_ok hT hh (hev m) (hev k) (hev x) h)
  case extract t ix =>
    split at h
    · rename_i vs hvs
      replace h := Prog.run_opt h; obtain ⟨v, hv1, h⟩ := h
      cases Prog.run_ret h
      have hx1 := hev t
      rw [hvs] at hx1
      obtain ⟨us, e1, e2⟩ := hx1
      obtain ⟨u, e3, e4⟩ := e2 _ _ hv1
      exact hp (s := Instr.extract (a.eval t) ix) (u := u) (by unfold execOp; rw [hop]) (by rw [e1]; simp [Instr.extract, e3]) rfl e4
    · cases h
  case call c =>
    have hcall : ∀ {b : Builtin} {s : Sem Value}, c.callee = .builtin b → (∀ cs, builtin b c.argTypes o.type cs (c.args.map a.eval) = (do pure (.value (← s)))) → (∃ u w', s.run P w = .ok u w' ∧ Out X H st.objs w (setAll st.objs res.upds) res.val u w') → OpOut P X H st a w o res := by
      rintro b s hb e ⟨u, w', h1, h2⟩
      refine ⟨u, w', .inl ?_, h2⟩
      unfold execOp; rw [hop]; dsimp only
      obtain ⟨cs, h3⟩ := callee_ne (P := P) (w := w) hT hb a.eval o.type
      rw [h3, e]
      simp [h1]
    split at h
    · rename_i hcl
      split at h
      · rename_i x t hx ht
        have ex : c.args = #[x] := by apply Array.ext'; exact hx
        have et : c.argTypes = #[t] := by apply Array.ext'; exact ht
        obtain ⟨n, h1, h2⟩ := lenP_ok (P := P) hT hh (hev x) h o.type
        refine hcall (s := Builtin.len_ #[t] o.type #[a.eval x]) hcl (fun cs => by simp only [builtin, ex, et]; simp) ⟨_, w, h1, ?_⟩
        rw [h2]
        exact Out.pure hh (tv_int _ _)
      · cases h
    · rename_i hcl
      split at h
      · rename_i s x t t' hx ht
        replace h := Prog.run_chk h; obtain ⟨h0, h⟩ := h
        have := beq_of h0
        subst this
        have ex : c.args = #[s, x] := by apply Array.ext'; exact hx
        have et : c.argTypes = #[t, t] := by apply Array.ext'; exact ht
        exact hcall (s := Builtin.append_ #[t, t] o.type #[a.eval s, a.eval x]) hcl (fun cs => by simp only [builtin, ex, et]; simp) (appendP_ok hT hh (hev s) (hev x) h)
      · cases h
    · rename_i hcl
      split at h
      · rename_i x y hx
        have ex : c.args = #[x, y] := by apply Array.ext'; exact hx
        replace h := Prog.run_opt h; obtain ⟨m, h1, h⟩ := h
        replace h := Prog.run_opt h; obtain ⟨n, h2, h⟩ := h
        cases Prog.run_ret h
        have e1 := int_of (k := m.1) (n := m.2) h1 (hev x)
        have e2 := int_of (k := n.1) (n := n.2) h2 (hev y)
        refine hcall (s := Builtin.max_ c.argTypes o.type #[a.eval x, a.eval y]) hcl (fun cs => by simp only [builtin, ex]; simp) ⟨.int m.1 (if n.2 > m.2 then n.2 else m.2), w, by rw [e1, e2]; exact run_max_int2 w _ _ _ _ _ _, Out.pure hh (tv_int _ _)⟩
      · cases h
    · rename_i f hcl
      exact (hc c f hop hcl).elim
    · cases h
end
end Go.Proofs.Yteblfhhhbfodgaa.Sim
/- One operation of a region, as a step; calls by contract. -/
set_option linter.unusedVariables false
set_option linter.unusedSimpArgs false
set_option linter.unusedSectionVars false
namespace Go.Proofs.Yteblfhhhbfodgaa.Sim
open Go Go.RowKit

theorem Prog.cps_run {α R : Type} (l : Nat → Option Slot) : ∀ (p : Prog α) (K : α → List Nat → Option R) (rs : List Nat), p.cps l K rs = (p.run l).bind fun q => K q.1 (q.2.reverse ++ rs)
  | .ret a, K, rs => rfl
  | .fail, K, rs => rfl
  | .guard c d k, K, rs => by
    simp only [Prog.cps, Prog.run]
    by_cases hc : c
    · rw [if_pos hc, if_pos hc]; exact Prog.cps_run l k K rs
    · rw [if_neg hc, if_neg hc]; rfl
  | .look i k, K, rs => by
    simp only [Prog.cps, Prog.run]
    cases l i with
    | none => rfl
    | some s =>
      simp only
      rw [Prog.cps_run l (k s) K (i :: rs)]
      cases (k s).run l with
      | none => rfl
      | some q => simp
  | .bindO γ x k, K, rs => by
    simp only [Prog.cps, Prog.run]
    cases x with
    | none => rfl
    | some b => exact Prog.cps_run l (k b) K rs

theorem Prog.run_congr {α : Type} {l l' : Nat → Option Slot} : ∀ (p : Prog α) {a : α} {rd : List Nat}, p.run l = some (a, rd) → (∀ i ∈ rd, l' i = l i) → p.run l' = some (a, rd)
  | .ret a, _, _, h, _ => h
  | .fail, _, _, h, _ => by cases h
  | .guard c d k, a, rd, h, hl => by
    simp only [Prog.run] at h ⊢
    by_cases hc : c
    · rw [if_pos hc] at h ⊢; exact Prog.run_congr k h hl
    · rw [if_neg hc] at h; cases h
  | .look i k, a, rd, h, hl => by
    simp only [Prog.run] at h ⊢
    cases hi : l i with
    | none => rw [hi] at h; cases h
    | some s =>
      rw [hi] at h
      simp only [Option.map_eq_some_iff] at h
      obtain ⟨⟨r', rd'⟩, h1, h2⟩ := h
      injection h2 with h2 h3
      subst h2; subst h3
      rw [hl i List.mem_cons_self, hi]
      simp only [Prog.run_congr (k s) h1 (fun j hj => hl j (List.mem_cons_of_mem _ hj)), Option.map_some]
  | .bindO γ x k, a, rd, h, hl => by
    simp only [Prog.run] at h ⊢
    cases x with
    | none => cases h
    | some b => exact Prog.run_congr (k b) h hl

/-! ### A step -/
/-- Whether an operation is to be done. -/
def gd (ops : Array Oper) (o : Oper) (st : St) : Option Bool := match o.guard with
  | none => some true
  | some (j, want) => match (ops[j]?).bind (·.dst) with
    | none => none
    | some t => match st.tmps[t]? with
      | some (.cv false [.ro .bool b]) => some (b == want)
      | some (.cv false [.val (.tuple ⟨[]⟩)]) => some false
      | _ => none

def step1 (E : Env) (ops : Array Oper) (i : Nat) (o : Oper) (fr : Nat) (st : St) : Option (St × Rec) := (gd ops o st).bind fun g => match g with
  | true => match deadAt st.objs fr (need E o) with
    | true => ((opP E (E.rows (o.dst.getD 0)) o st.ev fr).run st.look).map fun q => (st.app o.dst q.1, ⟨i, (q.2.reverse ++ []) ++ frs fr (need E o), q.1.upds.map (·.1)⟩)
    | false => none
  | false => some (st.put o.dst undefTV, ⟨i, [], []⟩)

theorem set_same {α : Type} {l : List α} {i : Nat} {x : α} (h : l[i]? = some x) : l.set i x = l := by
  apply List.ext_getElem?
  intro j
  by_cases hj : i = j
  · subst hj; rw [List.getElem?_set_self (List.getElem?_eq_some_iff.1 h).1, h]
  · rw [List.getElem?_set_ne hj]

theorem stepK_eq {R : Type} (E : Env) (ops : Array Oper) (i : Nat) (o : Oper) (fr : Nat) (st : St) (K : St → Rec → Option R) :
    stepK E ops i o fr st K = (step1 E ops i o fr st).bind fun p => K p.1 p.2 := by
  have hrun : (match deadAt st.objs fr (need E o) with
      | true => (opP E (E.rows (o.dst.getD 0)) o st.ev fr).cps st.look (fun res rds => K (st.app o.dst res) ⟨i, rds ++ frs fr (need E o), res.upds.map (·.1)⟩) []
      | false => none : Option R) = (match deadAt st.objs fr (need E o) with
    | true => ((opP E (E.rows (o.dst.getD 0)) o st.ev fr).run st.look).map fun q => (st.app o.dst q.1, ⟨i, (q.2.reverse ++ []) ++ frs fr (need E o), q.1.upds.map (·.1)⟩)
    | false => none : Option (St × Rec)).bind fun p => K p.1 p.2 := by
    cases deadAt st.objs fr (need E o) with
    | false => rfl
    | true =>
      simp only
      rw [Prog.cps_run]
      cases (opP E (E.rows (o.dst.getD 0)) o st.ev fr).run st.look <;> rfl
  unfold stepK step1 gd
  cases hg : o.guard with
  | none => exact hrun
  | some p =>
    obtain ⟨j, want⟩ := p
    dsimp only
    cases ht : (ops[j]?).bind (·.dst) with
    | none => rfl
    | some t =>
      dsimp only
      split
      · rename_i b hb
        have hs : ({ st with tmps := st.tmps.set t (.one (.ro .bool b)) } : St) = st := by rw [set_same hb]
        rw [hb]
        cases b <;> cases want <;> simp only [cond, hs] <;> first | exact hrun | rfl
      · rename_i hb
        rw [hb]; rfl
      · rename_i h1 h2
        split
        · rename_i b hb; exact absurd hb (h1 b)
        · rename_i hb; exact absurd hb h2
        · rfl

section
variable {X : Ctx} {st : St} {a : Act} {w : World} {P : Program} {ops : Array Oper}

theorem gd_ok {o : Oper} {g : Bool} (hR : Rel X st a w) (h : gd ops o st = some g) : Region.wanted o (yielded ops a.tmps) = g := by
  obtain ⟨H, hR⟩ := hR
  unfold gd at h
  unfold Region.wanted
  cases hg : o.guard with
  | none => rw [hg] at h; cases h; rfl
  | some p =>
    obtain ⟨j, want⟩ := p
    rw [hg] at h
    dsimp only at h ⊢
    cases ht : (ops[j]?).bind (·.dst) with
    | none => rw [ht] at h; cases h
    | some t =>
      rw [ht] at h
      dsimp only at h
      unfold yielded
      rw [ht]
      split at h
      · rename_i b hb
        cases h
        obtain ⟨v, h1, h2⟩ := hR.tmps _ _ hb
        obtain ⟨cs, h3, h4⟩ := h2 _ rfl
        cases h3
        have : v = .bool b := h4
        subst this
        simp [h1]
      · rename_i hb
        cases h
        obtain ⟨v, h1, h2⟩ := hR.tmps _ _ hb
        have : v = .tuple ⟨[]⟩ := h2 _ rfl
        subst this
        simp [h1]
      · cases h

theorem dead_at {os : List Slot} : ∀ {n fr : Nat}, deadAt os fr n = true → ∀ k, k < n → os[fr + k]? = some (0, .dead)
  | 0, _, _, k, hk => by omega
  | n + 1, fr, h, k, hk => by
    simp only [deadAt, Bool.and_eq_true] at h
    obtain ⟨h1, h2⟩ := h
    cases k with
    | zero =>
      rw [Nat.add_zero]
      split at h1
      · rename_i v hv; have := beq_of h1; subst this; exact hv
      · cases h1
    | succ k => have := dead_at h2 k (by omega); rw [show fr + (k + 1) = fr + 1 + k by omega]; exact this

theorem Rel.put (hR : Rel X st a w) (d : Option Tmp) {x : TV} {v : Value} (hx : ∀ H, TVR w (okOf X w H st.objs) H st.objs x v) : Rel X (st.put d x) (a.put d v) w := by
  obtain ⟨H, hR⟩ := hR
  have := hR.app (d := d) (r := ⟨x, []⟩) (v := v) (w' := w) (Out.pure hR.heap (hx H))
  exact this
end
end Go.Proofs.Yteblfhhhbfodgaa.Sim
/- Calls by contract. -/
set_option linter.unusedVariables false
set_option linter.unusedSimpArgs false
set_option linter.unusedSectionVars false
namespace Go.Proofs.Yteblfhhhbfodgaa.Sim
open Go Go.RowKit

/-- Arguments that are data. -/
def ArgsR (w : World) (ok : Nat → Prop) : (ps : List Ty) → DenL ps → List Value → Prop
  | [], _, vs => vs = []
  | t :: ts, x, vs => ∃ cs rest, vs = valOf t cs :: rest ∧ RO w ok t x.1 cs ∧ ArgsR w ok ts x.2 rest

/-- The rows of one's own in a result. -/
def resObjs (rs : List (Bool × List RM)) (r : RDen rs) : List Slot := (resTV rs r 0).upds.map (·.2)

/-- What a contract says of a function. -/
def Holds (P : Program) (f : FuncId) (c : Contract) : Prop :=
  (∃ fn, P.funcs[f]? = some fn ∧ (fn.name == "runtime.NumGoroutine") = false ∧ fn.body.isNone = false) ∧
  ∀ (w : World) (ok0 : Nat → Prop) (args : Array Value) (x : DenL c.ps) (r : c.R), ArgsR w (fun b => b < w.heap.size ∧ ok0 b) c.ps x args.toList → c.fn x = some r →
    Calls P f args w fun e w' => ∃ v H, e = .returned v ∧ HeapR (.pure w ok0) H (resObjs c.rs (c.back r)) w' ∧
      TVR w' (okOf (.pure w ok0) w' H (resObjs c.rs (c.back r))) H (resObjs c.rs (c.back r)) (resTV c.rs (c.back r) 0).val v

/-! ### Results numbered from another number on -/
def AV.up (d : Nat) : AV → AV
  | .own i v => .own (i + d) v
  | a => a

theorem resCells_up (d : Nat) : ∀ (ms : List RM) (r : RCells ms) (k : Nat), resCells ms r (k + d) = ((resCells ms r k).1.map (AV.up d), (resCells ms r k).2.map fun u => (u.1 + d, u.2))
  | [], _, _ => rfl
  | .ro t :: ms, r, k => by simp only [resCells, resCells_up d ms r.2 k, List.map_cons]; rfl
  | .own e t :: ms, r, k => by simp only [resCells]; rw [show k + d + 1 = k + 1 + d by omega, resCells_up d ms r.2 (k + 1)]; rfl
  | .rows e e2 t :: ms, r, k => by simp only [resCells]; rw [show k + d + 1 = k + 1 + d by omega, resCells_up d ms r.2 (k + 1)]; rfl

theorem resAll_up (d : Nat) : ∀ (rs : List (Bool × List RM)) (r : RDen rs) (k : Nat), resAll rs r (k + d) = ((resAll rs r k).1.map (fun p => (p.1, p.2.map (AV.up d))), (resAll rs r k).2.map fun u => (u.1 + d, u.2))
  | [], _, _ => rfl
  | m :: ms, r, k => by
    simp only [resAll]
    rw [resCells_up d m.2 r.1 k]
    simp only [List.length_map]
    rw [show k + d + (resCells m.2 r.1 k).2.length = k + (resCells m.2 r.1 k).2.length + d by omega, resAll_up d ms r.2]
    simp

def TV.up (d : Nat) : TV → TV
  | .cv b cs => .cv b (cs.map (AV.up d))
  | .tup vs => .tup (vs.map fun p => (p.1, p.2.map (AV.up d)))

theorem resTV_up (d : Nat) (rs : List (Bool × List RM)) (r : RDen rs) : (resTV rs r d).val = TV.up d (resTV rs r 0).val ∧ (resTV rs r d).upds = (resTV rs r 0).upds.map fun u => (u.1 + d, u.2) := by
  have h := resAll_up d rs r 0
  rw [Nat.zero_add] at h
  unfold resTV
  simp only [h]
  generalize resAll rs r 0 = p
  obtain ⟨vs, us⟩ := p
  cases vs with
  | nil => exact ⟨rfl, rfl⟩
  | cons v vs =>
    cases vs with
    | nil => exact ⟨rfl, rfl⟩
    | cons v' vs => exact ⟨rfl, rfl⟩

theorem resTV_upds (rs : List (Bool × List RM)) (r : RDen rs) (k : Nat) : (resTV rs r k).upds = (resAll rs r k).2 := by
  unfold resTV
  generalize resAll rs r k = p
  obtain ⟨vs, us⟩ := p
  cases vs with
  | nil => rfl
  | cons v vs => cases vs <;> rfl

/-- What a result's objects are. -/
def ResObj (M : RM → Prop) (s : Slot) : Prop := (∃ e t xs, s = (0, .arr e t xs) ∧ M (.own e t)) ∨ (∃ e e2 t xss, s = (0, .rows 0 e e2 t xss) ∧ M (.rows e e2 t))

theorem resCells_no : ∀ (ms : List RM) (r : RCells ms) (k : Nat) (j : Nat) u, (resCells ms r k).2[j]? = some u → u.1 = k + j ∧ ResObj (· ∈ ms) u.2
  | [], _, _, j, u, h => by simp [resCells] at h
  | .ro t :: ms, r, k, j, u, h => by
    obtain ⟨h1, h2⟩ := resCells_no ms r.2 k j u h
    refine ⟨h1, ?_⟩
    rcases h2 with ⟨e, t, xs, h3, h4⟩ | ⟨e, e2, t, xs, h3, h4⟩
    · exact .inl ⟨e, t, xs, h3, List.mem_cons_of_mem _ h4⟩
    · exact .inr ⟨e, e2, t, xs, h3, List.mem_cons_of_mem _ h4⟩
  | .own e t :: ms, r, k, j, u, h => by
    cases j with
    | zero => cases h; exact ⟨rfl, .inl ⟨e, t, _, rfl, List.mem_cons_self⟩⟩
    | succ j =>
      obtain ⟨h1, h2⟩ := resCells_no ms r.2 (k + 1) j u h
      refine ⟨by omega, ?_⟩
      rcases h2 with ⟨e, t, xs, h3, h4⟩ | ⟨e, e2, t, xs, h3, h4⟩
      · exact .inl ⟨e, t, xs, h3, List.mem_cons_of_mem _ h4⟩
      · exact .inr ⟨e, e2, t, xs, h3, List.mem_cons_of_mem _ h4⟩
  | .rows e e2 t :: ms, r, k, j, u, h => by
    cases j with
    | zero => cases h; exact ⟨rfl, .inr ⟨e, e2, t, _, rfl, List.mem_cons_self⟩⟩
    | succ j =>
      obtain ⟨h1, h2⟩ := resCells_no ms r.2 (k + 1) j u h
      refine ⟨by omega, ?_⟩
      rcases h2 with ⟨e, t, xs, h3, h4⟩ | ⟨e, e2, t, xs, h3, h4⟩
      · exact .inl ⟨e, t, xs, h3, List.mem_cons_of_mem _ h4⟩
      · exact .inr ⟨e, e2, t, xs, h3, List.mem_cons_of_mem _ h4⟩

theorem ResObj.imp {M M' : RM → Prop} (h : ∀ m, M m → M' m) {s : Slot} (hs : ResObj M s) : ResObj M' s := by
  rcases hs with ⟨e, t, xs, h3, h4⟩ | ⟨e, e2, t, xs, h3, h4⟩
  · exact .inl ⟨e, t, xs, h3, h _ h4⟩
  · exact .inr ⟨e, e2, t, xs, h3, h _ h4⟩

theorem resAll_no : ∀ (rs : List (Bool × List RM)) (r : RDen rs) (k : Nat) (j : Nat) u, (resAll rs r k).2[j]? = some u → u.1 = k + j ∧ ResObj (fun m => ∃ p ∈ rs, m ∈ p.2) u.2
  | [], _, _, j, u, h => by simp [resAll] at h
  | m :: ms, r, k, j, u, h => by
    simp only [resAll] at h
    rcases Nat.lt_or_ge j (resCells m.2 r.1 k).2.length with hj | hj
    · rw [List.getElem?_append_left hj] at h
      obtain ⟨h1, h2⟩ := resCells_no m.2 r.1 k j u h
      exact ⟨h1, h2.imp fun m' hm => ⟨m, List.mem_cons_self, hm⟩⟩
    · rw [List.getElem?_append_right hj] at h
      obtain ⟨h1, h2⟩ := resAll_no ms r.2 _ _ u h
      exact ⟨by omega, h2.imp fun m' ⟨p, hp, hm⟩ => ⟨p, List.mem_cons_of_mem _ hp, hm⟩⟩

theorem resCells_ro : ∀ (ms : List RM) (r : RCells ms) (k : Nat) a, a ∈ (resCells ms r k).1 → (∃ t x, a = .ro t x ∧ RM.ro t ∈ ms) ∨ ∃ i, a = .own i 0
  | [], _, _, a, h => by simp [resCells] at h
  | .ro t :: ms, r, k, a, h => by
    simp only [resCells, List.mem_cons] at h
    rcases h with rfl | h
    · exact .inl ⟨t, _, rfl, List.mem_cons_self⟩
    · rcases resCells_ro ms r.2 k a h with ⟨t, x, h1, h2⟩ | h
      · exact .inl ⟨t, x, h1, List.mem_cons_of_mem _ h2⟩
      · exact .inr h
  | .own e t :: ms, r, k, a, h => by
    simp only [resCells, List.mem_cons] at h
    rcases h with rfl | h
    · exact .inr ⟨_, rfl⟩
    · rcases resCells_ro ms r.2 _ a h with ⟨t, x, h1, h2⟩ | h
      · exact .inl ⟨t, x, h1, List.mem_cons_of_mem _ h2⟩
      · exact .inr h
  | .rows e e2 t :: ms, r, k, a, h => by
    simp only [resCells, List.mem_cons] at h
    rcases h with rfl | h
    · exact .inr ⟨_, rfl⟩
    · rcases resCells_ro ms r.2 _ a h with ⟨t, x, h1, h2⟩ | h
      · exact .inl ⟨t, x, h1, List.mem_cons_of_mem _ h2⟩
      · exact .inr h

theorem resAll_ro : ∀ (rs : List (Bool × List RM)) (r : RDen rs) (k : Nat) p, p ∈ (resAll rs r k).1 → ∀ a ∈ p.2, (∃ t x, a = .ro t x ∧ ∃ q ∈ rs, RM.ro t ∈ q.2) ∨ ∃ i, a = .own i 0
  | [], _, _, p, h, _, _ => by simp [resAll] at h
  | m :: ms, r, k, p, h, a, ha => by
    simp only [resAll, List.mem_cons] at h
    rcases h with rfl | h
    · rcases resCells_ro m.2 r.1 k a ha with ⟨t, x, h1, h2⟩ | h
      · exact .inl ⟨t, x, h1, m, List.mem_cons_self, h2⟩
      · exact .inr h
    · rcases resAll_ro ms r.2 _ p h a ha with ⟨t, x, h1, q, h2, h3⟩ | h
      · exact .inl ⟨t, x, h1, q, List.mem_cons_of_mem _ h2, h3⟩
      · exact .inr h

theorem resCells_le : ∀ (ms : List RM) (r : RCells ms) (k : Nat), (resCells ms r k).2.length ≤ ms.length
  | [], _, _ => Nat.le_refl _
  | .ro t :: ms, r, k => Nat.le_succ_of_le (resCells_le ms r.2 k)
  | .own e t :: ms, r, k => Nat.succ_le_succ (resCells_le ms r.2 (k + 1))
  | .rows e e2 t :: ms, r, k => Nat.succ_le_succ (resCells_le ms r.2 (k + 1))
theorem foldl_len : ∀ (rs : List (Bool × List RM)) (n : Nat), rs.foldl (fun n r => n + r.2.length) n = n + rs.foldl (fun n r => n + r.2.length) 0
  | [], n => rfl
  | m :: ms, n => by
    simp only [List.foldl_cons]
    rw [foldl_len ms (n + m.2.length), foldl_len ms (0 + m.2.length)]; omega
theorem resAll_le : ∀ (rs : List (Bool × List RM)) (r : RDen rs) (k : Nat), (resAll rs r k).2.length ≤ rs.foldl (fun n r => n + r.2.length) 0
  | [], _, _ => Nat.le_refl _
  | m :: ms, r, k => by
    simp only [resAll, List.length_append, List.foldl_cons]
    rw [foldl_len]
    have := resCells_le m.2 r.1 k
    have := resAll_le ms r.2 (k + (resCells m.2 r.1 k).2.length)
    omega

/-! ### Data without slices -/
theorem RO_plain {w w' : World} {ok ok' : Nat → Prop} : ∀ {t : Ty} {x : t.den} {cs : List Value}, t.plain = true → RO w ok t x cs → RO w' ok' t x cs
  | .int _, _, _, _, h => h
  | .bool, _, _, _, h => h
  | .str, _, _, _, h => h
  | .unit, _, _, _, h => h
  | .slice e, _, _, hp, _ => by cases hp
  | .pair a b, _, _, hp, ⟨c, d, h1, h2, h3⟩ => by
    simp only [Ty.plain, Bool.and_eq_true] at hp
    exact ⟨c, d, h1, RO_plain hp.1 h2, RO_plain hp.2 h3⟩
  | .arr n e, _, _, hp, ⟨h1, h2⟩ => ⟨h1, ROL_imp (fun x cs h => RO_plain (t := e) hp h) h2⟩

section
variable {X : Ctx} {H : Nat → Wit} {os : List Slot} {w : World}

/-! ### Arguments -/
theorem viewA_still {ok : Nat → Prop} {t : Ty} {a : AV} {v : Value} (hs : a.still = true) (ha : AVR w ok H os a v) {l : Nat → Option Slot} {x : t.den} {rd : List Nat} (h : (viewA t a).run l = some (x, rd)) : ∃ cs, RO w ok t x cs ∧ v = valOf t cs := by
  cases a with
  | ro t' y =>
    simp only [viewA] at h
    obtain ⟨e, h⟩ := Prog.run_cast h
    subst e
    cases Prog.run_ret h
    exact ha
  | val u =>
    have hv : v = u := ha
    subst hv
    simp only [viewA] at h
    split at h
    · cases Prog.run_ret h
      exact ⟨[.slice none 0 0], ⟨none, 0, rfl, Nat.le_refl _, fun _ => rfl, fun h => absurd h (Nat.lt_irrefl 0)⟩, rfl⟩
    · cases h
  | _ => cases hs

theorem viewCells_gen {okk : Nat → Prop} {ok : Nat → Prop} {G : AV → Prop} {l : Nat → Option Slot} (hA : ∀ (t : Ty) (a : AV) (v : Value) (x : t.den) (rd : List Nat), G a → AVR w ok H os a v → (viewA t a).run l = some (x, rd) → ∃ cs, RO w okk t x cs ∧ v = valOf t cs) : ∀ (t : Ty) (as : List AV) (vs : List Value), (∀ a ∈ as, G a) → as.length = vs.length → (∀ (k : Nat) a, as[k]? = some a → ∃ v, vs[k]? = some v ∧ AVR w ok H os a v) →
    ∀ {p : t.den × List AV} {rd : List Nat}, (viewCells t as).run l = some (p, rd) → ∃ cs vs', vs = cs ++ vs' ∧ RO w okk t p.1 cs ∧ p.2.length = vs'.length ∧ (∀ (k : Nat) a, p.2[k]? = some a → ∃ v, vs'[k]? = some v ∧ AVR w ok H os a v) ∧ (∀ a ∈ p.2, G a)
  | .unit, as, vs, hg, hl, hr, p, rd, h => by
    simp only [viewCells] at h
    cases Prog.run_ret h
    exact ⟨[], vs, rfl, rfl, hl, hr, hg⟩
  | .pair a b, as, vs, hg, hl, hr, p, rd, h => by
    simp only [viewCells] at h
    obtain ⟨q, _, _, h1, h2, _⟩ := Prog.run_bind _ _ h
    obtain ⟨r, _, _, h3, h4, _⟩ := Prog.run_bind _ _ h2
    cases Prog.run_ret h4
    obtain ⟨cs, vs', e1, e2, e3, e4, e5⟩ := viewCells_gen hA a as vs hg hl hr h1
    obtain ⟨ds, vs'', f1, f2, f3, f4, f5⟩ := viewCells_gen hA b q.2 vs' e5 e3 e4 h3
    exact ⟨cs ++ ds, vs'', by rw [e1, f1, List.append_assoc], ⟨cs, ds, rfl, e2, f2⟩, f3, f4, f5⟩
  | .arr _ _, as, vs, hg, hl, hr, p, rd, h => by cases as <;> cases h
  | .int k, [], vs, hg, hl, hr, p, rd, h => by cases h
  | .bool, [], vs, hg, hl, hr, p, rd, h => by cases h
  | .str, [], vs, hg, hl, hr, p, rd, h => by cases h
  | .slice e, [], vs, hg, hl, hr, p, rd, h => by cases h
  | .int k, a :: as, vs, hg, hl, hr, p, rd, h => by
    obtain ⟨x, _, _, h1, h2, _⟩ := Prog.run_bind _ _ h
    cases Prog.run_ret h2
    obtain ⟨v, g1, g2⟩ := hr 0 a rfl
    cases vs with
    | nil => cases g1
    | cons v' vs =>
      cases g1
      obtain ⟨cs, e1, e2⟩ := hA _ _ _ _ _ (hg a List.mem_cons_self) g2 h1
      exact ⟨cs, vs, by rw [one_of_val e1 e2 rfl]; rfl, e1, by simpa using hl, fun k a ha => hr (k + 1) a ha, fun b hb => hg b (List.mem_cons_of_mem _ hb)⟩
  | .bool, a :: as, vs, hg, hl, hr, p, rd, h => by
    obtain ⟨x, _, _, h1, h2, _⟩ := Prog.run_bind _ _ h
    cases Prog.run_ret h2
    obtain ⟨v, g1, g2⟩ := hr 0 a rfl
    cases vs with
    | nil => cases g1
    | cons v' vs =>
      cases g1
      obtain ⟨cs, e1, e2⟩ := hA _ _ _ _ _ (hg a List.mem_cons_self) g2 h1
      exact ⟨cs, vs, by rw [one_of_val e1 e2 rfl]; rfl, e1, by simpa using hl, fun k a ha => hr (k + 1) a ha, fun b hb => hg b (List.mem_cons_of_mem _ hb)⟩
  | .str, a :: as, vs, hg, hl, hr, p, rd, h => by
    obtain ⟨x, _, _, h1, h2, _⟩ := Prog.run_bind _ _ h
    cases Prog.run_ret h2
    obtain ⟨v, g1, g2⟩ := hr 0 a rfl
    cases vs with
    | nil => cases g1
    | cons v' vs =>
      cases g1
      obtain ⟨cs, e1, e2⟩ := hA _ _ _ _ _ (hg a List.mem_cons_self) g2 h1
      exact ⟨cs, vs, by rw [one_of_val e1 e2 rfl]; rfl, e1, by simpa using hl, fun k a ha => hr (k + 1) a ha, fun b hb => hg b (List.mem_cons_of_mem _ hb)⟩
  | .slice e, a :: as, vs, hg, hl, hr, p, rd, h => by
    obtain ⟨x, _, _, h1, h2, _⟩ := Prog.run_bind _ _ h
    cases Prog.run_ret h2
    obtain ⟨v, g1, g2⟩ := hr 0 a rfl
    cases vs with
    | nil => cases g1
    | cons v' vs =>
      cases g1
      obtain ⟨cs, e1, e2⟩ := hA _ _ _ _ _ (hg a List.mem_cons_self) g2 h1
      exact ⟨cs, vs, by rw [one_of_val e1 e2 rfl]; rfl, e1, by simpa using hl, fun k a ha => hr (k + 1) a ha, fun b hb => hg b (List.mem_cons_of_mem _ hb)⟩

theorem view_still {ok : Nat → Prop} {t : Ty} {y : TV} {v : Value} (hst : y.still = true) (hy : TVR w ok H os y v) {l : Nat → Option Slot} {x : t.den} {rd : List Nat} (h : (view t y).run l = some (x, rd)) : ∃ cs, RO w ok t x cs ∧ v = valOf t cs := by
  unfold view at h
  split at h
  · exact viewA_still (by simpa [TV.still] using hst) (hy _ rfl) h
  · rename_i as
    obtain ⟨hag, h⟩ := Prog.run_chk h
    obtain ⟨p, _, _, h1, h2, _⟩ := Prog.run_bind _ _ h
    obtain ⟨vs, e1, e2, e3⟩ := hy
    obtain ⟨cs, vs', f1, f2, f3, f4, _⟩ := viewCells_gen (G := fun a => a.still = true) (fun t a v x rd hs ha h => viewA_still hs ha h) t as vs.toList (by simpa [TV.still] using hst) (by simpa using e2.symm) (fun k a ha => by
      obtain ⟨v, q1, q2, _⟩ := e3 k a ha; exact ⟨v, by simpa using q1, q2⟩) h1
    split at h2
    · rename_i hp
      cases Prog.run_ret h2
      rw [hp] at f3
      have : vs' = [] := List.eq_nil_of_length_eq_zero f3.symm
      subst this
      refine ⟨cs, f2, ?_⟩
      rw [e1]; unfold valOf; rw [hag, if_pos rfl, ← List.append_nil cs, ← f1]
    · cases h2
  · cases h

/-- Two rows, one beside the other. -/
inductive All2 {α β : Type} (R : α → β → Prop) : List α → List β → Prop
  | nil : All2 R [] []
  | cons {a b as bs} : R a b → All2 R as bs → All2 R (a :: as) (b :: bs)

theorem viewArgs_gen {okk : Nat → Prop} {ok : Nat → Prop} {G : TV → Prop} {l : Nat → Option Slot} (hV : ∀ (t : Ty) (y : TV) (v : Value) (x : t.den) (rd : List Nat), G y → TVR w ok H os y v → (view t y).run l = some (x, rd) → ∃ cs, RO w okk t x cs ∧ v = valOf t cs) :
    ∀ (ts : List Ty) (ys : List TV) (vs : List Value), (∀ y ∈ ys, G y) → All2 (fun y v => TVR w ok H os y v) ys vs → ∀ {x : DenL ts} {rd : List Nat}, (viewArgs ts ys).run l = some (x, rd) → ArgsR w okk ts x vs
  | [], [], vs, _, hf, x, rd, h => by cases hf; rfl
  | [], _ :: _, vs, _, hf, x, rd, h => by cases h
  | t :: ts, [], vs, _, hf, x, rd, h => by cases h
  | t :: ts, y :: ys, vs, hg, hf, x, rd, h => by
    cases hf with
    | cons h1 h2 =>
      simp only [viewArgs] at h
      obtain ⟨q, _, _, h3, h4, _⟩ := Prog.run_bind _ _ h
      obtain ⟨r, _, _, h5, h6, _⟩ := Prog.run_bind _ _ h4
      cases Prog.run_ret h6
      obtain ⟨cs, e1, e2⟩ := hV _ _ _ _ _ (hg y List.mem_cons_self) h1 h3
      exact ⟨cs, _, by rw [e2], e1, viewArgs_gen hV ts ys _ (fun z hz => hg z (List.mem_cons_of_mem _ hz)) h2 h5⟩
end
end Go.Proofs.Yteblfhhhbfodgaa.Sim
/- A call by contract, sound; a step, sound. -/
set_option linter.unusedVariables false
set_option linter.unusedSimpArgs false
set_option linter.unusedSectionVars false
namespace Go.Proofs.Yteblfhhhbfodgaa.Sim
open Go Go.RowKit

theorem getElem?_setAll_other (us : Upds) (os : List Slot) {j : Nat} (h : ∀ (k : Nat) u, us[k]? = some u → u.1 ≠ j) : (setAll os us)[j]? = os[j]? := by
  apply setAll_other
  rw [apart, List.all_eq_true]
  intro u hu
  obtain ⟨k, hk⟩ := List.getElem?_of_mem hu
  have := h k u hk
  simp only [Bool.not_eq_true']
  cases hb : Nat.beq u.1 j with
  | false => rfl
  | true => exact absurd (beq_of hb) this

theorem setAll_at : ∀ (us : Upds) (os : List Slot) (fr : Nat), (∀ (k : Nat) u, us[k]? = some u → u.1 = fr + k) → fr + us.length ≤ os.length → ∀ (k : Nat) u, us[k]? = some u → (setAll os us)[fr + k]? = some u.2
  | [], _, _, _, _, k, u, h => by simp at h
  | v :: us, os, fr, hn, hl, k, u, h => by
    have h0 := hn 0 v rfl
    simp only [List.length_cons] at hl
    cases k with
    | zero =>
      cases h
      simp only [setAll]
      rw [getElem?_setAll_other us _ (fun k u hu => by have := hn (k + 1) u hu; omega), h0]
      exact List.getElem?_set_self (by omega)
    | succ k =>
      simp only [setAll]
      have := setAll_at us (os.set v.1 v.2) (fr + 1) (fun k u hu => by have := hn (k + 1) u hu; omega) (by simp; omega) k u h
      rw [show fr + (k + 1) = fr + 1 + k by omega]; exact this

section
variable {X : Ctx} {H : Nat → Wit} {os : List Slot} {w w' : World}

/-- What a call gives, seen from the caller. -/
theorem call_out (hh : HeapR X H os w) {rs : List (Bool × List RM)} {r : RDen rs} {fr : Nat} (hf : ∀ k, k < (resTV rs r 0).upds.length → os[fr + k]? = some (0, .dead)) {ok0 : Nat → Prop} {H1 : Nat → Wit} {v : Value}
    (h1 : HeapR (.pure w ok0) H1 (resObjs rs r) w') (h2 : TVR w' (okOf (.pure w ok0) w' H1 (resObjs rs r)) H1 (resObjs rs r) (resTV rs r 0).val v)
    (hs : (∀ b, ok0 b → okOf X w H os b) ∨ (rs.all (fun r => r.2.all RM.plain)) = true) : Out X H os w (setAll os (resTV rs r fr).upds) (resTV rs r fr).val v w' := by
  obtain ⟨eval, eupds⟩ := resTV_up fr rs r
  have hn : (resObjs rs r).length = (resTV rs r 0).upds.length := by simp [resObjs]
  generalize hN : (resTV rs r 0).upds.length = n at hn hf
  have hnum : ∀ (k : Nat) u, (resTV rs r fr).upds[k]? = some u → u.1 = fr + k := by
    intro k u hu
    rw [resTV_upds] at hu
    exact (resAll_no rs r fr k u hu).1
  have hlenr : (resTV rs r fr).upds.length = n := by rw [eupds, List.length_map, hN]
  have hle : n ≠ 0 → fr + n ≤ os.length := by
    intro h0
    have := hf (n - 1) (by omega)
    have := (List.getElem?_eq_some_iff.1 this).1
    omega
  have hin : ∀ k, k < n → (setAll os (resTV rs r fr).upds)[fr + k]? = (resObjs rs r)[k]? := by
    intro k hk
    have hk' : k < (resTV rs r fr).upds.length := by omega
    have := setAll_at _ os fr hnum (by rw [hlenr]; exact hle (by omega)) k _ (List.getElem?_eq_getElem hk')
    rw [this]
    have hk2 : k < (resTV rs r 0).upds.length := by omega
    unfold resObjs
    rw [List.getElem?_map, List.getElem?_eq_getElem hk2]
    have : (resTV rs r fr).upds[k]'hk' = ((resTV rs r 0).upds[k].1 + fr, (resTV rs r 0).upds[k].2) := by simp [eupds]
    rw [this]; rfl
  have hout : ∀ j, ¬ (fr ≤ j ∧ j < fr + n) → (setAll os (resTV rs r fr).upds)[j]? = os[j]? := by
    intro j hj
    refine getElem?_setAll_other _ os (fun k u hu e => hj ?_)
    have := hnum k u hu
    have := (List.getElem?_eq_some_iff.1 hu).1
    omega
  let Hn : Nat → Wit := fun j => if fr ≤ j ∧ j < fr + n then H1 (j - fr) else H j
  have hHin : ∀ k, k < n → Hn (fr + k) = H1 k := fun k hk => by
    show (if fr ≤ fr + k ∧ fr + k < fr + n then H1 (fr + k - fr) else H (fr + k)) = H1 k
    rw [if_pos ⟨by omega, by omega⟩]; congr 1; omega
  have hHout : ∀ j, ¬ (fr ≤ j ∧ j < fr + n) → Hn j = H j := fun j hj => if_neg hj
  generalize hos : setAll os (resTV rs r fr).upds = os' at hin hout
  have hlen : os'.length = os.length := by rw [← hos, setAll_length]
  have hw0 : X.w0.heap.size ≤ w.heap.size := hh.below.size
  have hb := h1.below
  have hev : Evols os os' H Hn := by
    intro i s hi hl
    by_cases hu : fr ≤ i ∧ i < fr + n
    · have := hf (i - fr) (by omega)
      rw [show fr + (i - fr) = i by omega, hi] at this
      cases this
      rcases hl with hl | hl
      · exact absurd hl (Nat.lt_irrefl 0)
      · cases hl
    · exact ⟨s, by rw [hout i hu]; exact hi, by rw [hHout i hu]; exact Evol.refl _ _⟩
  -- the blocks that may be read on
  have hok : ∀ b, okOf (.pure w ok0) w' H1 (resObjs rs r) b → (∀ b, ok0 b → okOf X w H os b) → okOf X w' Hn os' b := by
    rintro b ⟨q1, q2, q3⟩ hs
    refine ⟨q1, fun hlt => ((hs b ((q2 (Nat.lt_of_lt_of_le hlt hw0)).resolve_right id)).2.1 hlt), fun i hi hm => ?_⟩
    by_cases hu : fr ≤ i ∧ i < fr + n
    · have e := hHin (i - fr) (by omega)
      rw [show fr + (i - fr) = i by omega] at e
      rw [e] at hm
      exact q3 (i - fr) (by omega) hm
    · rw [hHout i hu] at hm
      rw [hlen] at hi
      have hlt := (hh.rng i b hi hm).2
      exact (hs b ((q2 hlt).resolve_right id)).2.2 i hi hm
  have hro : ∀ {t : Ty} {x : t.den} {cs : List Value}, (t.plain = true ∨ (∀ b, ok0 b → okOf X w H os b)) → RO w' (okOf (.pure w ok0) w' H1 (resObjs rs r)) t x cs → RO w' (okOf X w' Hn os') t x cs := by
    intro t x cs h hr
    rcases h with h | h
    · exact RO_plain h hr
    · exact hr.mono (fun _ _ => rfl) (fun b hb => hok b hb h)
  have hplain : ∀ (m : RM), (∃ p ∈ rs, m ∈ p.2) → (m.plain = true ∨ (∀ b, ok0 b → okOf X w H os b)) := by
    rintro m ⟨p, hp, hm⟩
    rcases hs with hs | hs
    · exact .inr hs
    · rw [List.all_eq_true] at hs
      have := hs p hp
      rw [List.all_eq_true] at this
      exact .inl (this m hm)
  obtain ⟨u1, u2, u3⟩ := hh.update (os' := os') (H' := Hn) (w' := w') (fun i => fr ≤ i ∧ i < fr + n) hlen ⟨hb.os, hb.tape, hb.output, hb.size, fun k hk _ => hb.block k (Nat.lt_of_lt_of_le hk hw0) id⟩ hb.size
    (fun i hi => ⟨hout i hi, hHout i hi⟩) (fun b hlt _ => hb.block b hlt id)
    (fun i hi _ => by
      have e := hHin (i - fr) (by omega)
      rw [show fr + (i - fr) = i by omega] at e
      rw [e]
      exact ⟨fun b hbm => ⟨.inr ((h1.rng (i - fr) b (by omega) hbm).1.resolve_right id), (h1.rng (i - fr) b (by omega) hbm).2⟩, h1.nod (i - fr) (by omega)⟩)
    (fun i j b hi hj _ _ hij hbm => by
      have e := hHin (i - fr) (by omega)
      rw [show fr + (i - fr) = i by omega] at e
      have e2 := hHin (j - fr) (by omega)
      rw [show fr + (j - fr) = j by omega] at e2
      rw [e] at hbm
      rw [e2]
      exact h1.dis (i - fr) (j - fr) b (by omega) (by omega) (by omega) hbm)
    hev (fun hok' hun i s' hi hs' => by
      have e := hHin (i - fr) (by omega)
      have e3 := hin (i - fr) (by omega)
      rw [show fr + (i - fr) = i by omega] at e e3
      rw [e]
      rw [hs'] at e3
      have ho := h1.obj (i - fr) s' e3.symm
      have hkind : ResObj (fun m => ∃ p ∈ rs, m ∈ p.2) s' := by
        have e4 := e3.symm
        unfold resObjs at e4
        rw [List.getElem?_map, Option.map_eq_some_iff] at e4
        obtain ⟨u, hu, rfl⟩ := e4
        rw [resTV_upds] at hu
        exact (resAll_no rs r 0 _ u hu).2
      have hrow : ∀ {e : TypeId} {t : Ty} {xs : List t.den} {hd : Value}, (t.plain = true ∨ (∀ b, ok0 b → okOf X w H os b)) → RowR w' (okOf (.pure w ok0) w' H1 (resObjs rs r)) e t xs hd → RowR w' (okOf X w' Hn os') e t xs hd := by
        rintro e t xs hd h ⟨fl, p1, p2⟩
        exact ⟨fl, ROL_imp (fun _ _ hr => hro h hr) p1, p2⟩
      rcases hkind with ⟨e, t, xs, rfl, hm⟩ | ⟨e, e2, t, xss, rfl, hm⟩
      · exact ⟨ho.1, hrow (hplain _ hm) ho.2.1, ho.2.2⟩
      · obtain ⟨p1, p2, p3, p4, p5⟩ := ho
        exact ⟨p1, p2, p3, fun j xs hd hx hr => ⟨hrow (hplain _ hm) (p4 j xs hd hx hr).1, (p4 j xs hd hx hr).2⟩, p5⟩)
  -- the value
  have hav : ∀ (a : AV) (u : Value), ((∃ t x, a = .ro t x ∧ ∃ q ∈ rs, RM.ro t ∈ q.2) ∨ ∃ i, a = .own i 0) → AVR w' (okOf (.pure w ok0) w' H1 (resObjs rs r)) H1 (resObjs rs r) a u → AVR w' (okOf X w' Hn os') Hn os' (a.up fr) u := by
    rintro a u (⟨t, x, rfl, hm⟩ | ⟨i, rfl⟩) ha
    · obtain ⟨cs, p1, p2⟩ := ha
      exact ⟨cs, hro (hplain _ hm) p1, p2⟩
    · obtain ⟨p0, s, p1, p2, p3⟩ := ha
      have hi : i < n := by have := (List.getElem?_eq_some_iff.1 p1).1; omega
      refine ⟨p0, s, by rw [show i + fr = fr + i by omega, hin i hi]; exact p1, p2, fun e => ?_⟩
      rw [show i + fr = fr + i by omega, hHin i hi]
      exact p3 e
  have hcv : ∀ (b : Bool) (cs : List AV) (u : Value), (∀ a ∈ cs, (∃ t x, a = .ro t x ∧ ∃ q ∈ rs, RM.ro t ∈ q.2) ∨ ∃ i, a = .own i 0) → CVR w' (okOf (.pure w ok0) w' H1 (resObjs rs r)) H1 (resObjs rs r) b cs u → CVR w' (okOf X w' Hn os') Hn os' b (cs.map (AV.up fr)) u := by
    intro b cs u hc hcv
    cases b with
    | false =>
      intro a ha
      match cs, ha with
      | [a'], ha =>
        cases ha
        exact hav a' u (hc a' List.mem_cons_self) (hcv a' rfl)
    | true =>
      obtain ⟨vs, p1, p2, p3⟩ := hcv
      refine ⟨vs, p1, by simpa using p2, fun k a ha => ?_⟩
      rw [List.getElem?_map, Option.map_eq_some_iff] at ha
      obtain ⟨a', ha', rfl⟩ := ha
      obtain ⟨x, q1, q2, q3⟩ := p3 k a' ha'
      exact ⟨x, q1, hav a' x (hc a' (List.mem_of_getElem? ha')) q2, q3⟩
  refine Kept.out (H' := Hn) ⟨u1, u2, u3, hev⟩ ?_
  rw [eval]
  have hval : ∀ (y : TV), (∀ b cs, y = .cv b cs → ∀ a ∈ cs, (∃ t x, a = .ro t x ∧ ∃ q ∈ rs, RM.ro t ∈ q.2) ∨ ∃ i, a = .own i 0) → (∀ vs, y = .tup vs → ∀ p ∈ vs, ∀ a ∈ p.2, (∃ t x, a = .ro t x ∧ ∃ q ∈ rs, RM.ro t ∈ q.2) ∨ ∃ i, a = .own i 0) →
      TVR w' (okOf (.pure w ok0) w' H1 (resObjs rs r)) H1 (resObjs rs r) y v → TVR w' (okOf X w' Hn os') Hn os' (y.up fr) v := by
    intro y hy1 hy2 hy
    cases y with
    | cv b cs => exact hcv b cs v (hy1 b cs rfl) hy
    | tup vs =>
      obtain ⟨us, p1, p2⟩ := hy
      refine ⟨us, p1, fun k p hp => ?_⟩
      rw [List.getElem?_map, Option.map_eq_some_iff] at hp
      obtain ⟨p', hp', rfl⟩ := hp
      obtain ⟨u, q1, q2⟩ := p2 k p' hp'
      exact ⟨u, q1, hcv p'.1 p'.2 u (hy2 vs rfl p' (List.mem_of_getElem? hp')) q2⟩
  have hall := resAll_ro rs r 0
  refine hval _ (fun b cs e => ?_) (fun vs e => ?_) h2
  · unfold resTV at e
    generalize resAll rs r 0 = q at e hall
    obtain ⟨qs, qu⟩ := q
    match qs, e with
    | [q], e => cases e; exact hall q List.mem_cons_self
    | [], e => cases e
    | _ :: _ :: _, e => cases e
  · unfold resTV at e
    generalize resAll rs r 0 = q at e hall
    obtain ⟨qs, qu⟩ := q
    match qs, e with
    | [], e => cases e; exact hall
    | _ :: _ :: _, e => cases e; exact hall
end
end Go.Proofs.Yteblfhhhbfodgaa.Sim
/- A step, sound. -/
set_option linter.unusedVariables false
set_option linter.unusedSimpArgs false
set_option linter.unusedSectionVars false
namespace Go.Proofs.Yteblfhhhbfodgaa.Sim
open Go Go.RowKit

/-- All contracts of a table hold. -/
def AllHold (P : Program) (E : Env) : Prop := ∀ f c, E.fns f = some c → Holds P f c

section
variable {X : Ctx} {H : Nat → Wit} {w w' : World} {P : Program} {E : Env} (hT : TabOk P E) (hF : AllHold P E)
include hT hF

theorem enter_run {a : Act} {o : Oper} {c : Call} {f : FuncId} (hop : o.op = .call c) (hcl : c.callee = .value (.func f)) {fn : Func} (h1 : P.funcs[f]? = some fn) (h2 : (fn.name == "runtime.NumGoroutine") = false) (h3 : fn.body.isNone = false) :
    (execOp a.eval o).run P w = .ok (.enter f (c.args.map a.eval)) w := by
  unfold execOp
  rw [hop]
  simp only [resolve, hcl, Act.eval, Deferred.ofValue]
  have e2 : fn.name ≠ "runtime.NumGoroutine" := fun e => by rw [e] at h2; simp at h2
  have e3 : fn.body ≠ none := fun e => by rw [e] at h3; simp at h3
  simp [invoke, callFunc, h1, e2, e3]

omit hT hF in
theorem ArgsR.mono {ok ok' : Nat → Prop} (hk : ∀ b, ok b → ok' b) : ∀ {ts : List Ty} {x : DenL ts} {vs : List Value}, ArgsR w ok ts x vs → ArgsR w ok' ts x vs
  | [], _, _, h => h
  | _ :: _, _, _, ⟨cs, rest, h1, h2, h3⟩ => ⟨cs, rest, h1, h2.mono (fun _ _ => rfl) hk, ArgsR.mono hk h3⟩

omit hT hF in
theorem consArgs_ok {os : List Slot} (hh : HeapR X H os w) : ∀ (ts : List Ty) (ys : List TV) (vs : List Value), All2 (fun y v => TVR w (okOf X w H os) H os y v) ys vs → ∀ {p : DenL ts × Upds} {rd : List Nat}, (consArgs ts ys).run (fun i => os[i]?) = some (p, rd) →
    FrzU os p.2 ∧ ∀ {H' os'}, Kept X H os w H' os' w → (∀ i sl, (i, sl) ∈ p.2 → os'[i]? = some sl) → (∀ (i : Nat) ver t xs, os[i]? = some (ver, Obj.froz t xs) → os'[i]? = some (ver, .froz t xs)) → ArgsR w (okOf X w H' os') ts p.1 vs
  | [], [], vs, hf, p, rd, h => by
    cases hf
    cases Prog.run_ret h
    exact ⟨(fun i sl hm => by cases hm), fun _ _ _ => rfl⟩
  | [], _ :: _, vs, hf, x, rd, h => by cases h
  | t :: ts, [], vs, hf, x, rd, h => by cases h
  | t :: ts, y :: ys, vs, hf, p, rd, h => by
    cases hf with
    | cons h1 h2 =>
      simp only [consArgs] at h
      obtain ⟨q, _, _, h3, h4, _⟩ := Prog.run_bind _ _ h
      obtain ⟨r, _, _, h5, h6, _⟩ := Prog.run_bind _ _ h4
      cases Prog.run_ret h6
      obtain ⟨a1, a2⟩ := cons_ok hh h1 h3
      obtain ⟨b1, b2⟩ := consArgs_ok hh ts ys _ h2 h5
      refine ⟨fun i sl hm => ?_, fun k hus hfz => ?_⟩
      · rcases List.mem_append.1 hm with hm | hm
        · exact a1 i sl hm
        · exact b1 i sl hm
      · obtain ⟨cs, e1, e2⟩ := a2 k (fun i sl hm => hus i sl (List.mem_append_left _ hm)) hfz
        exact ⟨cs, _, by rw [e2], e1, b2 k (fun i sl hm => hus i sl (List.mem_append_right _ hm)) hfz⟩

theorem call_sound {st : St} {a : Act} {o : Oper} {c : Call} {f : FuncId} {fr : Nat} {rw_ : Bool} (hR : RelH X H st a w) (hf : ∀ k, k < need E o → st.objs[fr + k]? = some (0, .dead)) (hop : o.op = .call c) (hcl : c.callee = .value (.func f)) {res : Res} {rd : List Nat}
    (h : (opP E rw_ o st.ev fr).run st.look = some (res, rd)) {N : Act → World → Prop} {Q : Exit → Act → World → Prop} (hN : ∀ a' w', Rel X (st.app o.dst res) a' w' → N a' w') : o.wp P a w N Q := by
  have hh := hR.heap
  have hev := hR.ev
  unfold opP at h
  rw [hop] at h
  simp only [hcl] at h
  replace h := Prog.run_opt h; obtain ⟨c', hc', h⟩ := h
  have hall : ∀ xs : List Operand, All2 (fun y v => TVR w (okOf X w H st.objs) H st.objs y v) (xs.map st.ev) (xs.map a.eval) := by
    intro xs
    induction xs with
    | nil => exact .nil
    | cons x xs ih => exact .cons (hev x) ih
  have hargs : (c.args.map a.eval).toList = c.args.toList.map a.eval := by simp
  obtain ⟨⟨fn, g1, g2, g3⟩, g4⟩ := hF f c' hc'
  have hn : need E o = c'.rs.foldl (fun n r => n + r.2.length) 0 := by simp [need, hop, hcl, hc']
  have hdead : ∀ r : RDen c'.rs, ∀ k, k < (resTV c'.rs r 0).upds.length → st.objs[fr + k]? = some (0, .dead) := by
    intro r k hk
    refine hf k ?_
    rw [resTV_upds] at hk
    have := resAll_le c'.rs r 0
    omega
  have run : ∀ (x : DenL c'.ps) (r : c'.R) (ok0 : Nat → Prop) (res : Res), ArgsR w (fun b => b < w.heap.size ∧ ok0 b) c'.ps x (c.args.map a.eval).toList → c'.fn x = some r →
      (∀ v H1 w', HeapR (.pure w ok0) H1 (resObjs c'.rs (c'.back r)) w' → TVR w' (okOf (.pure w ok0) w' H1 (resObjs c'.rs (c'.back r))) H1 (resObjs c'.rs (c'.back r)) (resTV c'.rs (c'.back r) 0).val v → Out X H st.objs w (setAll st.objs res.upds) res.val v w') →
      (∀ a' w', Rel X (st.app o.dst res) a' w' → N a' w') → o.wp P a w N Q := by
    intro x r ok0 res ha hr hs hN
    have hcalls := g4 w ok0 _ x r ha hr
    unfold Oper.wp
    rw [enter_run hT hF hop hcl g1 g2 g3, Oper.upon_enter]
    refine hcalls.mono (fun e w' he => ?_)
    obtain ⟨v, H1, rfl, k1, k2⟩ := he
    exact hN _ _ (hR.app (d := o.dst) (hs v H1 w' k1 k2))
  unfold callP at h
  split at h
  · rename_i hst
    replace h := Prog.run_bind _ _ h; obtain ⟨x, _, _, hx, h, _⟩ := h
    simp only [Prog.run] at h
    cases hr : c'.fn x with
    | none => rw [hr] at h; cases h
    | some r =>
      rw [hr] at h
      simp only [Option.bind_some, Option.some.injEq, Prod.mk.injEq] at h
      have h := h.1
      subst h
      rw [Bool.or_eq_true] at hst
      rcases hst with hst | hst
      · refine run x r (okOf X w H st.objs) _ ?_ hr (fun v H1 w' k1 k2 => call_out hh (hdead _) k1 k2 (.inl fun _ h => h)) hN
        rw [hargs]
        rw [List.all_eq_true] at hst
        have := viewArgs_gen (okk := fun b => b < w.heap.size ∧ okOf X w H st.objs b) (G := fun y => y.still = true) (fun t y v x rd hg hy hv => by
          obtain ⟨cs, e1, e2⟩ := view_still hg hy hv
          exact ⟨cs, e1.mono (fun _ _ => rfl) (fun b hb => ⟨hb.1, hb⟩), e2⟩) c'.ps _ _ hst (hall c.args.toList) hx
        exact this
      · refine run x r (fun _ => True) _ ?_ hr (fun v H1 w' k1 k2 => call_out hh (hdead _) k1 k2 (.inr hst)) hN
        rw [hargs]
        have := viewArgs_gen (okk := fun b => b < w.heap.size ∧ True) (G := fun _ => True) (fun t y v x rd _ hy hv => by
          obtain ⟨cs, e1, e2⟩ := view_ok hh hy hv
          exact ⟨cs, e1.mono (fun _ _ => rfl) (fun b hb => ⟨hb, trivial⟩), e2⟩) c'.ps _ _ (fun _ _ => trivial) (hall c.args.toList) hx
        exact this
  · replace h := Prog.run_bind _ _ h; obtain ⟨p, _, _, hx, h, _⟩ := h
    simp only [Prog.run] at h
    cases hr : c'.fn p.1 with
    | none => rw [hr] at h; cases h
    | some r =>
      rw [hr] at h
      simp only [Option.bind_some, Option.some.injEq, Prod.mk.injEq] at h
      have h := h.1
      subst h
      obtain ⟨f1, f2⟩ := consArgs_ok hh c'.ps _ _ (hall c.args.toList) hx
      obtain ⟨H0, k1, k2, k3, k4⟩ := frz_all p.2 hh f1.v
      have ha := f2 k1 k3 k4
      refine run p.1 r (okOf X w H0 (setAll st.objs p.2)) _ ?_ hr (fun v H1 w' q1 q2 => ?_) hN
      · rw [hargs]
        exact ha.mono (fun b hb => ⟨hb.1, hb⟩)
      · have hd2 : ∀ k, k < (resTV c'.rs (c'.back r) 0).upds.length → (setAll st.objs p.2)[fr + k]? = some (0, .dead) := by
          intro k hk
          have h0 := hdead _ k hk
          rw [setAll_other p.2 (by
            rw [apart, List.all_eq_true]
            intro u hu
            obtain ⟨sl, p0, z1, z2, z3⟩ := f1 u.1 u.2 hu
            simp only [Bool.not_eq_true']
            cases hb : Nat.beq u.1 (fr + k) with
            | false => rfl
            | true => rw [beq_of hb, h0] at z1; cases z1; cases z2) st.objs]
          exact h0
        obtain ⟨H2, z1, z2, z3⟩ := call_out k1.1 hd2 q1 q2 (.inl fun _ h => h)
        rw [← setAll_append] at z1 z2 z3
        exact ⟨H2, z1, fun y u hy => z2 y u (k1.tv hy), z3⟩

theorem step_ok {st st' : St} {a : Act} {ops : Array Oper} {i : Nat} {o : Oper} {fr : Nat} {rec_ : Rec} {Q : Exit → Act → World → Prop} (hR : Rel X st a w) (hi : ops[i]? = some o) (h : step1 E ops i o fr st = some (st', rec_)) {K : Act → World → Prop} (hK : ∀ a' w', Rel X st' a' w' → K a' w') : wpOp P ops Q i K a w := by
  unfold step1 at h
  rw [Option.bind_eq_some_iff] at h
  obtain ⟨g, hg, h⟩ := h
  have hw := gd_ok hR hg
  unfold wpOp
  rw [hi]
  dsimp only
  rw [hw]
  cases g with
  | false =>
    cases h
    exact hK _ _ (hR.put o.dst (fun H => tv_one (show AVR w _ H st.objs (.val undef) undef from rfl)))
  | true =>
    rw [if_pos rfl]
    left
    dsimp only at h
    split at h
    · rename_i hd
      rw [Option.map_eq_some_iff] at h
      obtain ⟨⟨res, rd⟩, h1, h2⟩ := h
      cases h2
      obtain ⟨H, hR⟩ := hR
      have hf := dead_at hd
      by_cases hc : ∃ c f, o.op = .call c ∧ c.callee = .value (.func f)
      · obtain ⟨c, f, h3, h4⟩ := hc
        exact call_sound hT hF hR hf h3 h4 h1 hK
      · exact (opP_ok hT hR hf (fun c f h3 h4 => hc ⟨c, f, h3, h4⟩) h1).wp hR hK
    · cases h
end
end Go.Proofs.Yteblfhhhbfodgaa.Sim
/- Slots that are wanted no more, objects numbered anew. -/
set_option linter.unusedVariables false
set_option linter.unusedSimpArgs false
set_option linter.unusedSectionVars false
namespace Go.Proofs.Yteblfhhhbfodgaa.Sim
open Go Go.RowKit

section
variable {X : Ctx} {H : Nat → Wit} {st : St} {a : Act} {w : World}

theorem Rel.frz1 (hR : Rel X st a w) (t : Tmp) : Rel X (st.frz1 t) a w := by
  unfold St.frz1
  split
  · rename_i i ver ht
    split
    · rename_i v e u xs hs
      split
      · rename_i hv
        obtain ⟨H, hR⟩ := hR
        have k := frz_one hR.heap hs (p := ⟨u, xs⟩) rfl
        have hver := beq_of hv
        subst hver
        refine ⟨_, k.1, by simpa using hR.size, fun t' x hx => ?_, hR.defers, hR.stack.imp (fun y u h => k.tv h)⟩
        by_cases htt : t = t'
        · subst htt
          have hlt := (List.getElem?_eq_some_iff.1 ht).1
          rw [List.getElem?_set_self hlt] at hx
          cases hx
          obtain ⟨y, g1, g2⟩ := hR.tmps _ _ ht
          refine ⟨y, g1, fun a e => ?_⟩
          cases e
          obtain ⟨_, hy⟩ := own_of (g2 _ rfl) hs (by simp)
          have ho := k.1.obj i _ (List.getElem?_set_self (List.getElem?_eq_some_iff.1 hs).1)
          rw [updH_same] at ho
          exact ⟨_, ho.2, hy⟩
        · rw [List.getElem?_set_ne htt] at hx
          obtain ⟨y, g1, g2⟩ := hR.tmps _ _ hx
          exact ⟨y, g1, k.tv g2⟩
      · exact hR
    · exact hR
  · exact hR

theorem Rel.frz : ∀ (ts : List Tmp) {st : St}, Rel X st a w → Rel X (st.frz ts) a w
  | [], _, h => h
  | t :: ts, _, h => Rel.frz ts (h.frz1 t)

/-! ### Numbers without doubles -/
theorem addNew_nodup : ∀ (xs l : List Nat), l.Nodup → (addNew l xs).Nodup
  | [], l, h => h
  | x :: xs, l, h => by
    simp only [addNew]
    refine addNew_nodup xs _ ?_
    cases hx : l.elem x with
    | true => exact h
    | false =>
      rw [List.nodup_append]
      refine ⟨h, by simp, fun a ha b hb e => ?_⟩
      rw [List.mem_singleton] at hb
      subst hb; subst e
      have : l.elem a = true := List.elem_iff.2 ha
      rw [hx] at this; cases this
theorem closeIds_nodup (os : List Slot) : ∀ (n k : Nat) (l : List Nat), l.Nodup → (closeIds os n k l).Nodup
  | 0, _, _, h => h
  | n + 1, k, l, h => by
    simp only [closeIds]
    split
    · exact h
    · exact closeIds_nodup os n (k + 1) _ (addNew_nodup _ _ h)

theorem newNo_at {l : List Nat} {i : Nat} (h : l.elem i = true) : l[newNo l i]? = some i := by
  have hm : i ∈ l := List.elem_iff.1 h
  have hlt : l.idxOf i < l.length := List.idxOf_lt_length_iff.2 hm
  unfold newNo
  rw [List.getElem?_eq_getElem hlt, List.getElem_idxOf hlt]

/-- The witnesses in the new numbers. -/
def reH (H : Nat → Wit) (l : List Nat) : Nat → Wit := fun k => H (l.getD k 0)
def reO (os : List Slot) (l : List Nat) : List Slot := l.map fun i => (0, Obj.re os l (((os[i]?).map (·.2)).getD .dead))

theorem reH_at {H : Nat → Wit} {l : List Nat} {k i : Nat} (h : l[k]? = some i) : reH H l k = H i := by
  unfold reH; rw [List.getD_eq_getElem?_getD, h]; rfl
theorem reO_at {os : List Slot} {l : List Nat} {k i : Nat} (h : l[k]? = some i) {s : Slot} (hs : os[i]? = some s) : (reO os l)[k]? = some (0, Obj.re os l s.2) := by
  unfold reO; rw [List.getElem?_map, h]; simp [hs]

theorem verOk_at {os : List Slot} {i ver : Nat} {s : Slot} (hs : os[i]? = some s) (h : verOk os i ver = true) : s.1 = ver := by
  unfold verOk at h; rw [hs] at h; exact beq_of h

theorem re_live {os : List Slot} {l : List Nat} {o : Obj} : (Obj.re os l o).live = o.live := by cases o <;> rfl
theorem re_var {os : List Slot} {l : List Nat} {o : Obj} : (Obj.re os l o).isVar = o.isVar := by cases o <;> rfl
theorem re_map {os : List Slot} {l : List Nat} {o : Obj} : (Obj.re os l o).isMap = o.isMap := by cases o <;> rfl
theorem re_dim {os : List Slot} {l : List Nat} {o : Obj} : (Obj.re os l o).dim = o.dim := by cases o <;> rfl

section
variable {os : List Slot} {l : List Nat} {ok ok' : Nat → Prop} (hok : ∀ b, ok b → ok' b)
include hok

theorem AVR.re {x : AV} {v : Value} (h : AVR w ok H os x v) : AVR w ok' (reH H l) (reO os l) (x.re os l) v := by
  cases x with
  | ro t x => obtain ⟨cs, h1, h2⟩ := h; exact ⟨cs, h1.mono (fun _ _ => rfl) hok, h2⟩
  | roelt t x => obtain ⟨ad, cs, h1, h2, h3⟩ := h; exact ⟨ad, cs, h1, h2.mono (fun _ _ => rfl) hok, h3.mono (fun _ _ => rfl) hok⟩
  | clo f c => exact h.elim
  | val u => exact h
  | junk => trivial
  | row i ver rv j => trivial
  | relt i ver rv j k off => trivial
  | own i ver =>
    simp only [AV.re]
    split
    · rename_i hc
      rw [Bool.and_eq_true] at hc
      obtain ⟨h0, s, h1, h2, h3⟩ := h
      have hn := newNo_at hc.2
      obtain ⟨h4, h5⟩ := h3 (verOk_at h1 hc.1)
      exact ⟨h0, _, reO_at hn h1, Nat.le_refl _, fun _ => ⟨by rw [re_live]; exact h4, by rw [reH_at hn]; exact h5⟩⟩
    · trivial
  | elt i ver j off =>
    simp only [AV.re]
    split
    · rename_i hc
      rw [Bool.and_eq_true] at hc
      obtain ⟨h0, s, h1, h2, h3⟩ := h
      have hn := newNo_at hc.2
      obtain ⟨h4, h5⟩ := h3 (verOk_at h1 hc.1)
      exact ⟨h0, _, reO_at hn h1, Nat.le_refl _, fun _ => ⟨by rw [re_live]; exact h4, fun d hd => by rw [reH_at hn]; exact h5 d (by rw [re_dim] at hd; exact hd)⟩⟩
    · trivial
  | ptr i off =>
    simp only [AV.re]
    split
    · rename_i hc
      obtain ⟨h0, s, h1, h2, h3⟩ := h
      have hn := newNo_at hc
      exact ⟨h0, _, reO_at hn h1, by rw [re_var]; exact h2, by rw [reH_at hn]; exact h3⟩
    · trivial
  | mp i =>
    simp only [AV.re]
    split
    · rename_i hc
      obtain ⟨h0, s, h1, h2, h3⟩ := h
      have hn := newNo_at hc
      exact ⟨h0, _, reO_at hn h1, by rw [re_map]; exact h2, by rw [reH_at hn]; exact h3⟩
    · trivial

theorem CellsR.re {cs : List AV} {vs : Array Value} (h : CellsR w ok H os cs vs) : CellsR w ok' (reH H l) (reO os l) (cs.map (AV.re os l)) vs :=
  ⟨by rw [List.length_map]; exact h.1, fun k a ha => by
    rw [List.getElem?_map, Option.map_eq_some_iff] at ha
    obtain ⟨a', h1, rfl⟩ := ha
    obtain ⟨v, g1, g2, g3⟩ := h.2 k a' h1
    exact ⟨v, g1, g2.re hok, g3⟩⟩

theorem CVR.re {b : Bool} {cs : List AV} {v : Value} (h : CVR w ok H os b cs v) : CVR w ok' (reH H l) (reO os l) b (cs.map (AV.re os l)) v := by
  cases b with
  | false =>
    intro a ha
    match cs, ha with
    | [a'], ha => cases ha; exact (h a' rfl).re hok
  | true => obtain ⟨vs, h1, h2⟩ := h; exact ⟨vs, h1, h2.re hok⟩

theorem TVR.re {x : TV} {v : Value} (h : TVR w ok H os x v) : TVR w ok' (reH H l) (reO os l) (x.re os l) v := by
  cases x with
  | cv b cs => exact CVR.re hok h
  | tup vs =>
    obtain ⟨us, h1, h2⟩ := h
    refine ⟨us, h1, fun k p hp => ?_⟩
    rw [List.getElem?_map, Option.map_eq_some_iff] at hp
    obtain ⟨p', g1, rfl⟩ := hp
    obtain ⟨u, g2, g3⟩ := h2 k p' g1
    exact ⟨u, g2, g3.re hok⟩

theorem ObjR.re {W : Wit} {o : Obj} (h : ObjR w ok H os W o) : ObjR w ok' (reH H l) (reO os l) W (Obj.re os l o) := by
  cases o with
  | dead => exact h
  | arr e t xs => exact ⟨h.1, h.2.1.mono (fun _ _ => rfl) hok (fun _ _ => rfl), h.2.2⟩
  | froz t xs => exact ⟨h.1, h.2.mono (fun _ _ => rfl) hok⟩
  | rows rv e e2 t xss =>
    obtain ⟨h1, h2, h3, h4, h5⟩ := h
    exact ⟨h1, h2, h3, fun j xs hd hx hr => ⟨(h4 j xs hd hx hr).1.mono (fun _ _ => rfl) hok (fun _ _ => rfl), (h4 j xs hd hx hr).2⟩, h5⟩
  | box ty cells => obtain ⟨g, vs, h1, h2, h3, h4⟩ := h; exact ⟨g, vs, h1, h2, h3, h4.re hok⟩
  | vec ty n t xs => obtain ⟨h0, g, fl, h1, h2, h3, h4⟩ := h; exact ⟨h0, g, fl, h1, h2, ROL_imp (fun _ _ h => h.mono (fun _ _ => rfl) hok) h3, h4⟩
  | map mt kt vt es => obtain ⟨g, ms, h1, h2, h3, h4⟩ := h; exact ⟨g, ms, h1, h2, h3, h4.mono (fun _ _ => rfl) hok⟩
  | iter s p => exact h
end

theorem keepOnly_at (live : List Tmp) : ∀ (vs : List TV) (n t : Nat), (keepOnly live vs n)[t]? = (vs[t]?).map fun v => match live.elem (n + t) with | true => v | false => .junk
  | [], n, t => by simp [keepOnly]
  | v :: vs, n, 0 => by simp only [keepOnly, List.getElem?_cons_zero, Option.map_some, Nat.add_zero]; rfl
  | v :: vs, n, t + 1 => by
    simp only [keepOnly, List.getElem?_cons_succ]
    rw [keepOnly_at live vs (n + 1) t, show n + 1 + t = n + (t + 1) by omega]
theorem keepOnly_length (live : List Tmp) : ∀ (vs : List TV) (n : Nat), (keepOnly live vs n).length = vs.length
  | [], _ => rfl
  | v :: vs, n => by simp [keepOnly, keepOnly_length live vs (n + 1)]

/-- The objects picked out: what they hold stays apart. -/
theorem HeapR.pick {os : List Slot} {l : List Nat} (h : HeapR X H os w) (hn : l.Nodup) (hl : ∀ i ∈ l, i < os.length) : HeapR X (reH H l) (reO os l) w ∧ (∀ b, okOf X w H os b → okOf X w (reH H l) (reO os l) b) := by
  have hlen : (reO os l).length = l.length := by simp [reO]
  have hat : ∀ k, k < l.length → ∃ i, l[k]? = some i ∧ i < os.length := fun k hk => ⟨l[k], List.getElem?_eq_getElem hk, hl _ (List.getElem_mem hk)⟩
  have hok : ∀ b, okOf X w H os b → okOf X w (reH H l) (reO os l) b := by
    rintro b ⟨h1, h2, h3⟩
    refine ⟨h1, h2, fun k hk => ?_⟩
    obtain ⟨i, e1, e2⟩ := hat k (by omega)
    rw [reH_at e1]; exact h3 i e2
  refine ⟨⟨h.below, fun k s hs => ?_, fun k j b hk hj hkj hb => ?_, fun k hk => ?_, fun k b hk hb => ?_⟩, hok⟩
  · have hk : k < l.length := by rw [← hlen]; exact (List.getElem?_eq_some_iff.1 hs).1
    obtain ⟨i, e1, e2⟩ := hat k hk
    have hsi := List.getElem?_eq_getElem e2
    rw [reO_at e1 hsi] at hs
    cases hs
    rw [reH_at e1]
    exact (h.obj i _ hsi).re hok
  · obtain ⟨i, e1, e2⟩ := hat k (by omega)
    obtain ⟨i', e3, e4⟩ := hat j (by omega)
    rw [reH_at e1] at hb
    rw [reH_at e3]
    refine h.dis i i' b e2 e4 (fun e => hkj ?_) hb
    subst e
    have h1 := (List.getElem?_eq_some_iff.1 e1)
    have h2 := (List.getElem?_eq_some_iff.1 e3)
    exact (List.getElem_inj hn).1 (h1.2.trans h2.2.symm)
  · obtain ⟨i, e1, e2⟩ := hat k (by omega)
    rw [reH_at e1]; exact h.nod i e2
  · obtain ⟨i, e1, e2⟩ := hat k (by omega)
    rw [reH_at e1] at hb; exact h.rng i b e2 hb
theorem Rel.norm (hR : Rel X st a w) (live : List Tmp) : Rel X (st.norm live) a w := by
  obtain ⟨H, hR⟩ := hR
  have e : st.norm live = { tmps := (keepOnly live st.tmps 0).map (TV.re st.objs ((closeIds st.objs 64 0 (addNew (addNew [] ((keepOnly live st.tmps 0).flatMap TV.ids)) (st.stack.flatMap fun f => f.flatMap TV.ids))).filter fun i => Nat.blt i st.objs.length)), stack := st.stack.map (fun f => f.map (TV.re st.objs ((closeIds st.objs 64 0 (addNew (addNew [] ((keepOnly live st.tmps 0).flatMap TV.ids)) (st.stack.flatMap fun f => f.flatMap TV.ids))).filter fun i => Nat.blt i st.objs.length))), objs := reO st.objs ((closeIds st.objs 64 0 (addNew (addNew [] ((keepOnly live st.tmps 0).flatMap TV.ids)) (st.stack.flatMap fun f => f.flatMap TV.ids))).filter fun i => Nat.blt i st.objs.length) } := rfl
  rw [e]
  generalize hl : ((closeIds st.objs 64 0 (addNew (addNew [] ((keepOnly live st.tmps 0).flatMap TV.ids)) (st.stack.flatMap fun f => f.flatMap TV.ids))).filter fun i => Nat.blt i st.objs.length) = l
  have hn : l.Nodup := by rw [← hl]; exact (closeIds_nodup _ _ _ _ (addNew_nodup _ _ (addNew_nodup _ _ List.nodup_nil))).filter _
  have hlt : ∀ i ∈ l, i < st.objs.length := by
    intro i hi
    rw [← hl, List.mem_filter] at hi
    exact blt_true hi.2
  obtain ⟨h1, h2⟩ := hR.heap.pick hn hlt
  refine ⟨reH H l, h1, by simp [keepOnly_length]; exact hR.size, fun t x hx => ?_, hR.defers, fun k fr hk => ?_⟩
  · simp only at hx
    rw [List.getElem?_map, Option.map_eq_some_iff] at hx
    obtain ⟨y, g1, rfl⟩ := hx
    rw [keepOnly_at, Option.map_eq_some_iff] at g1
    obtain ⟨z, g2, rfl⟩ := g1
    obtain ⟨v, q1, q2⟩ := hR.tmps _ _ g2
    refine ⟨v, q1, ?_⟩
    split
    · exact q2.re h2
    · exact tv_junk
  · simp only at hk
    rw [List.getElem?_map, Option.map_eq_some_iff] at hk
    obtain ⟨fr', g1, rfl⟩ := hk
    obtain ⟨vs, g2, g3⟩ := hR.stack k fr' g1
    refine ⟨vs, g2, fun j x hx => ?_⟩
    rw [List.getElem?_map, Option.map_eq_some_iff] at hx
    obtain ⟨y, g4, rfl⟩ := hx
    obtain ⟨v, g5, g6⟩ := g3 j y g4
    exact ⟨v, g5, g6.re h2⟩

theorem Rel.normO (hR : Rel X st a w) (lv : Option (List Tmp × List Tmp)) : Rel X (st.normO lv) a w := by
  cases lv with
  | none => exact hR
  | some p => exact (hR.frz p.2).norm p.1

/-- Only the memory counts. -/
theorem Rel.drawn (hR : Rel X st a w) {w' : World} (hh : w'.heap = w.heap) (h1 : w'.os = w.os) (h2 : w'.tape = w.tape) (h3 : w'.output = w.output) : Rel X st a w' := by
  obtain ⟨H, hR⟩ := hR
  have hb : ∀ b : Nat, w'.heap[b]? = w.heap[b]? := fun b => by rw [hh]
  have hk : ∀ b, okOf X w H st.objs b → okOf X w' H st.objs b := fun b ⟨q1, q2, q3⟩ => ⟨by rw [hh]; exact q1, q2, q3⟩
  have he : Evols st.objs st.objs H H := fun i s hs _ => ⟨s, hs, Evol.refl _ _⟩
  have hbel := hR.heap.below
  refine ⟨H, ⟨⟨h1.trans hbel.os, h2.trans hbel.tape, h3.trans hbel.output, by rw [hh]; exact hbel.size, fun k hk hnm => (hb k).trans (hbel.block k hk hnm)⟩, fun i s hs => (hR.heap.obj i s hs).mono (fun b _ => hb b) hk he (fun b _ => hb b), hR.heap.dis, hR.heap.nod, fun i b hi hbm => by rw [hh]; exact hR.heap.rng i b hi hbm⟩, hR.size, fun t x hx => ?_, hR.defers, hR.stack.imp (fun y u h => h.mono (fun b _ => hb b) hk he)⟩
  obtain ⟨v, g1, g2⟩ := hR.tmps t x hx
  exact ⟨v, g1, g2.mono (fun b _ => hb b) hk he⟩
end
end Go.Proofs.Yteblfhhhbfodgaa.Sim
/- Operations that don't meddle with each other may be swapped. -/
set_option linter.unusedVariables false
set_option linter.unusedSimpArgs false
set_option linter.unusedSectionVars false
namespace Go.Proofs.Yteblfhhhbfodgaa.Sim
open Go Go.RowKit

theorem layParts_congr {E : Env} {fs : List (TypeId × Nat)} {ρ ρ' : Operand → TV} : ∀ (ps : List (Nat × Operand)) (cells : List AV), (∀ p ∈ ps, ρ p.2 = ρ' p.2) → layParts E fs ρ ps cells = layParts E fs ρ' ps cells
  | [], _, _ => rfl
  | (i, x) :: ps, cells, h => by
    simp only [layParts]
    rw [h (i, x) List.mem_cons_self]
    congr 1; funext f; congr 1; funext cs
    split
    · exact layParts_congr ps _ (fun p hp => h p (List.mem_cons_of_mem _ hp))
    · rfl
theorem consParts_congr {t : Ty} {ρ ρ' : Operand → TV} : ∀ (ps : List (Nat × Operand)) (xs : List t.den), (∀ p ∈ ps, ρ p.2 = ρ' p.2) → consParts t ρ ps xs = consParts t ρ' ps xs
  | [], _, _ => rfl
  | (i, x) :: ps, xs, h => by
    simp only [consParts]
    rw [h (i, x) List.mem_cons_self]
    congr 2; funext p; congr 1
    exact consParts_congr ps _ (fun p hp => h p (List.mem_cons_of_mem _ hp))

theorem opP_congr {E : Env} {rw_ : Bool} {o : Oper} {ρ ρ' : Operand → TV} {fr : Nat} (h : ∀ x ∈ o.op.operands, ρ x = ρ' x) : opP E rw_ o ρ fr = opP E rw_ o ρ' fr := by
  obtain ⟨dst, op, type, pos, after, guard⟩ := o
  cases op <;> simp only [Op.operands] at h <;> simp only [opP]
  case build t ps =>
    unfold buildP
    have hp : ∀ p ∈ ps.toList, ρ p.2 = ρ' p.2 := fun p hp => h p.2 (by simp only [List.mem_toArray, List.mem_map]; exact ⟨p, hp, rfl⟩)
    split
    · congr 1; funext q; congr 1; exact layParts_congr _ _ hp
    · congr 2; exact consParts_congr _ _ hp
    · rfl
  case buildSlice t n ps =>
    unfold buildSliceP
    have hp : ∀ p ∈ ps.toList, ρ p.2 = ρ' p.2 := fun p hp => h p.2 (by simp only [List.mem_toArray, List.mem_map]; exact ⟨p, hp, rfl⟩)
    split
    · congr 1; funext u; congr 2; exact consParts_congr _ _ hp
    · rfl
  case call c =>
    have hargs : c.args.toList.map ρ = c.args.toList.map ρ' := List.map_congr_left fun x hx => h x (by simp only [Call.operands, Array.mem_append]; right; simpa using hx)
    have hmem : ∀ x ∈ c.args.toList, ρ x = ρ' x := fun x hx => h x (by simp only [Call.operands, Array.mem_append]; right; simpa using hx)
    split
    · split
      · rename_i x t hx ht
        rw [hmem x (by rw [hx]; simp)]
      · rfl
    · split
      · rename_i s x t t' hx ht
        rw [hmem s (by rw [hx]; simp), hmem x (by rw [hx]; simp)]
      · rfl
    · split
      · rename_i x y hx
        rw [hmem x (by rw [hx]; simp), hmem y (by rw [hx]; simp)]
      · rfl
    · rw [hargs]
    · rfl
  case makeMap t r => cases r <;> rfl
  all_goals (first | rfl | (simp_all; done) | skip)

/-! ### Steps that may be swapped -/
theorem hits_no {a b : List Nat} (h : hits a b = false) : ∀ x ∈ a, x ∉ b := by
  intro x hx hb
  unfold hits at h
  rw [List.any_eq_false] at h
  exact h x hx (List.elem_iff.2 hb)

theorem setAll_point {k : Nat} : ∀ (us : Upds) {os os' : List Slot}, os[k]? = os'[k]? → (setAll os us)[k]? = (setAll os' us)[k]?
  | [], _, _, h => h
  | u :: us, os, os', h => by
    simp only [setAll]
    refine setAll_point us ?_
    have hl : k < os.length ↔ k < os'.length := by
      have h1 : os[k]? = none ↔ os'[k]? = none := by rw [h]
      rw [List.getElem?_eq_none_iff, List.getElem?_eq_none_iff] at h1
      omega
    by_cases hu : u.1 = k
    · rw [hu]
      by_cases hk : k < os.length
      · rw [List.getElem?_set_self hk, List.getElem?_set_self (hl.1 hk)]
      · rw [List.getElem?_eq_none (by simp; omega), List.getElem?_eq_none (by simp; omega)]
    · rw [List.getElem?_set_ne hu, List.getElem?_set_ne hu]; exact h

theorem setAll_not {k : Nat} {us : Upds} (h : k ∉ us.map (·.1)) (os : List Slot) : (setAll os us)[k]? = os[k]? :=
  setAll_other us (by
    rw [apart, List.all_eq_true]
    intro u hu
    simp only [Bool.not_eq_true']
    cases hb : Nat.beq u.1 k with
    | false => rfl
    | true => exact absurd (List.mem_map.2 ⟨u, hu, beq_of hb⟩) h) os

theorem setAll_comm {us vs : Upds} (h : ∀ x ∈ us.map (·.1), x ∉ vs.map (·.1)) (os : List Slot) : setAll (setAll os us) vs = setAll (setAll os vs) us := by
  apply List.ext_getElem?
  intro k
  by_cases hk : k ∈ us.map (·.1)
  · rw [setAll_not (h k hk), setAll_point us (setAll_not (h k hk) os)]
  · rw [setAll_point vs (setAll_not hk os), setAll_not hk]

section
variable {E : Env} {ops : Array Oper}

/-- How a step comes out. -/
theorem step1_form {i : Nat} {o : Oper} {fr : Nat} {st st' : St} {r : Rec} (h : step1 E ops i o fr st = some (st', r)) : ∃ res : Res, st' = st.app o.dst res ∧ r.writes = res.upds.map (·.1) ∧ r.no = i := by
  unfold step1 at h
  rw [Option.bind_eq_some_iff] at h
  obtain ⟨g, hg, h⟩ := h
  cases g with
  | false => cases h; exact ⟨⟨undefTV, []⟩, rfl, rfl, rfl⟩
  | true =>
    dsimp only at h
    split at h
    · rw [Option.map_eq_some_iff] at h
      obtain ⟨⟨res, rd⟩, h1, h2⟩ := h
      cases h2
      exact ⟨res, rfl, rfl, rfl⟩
    · cases h

theorem mem_frs : ∀ {n fr : Nat} {k : Nat}, k < n → fr + k ∈ frs fr n
  | 0, _, _, h => by omega
  | n + 1, fr, 0, _ => by simp [frs]
  | n + 1, fr, k + 1, h => by
    have := mem_frs (n := n) (fr := fr + 1) (k := k) (by omega)
    rw [show fr + (k + 1) = fr + 1 + k by omega]
    exact List.mem_cons_of_mem _ this

theorem deadAt_congr {os os' : List Slot} : ∀ {n fr : Nat}, (∀ k, k < n → os'[fr + k]? = os[fr + k]?) → deadAt os' fr n = deadAt os fr n
  | 0, _, _ => rfl
  | n + 1, fr, h => by
    have ih : deadAt os' (fr + 1) n = deadAt os (fr + 1) n := deadAt_congr (fun k hk => by
      rw [show fr + 1 + k = fr + (k + 1) by omega]; exact h (k + 1) (by omega))
    have h0 : os'[fr]? = os[fr]? := h 0 (by omega)
    simp only [deadAt]
    rw [h0, ih]

/-- A step sees what it looks at, no more. -/
theorem step1_congr {i : Nat} {o : Oper} {fr : Nat} {st st2 : St} {res : Res} {st' : St} {r : Rec} (h : step1 E ops i o fr st = some (st', r)) (ht : ∀ t ∈ o.looksAt ops, st2.tmps[t]? = st.tmps[t]?) (ho : ∀ k ∈ r.reads, st2.objs[k]? = st.objs[k]?) :
    ∃ res : Res, st' = st.app o.dst res ∧ step1 E ops i o fr st2 = some (st2.app o.dst res, r) ∧ r.writes = res.upds.map (·.1) := by
  have hgd : gd ops o st2 = gd ops o st := by
    unfold gd
    cases hg : o.guard with
    | none => rfl
    | some p =>
      obtain ⟨j, want⟩ := p
      dsimp only
      cases hd : (ops[j]?).bind (·.dst) with
      | none => rfl
      | some t =>
        dsimp only
        rw [ht t (by unfold Oper.looksAt; rw [hg]; simp [hd])]
  have hop : opP E (E.rows (o.dst.getD 0)) o st2.ev fr = opP E (E.rows (o.dst.getD 0)) o st.ev fr := by
    refine opP_congr (fun x hx => ?_)
    cases x with
    | tmp t =>
      simp only [St.ev]
      rw [ht t (by
        unfold Oper.looksAt
        exact List.mem_append_left _ (List.mem_filterMap.2 ⟨.tmp t, by simpa using hx, rfl⟩))]
    | _ => rfl
  unfold step1 at h ⊢
  rw [hgd, hop]
  rw [Option.bind_eq_some_iff] at h
  obtain ⟨g, hg, h⟩ := h
  rw [hg]
  cases g with
  | false =>
    cases h
    exact ⟨⟨undefTV, []⟩, rfl, rfl, rfl⟩
  | true =>
    dsimp only at h ⊢
    split at h
    · rename_i hdead
      rw [Option.map_eq_some_iff] at h
      obtain ⟨⟨res, rd⟩, h1, h2⟩ := h
      cases h2
      refine ⟨res, rfl, ?_, rfl⟩
      have e1 : deadAt st2.objs fr (need E o) = deadAt st.objs fr (need E o) := deadAt_congr (fun k hk => ho _ (List.mem_append_right _ (mem_frs hk)))
      have e2 : (opP E (E.rows (o.dst.getD 0)) o st.ev fr).run st2.look = some (res, rd) := Prog.run_congr _ h1 (fun k hk => ho k (List.mem_append_left _ (by simpa using hk)))
      simp only [Option.bind_some, e1, hdead, e2, Option.map_some]
    · cases h

/-- Two steps swapped. -/
theorem step_swap {i j : Nat} {oi oj : Oper} {fi fj : Nat} {st st1 st2 : St} {ri rj : Rec} (h1 : step1 E ops j oj fj st = some (st1, rj)) (h2 : step1 E ops i oi fi st1 = some (st2, ri))
    (w1 : hits rj.writes ri.reads = false) (w2 : hits ri.writes rj.reads = false) (w3 : hits rj.writes ri.writes = false) (hap : oj.apart ops oi = true) :
    ∃ st1', step1 E ops i oi fi st = some (st1', ri) ∧ step1 E ops j oj fj st1' = some (st2, rj) := by
  obtain ⟨a1, a2, a3⟩ := Oper.apart_spec hap
  obtain ⟨resj, rfl, e1, _⟩ := step1_form h1
  have tmp_ne : ∀ (s : St) (d : Option Tmp) (res : Res) (t : Tmp), d ≠ some t → (s.app d res).tmps[t]? = s.tmps[t]? := by
    intro s d res t hd
    cases d with
    | none => rfl
    | some d =>
      simp only [St.app, St.put]
      exact List.getElem?_set_ne (fun e => hd (by rw [e]))
  have obj_of : ∀ (s : St) (d : Option Tmp) (res : Res), (s.app d res).objs = setAll s.objs res.upds := by
    intro s d res; cases d <;> rfl
  obtain ⟨resi, rfl, e2, e3⟩ := step1_congr (st2 := st) (res := resj) h2 (fun t ht => (tmp_ne _ _ _ t (fun e => a1 t e ht)).symm) (fun k hk => by
    rw [obj_of]
    refine (setAll_not (fun hm => ?_) _).symm
    rw [← e1] at hm
    exact hits_no w1 k hm hk)
  refine ⟨_, e2, ?_⟩
  obtain ⟨resj', e4, e5, e6⟩ := step1_congr (st2 := st.app oi.dst resi) (res := resj) h1 (fun t ht => tmp_ne _ _ _ t (fun e => a3 t e ht)) (fun k hk => by
    rw [obj_of]
    refine setAll_not (fun hm => ?_) _
    rw [← e3] at hm
    exact hits_no w2 k hm hk)
  rw [e5]
  have hcm : ∀ (resj' : Res), rj.writes = resj'.upds.map (·.1) → (st.app oi.dst resi).app oj.dst resj' = (st.app oj.dst resj').app oi.dst resi := by
    intro resj' e6
    have ho : setAll (setAll st.objs resi.upds) resj'.upds = setAll (setAll st.objs resj'.upds) resi.upds := (setAll_comm (fun x hx => by rw [← e6] at hx; rw [← e3]; exact hits_no w3 x hx) _).symm
    cases hd : oi.dst with
    | none =>
      cases hd2 : oj.dst with
      | none => simp only [St.app, St.put, ho]
      | some d2 => simp only [St.app, St.put, ho]
    | some d =>
      cases hd2 : oj.dst with
      | none => simp only [St.app, St.put, ho]
      | some d2 =>
        have hne : d2 ≠ d := fun e => a2 d2 hd2 (by rw [hd, e])
        simp only [St.app, St.put, ho]
        rw [List.set_comm _ _ (Ne.symm hne)]
  rw [hcm resj' e6]
  congr 2
  rw [← e4]
end
end Go.Proofs.Yteblfhhhbfodgaa.Sim
/- Regions, in the given order and in any order. -/
set_option linter.unusedVariables false
set_option linter.unusedSimpArgs false
set_option linter.unusedSectionVars false
namespace Go.Proofs.Yteblfhhhbfodgaa.Sim
open Go Go.RowKit

/-- An operation, its number, where its new objects go. -/
abbrev Item1 := Nat × Oper × Nat
def items (E : Env) : Nat → Nat → List Oper → List Item1
  | _, _, [] => []
  | i, fr, o :: os => (i, o, fr) :: items E (i + 1) (fr + need E o) os

/-- Steps, one behind the other. -/
inductive Sq (E : Env) (ops : Array Oper) : List Item1 → St → List Rec → St → Prop
  | nil {st : St} : Sq E ops [] st [] st
  | cons {i : Nat} {o : Oper} {fr : Nat} {is : List Item1} {st st1 fin : St} {r : Rec} {rs : List Rec} : step1 E ops i o fr st = some (st1, r) → Sq E ops is st1 rs fin → Sq E ops ((i, o, fr) :: is) st (r :: rs) fin

theorem execOps_sq {R : Type} {E : Env} {ops : Array Oper} : ∀ (l : List Oper) (i fr : Nat) (st : St) (rs : List Rec) (K : St → List Rec → Option R) {x : R}, execOps E ops l i fr st rs K = some x → ∃ rs' fin, Sq E ops (items E i fr l) st rs' fin ∧ K fin (rs'.reverse ++ rs) = some x
  | [], _, _, st, rs, K, x, h => ⟨[], st, .nil, h⟩
  | o :: l, i, fr, st, rs, K, x, h => by
    simp only [execOps] at h
    rw [stepK_eq, Option.bind_eq_some_iff] at h
    obtain ⟨⟨st1, r⟩, h1, h2⟩ := h
    obtain ⟨rs', fin, h3, h4⟩ := execOps_sq l (i + 1) (fr + need E o) st1 (r :: rs) K h2
    exact ⟨r :: rs', fin, .cons h1 h3, by simpa using h4⟩

section
variable {E : Env} {ops : Array Oper}

/-- One of the steps first, where it doesn't meddle with those ahead of it. -/
theorem Sq.front {i : Nat} {o : Oper} {fr : Nat} : ∀ (pre : List Item1) {post : List Item1} {st fin : St} {rs : List Rec}, Sq E ops (pre ++ (i, o, fr) :: post) st rs fin → (∀ p ∈ pre, ops[p.1]? = some p.2.1) →
    (∀ p ∈ pre, ∀ x ∈ rs, ∀ y ∈ rs, x.no = p.1 → y.no = i → hits x.writes y.reads = false ∧ hits y.writes x.reads = false ∧ hits x.writes y.writes = false ∧ p.2.1.apart ops o = true) →
    ∃ st1 r rs', step1 E ops i o fr st = some (st1, r) ∧ Sq E ops (pre ++ post) st1 rs' fin ∧ (∀ x, x ∈ r :: rs' → x ∈ rs)
  | [], post, st, fin, rs, h, _, _ => by
    cases h with
    | cons h1 h2 => exact ⟨_, _, _, h1, h2, fun x hx => hx⟩
  | p :: pre, post, st, fin, rs, h, hp, hf => by
    obtain ⟨j, oj, fj⟩ := p
    cases h with
    | cons h1 h2 =>
      rename_i stA rj rs0
      obtain ⟨st2, r, rs', g1, g2, g3⟩ := Sq.front pre h2 (fun q hq => hp q (List.mem_cons_of_mem _ hq)) (fun q hq x hx y hy => hf q (List.mem_cons_of_mem _ hq) x (List.mem_cons_of_mem _ hx) y (List.mem_cons_of_mem _ hy))
      obtain ⟨_, _, _, n1⟩ := step1_form h1
      obtain ⟨_, _, _, n2⟩ := step1_form g1
      obtain ⟨k1, k2, k3, k4⟩ := hf (j, oj, fj) List.mem_cons_self rj List.mem_cons_self r (List.mem_cons_of_mem _ (g3 r List.mem_cons_self)) n1 n2
      obtain ⟨st1', e1, e2⟩ := step_swap h1 g1 k1 k2 k3 k4
      refine ⟨st1', r, rj :: rs', e1, .cons e2 g2, fun x hx => ?_⟩
      rcases List.mem_cons.1 hx with rfl | hx
      · exact List.mem_cons_of_mem _ (g3 x List.mem_cons_self)
      · rcases List.mem_cons.1 hx with rfl | hx
        · exact List.mem_cons_self
        · exact List.mem_cons_of_mem _ (g3 x (List.mem_cons_of_mem _ hx))

/-! ### What comes after what -/
theorem before_size (l : List Oper) : ∀ (acc : Array Nat), (l.foldl (fun acc o => acc.push (o.after.foldl (fun s e => if Region.binds .any e then s ||| 2 ^ e.on ||| acc.getD e.on 0 else s) 0)) acc).size = acc.size + l.length := by
  induction l with
  | nil => intro acc; rfl
  | cons o l ih => intro acc; simp only [List.foldl_cons]; rw [ih]; simp; omega

theorem edge_bits {acc : Array Nat} : ∀ (es : List Edge) (s j : Nat), (es.foldl (fun s e => if Region.binds .any e then s ||| 2 ^ e.on ||| acc.getD e.on 0 else s) s).testBit j = true → s.testBit j = true ∨ ∃ e ∈ es, Region.binds .any e = true ∧ (j = e.on ∨ (acc.getD e.on 0).testBit j = true)
  | [], s, j, h => .inl h
  | e :: es, s, j, h => by
    simp only [List.foldl_cons] at h
    rcases edge_bits es _ j h with h1 | ⟨e', h1, h2⟩
    · split at h1
      · rename_i hb
        rw [Nat.testBit_or, Nat.testBit_or, Bool.or_eq_true, Bool.or_eq_true] at h1
        rcases h1 with (h1 | h1) | h1
        · exact .inl h1
        · refine .inr ⟨e, List.mem_cons_self, hb, .inl ?_⟩
          rw [Nat.testBit_two_pow] at h1
          exact (of_decide_eq_true h1).symm
        · exact .inr ⟨e, List.mem_cons_self, hb, .inr h1⟩
      · exact .inl h1
    · exact .inr ⟨e', List.mem_cons_of_mem _ h1, h2⟩

/-- Closed: whatever is in it, has all that it comes after. -/
def Closed (ops : Array Oper) (L : Nat → Prop) : Prop := ∀ i o, L i → ops[i]? = some o → ∀ e ∈ o.after, Region.binds .any e = true → L e.on

theorem before_go (L : Nat → Prop) : ∀ (l : List Oper) (acc : Array Nat), (∀ (i : Nat) o, l[i]? = some o → L (acc.size + i) → ∀ e ∈ o.after, Region.binds .any e = true → L e.on) →
    (∀ i j, L i → i < acc.size → (acc.getD i 0).testBit j = true → L j) →
    ∀ i j, L i → ((l.foldl (fun acc o => acc.push (o.after.foldl (fun s e => if Region.binds .any e then s ||| 2 ^ e.on ||| acc.getD e.on 0 else s) 0)) acc).getD i 0).testBit j = true → L j
  | [], acc, _, ha, i, j, hi, h => by
    simp only [List.foldl_nil] at h
    by_cases hlt : i < acc.size
    · exact ha i j hi hlt h
    · rw [Array.getD_eq_getD_getElem?, Array.getElem?_eq_none (by omega)] at h
      simp at h
  | o :: l, acc, hl, ha, i, j, hi, h => by
    simp only [List.foldl_cons] at h
    refine before_go L l _ (fun i' o' ho' hL => hl (i' + 1) o' ho' (by simp only [Array.size_push] at hL; rw [show acc.size + (i' + 1) = acc.size + 1 + i' by omega]; exact hL)) (fun i' j' hi' hlt hb => ?_) i j hi h
    simp only [Array.size_push] at hlt
    by_cases heq : i' = acc.size
    · subst heq
      rw [Array.getD_eq_getD_getElem?, Array.getElem?_push_size] at hb
      simp only [Option.getD_some] at hb
      rw [← Array.foldl_toList] at hb
      rcases edge_bits _ _ _ hb with hb | ⟨e, he, hbd, hb⟩
      · simp at hb
      · have hLe : L e.on := hl 0 o rfl (by simpa using hi') e (by simpa using he) hbd
        rcases hb with rfl | hb
        · exact hLe
        · by_cases hlt2 : e.on < acc.size
          · exact ha _ _ hLe hlt2 hb
          · rw [Array.getD_eq_getD_getElem?, Array.getElem?_eq_none (by omega)] at hb
            simp at hb
    · refine ha i' j' hi' (by omega) ?_
      rw [Array.getD_eq_getD_getElem?, Array.getElem?_push_lt (by omega)] at hb
      rw [Array.getD_eq_getD_getElem?, Array.getElem?_eq_getElem (by omega)]
      exact hb

theorem before_ok {L : Nat → Prop} (hL : Closed ops L) {i j : Nat} (hi : L i) (h : ((Region.before ops).getD i 0).testBit j = true) : L j := by
  unfold Region.before at h
  rw [← Array.foldl_toList] at h
  exact before_go L ops.toList #[] (fun i o ho hLi e he hb => hL i o (by simpa using hLi) (by simpa using ho) e he hb) (fun i j _ hlt _ => by simp at hlt) i j hi h
end
end Go.Proofs.Yteblfhhhbfodgaa.Sim
/- Regions. -/
set_option linter.unusedVariables false
set_option linter.unusedSimpArgs false
set_option linter.unusedSectionVars false
namespace Go.Proofs.Yteblfhhhbfodgaa.Sim
open Go Go.RowKit

theorem items_length {E : Env} : ∀ (l : List Oper) (i fr : Nat), (items E i fr l).length = l.length
  | [], _, _ => rfl
  | o :: l, i, fr => by simp [items, items_length l]
theorem items_mem {E : Env} : ∀ (l : List Oper) (i fr : Nat) (p : Item1), p ∈ items E i fr l → ∃ k, l[k]? = some p.2.1 ∧ p.1 = i + k
  | [], _, _, p, h => by simp [items] at h
  | o :: l, i, fr, p, h => by
    simp only [items, List.mem_cons] at h
    rcases h with rfl | h
    · exact ⟨0, rfl, rfl⟩
    · obtain ⟨k, h1, h2⟩ := items_mem l _ _ p h
      exact ⟨k + 1, h1, by omega⟩
theorem items_has {E : Env} : ∀ (l : List Oper) (i fr k : Nat), k < l.length → ∃ p ∈ items E i fr l, p.1 = i + k
  | [], _, _, k, h => by simp at h
  | o :: l, i, fr, 0, h => ⟨(i, o, fr), by simp [items], rfl⟩
  | o :: l, i, fr, k + 1, h => by
    obtain ⟨p, h1, h2⟩ := items_has (E := E) l (i + 1) (fr + need E o) k (by simpa using h)
    exact ⟨p, by simp [items, h1], by omega⟩
theorem items_sorted {E : Env} : ∀ (l : List Oper) (i fr : Nat), (items E i fr l).Pairwise (fun p q => p.1 < q.1)
  | [], _, _ => List.Pairwise.nil
  | o :: l, i, fr => by
    simp only [items]
    refine List.Pairwise.cons (fun q hq => ?_) (items_sorted l _ _)
    obtain ⟨k, _, h2⟩ := items_mem l _ _ q hq
    simp only
    omega

theorem inOrder_ok : ∀ (l : List Oper) (i : Nat), inOrder l i = true → ∀ k o, l[k]? = some o → ∀ e ∈ o.after, Region.binds .any e = true → e.on < i + k
  | [], _, _, k, o, h, _, _, _ => by simp at h
  | o' :: l, i, h, k, o, hk, e, he, hb => by
    simp only [inOrder, Bool.and_eq_true, List.all_eq_true] at h
    cases k with
    | zero =>
      cases hk
      have := h.1 e (by simpa using he)
      rw [hb] at this
      simp only [Bool.not_true, Bool.false_or] at this
      exact blt_true this
    | succ k =>
      have := inOrder_ok l (i + 1) h.2 k o hk e he hb
      omega

section
variable {X : Ctx} {P : Program} {E : Env} (hT : TabOk P E) (hF : AllHold P E)
include hT hF

/-- In the given order. -/
theorem ops_ok {ops : Array Oper} {Q : Exit → Act → World → Prop} {fin : St} (hQ : ∀ a w, Rel X fin a w → Q .normal a w) : ∀ (l : List Oper) (i fr : Nat) {st : St} {a : Act} {w : World} {rs : List Rec}, (∀ (k : Nat) o, l[k]? = some o → ops[i + k]? = some o) → Sq E ops (items E i fr l) st rs fin → Rel X st a w → wpOps P ops Q (List.range' i l.length) a w
  | [], i, fr, st, a, w, rs, _, h, hR => by
    cases h
    exact hQ _ _ hR
  | o :: l, i, fr, st, a, w, rs, hl, h, hR => by
    simp only [items] at h
    cases h with
    | cons h1 h2 =>
      simp only [List.length_cons, List.range'_succ]
      rw [wpOps_cons]
      exact step_ok hT hF hR (hl 0 o rfl) h1 (fun a' w' hR' => ops_ok hQ l (i + 1) _ (fun k o' hk => by have := hl (k + 1) o' hk; rw [show i + (k + 1) = i + 1 + k by omega] at this; exact this) h2 hR')

theorem any_ok {ops : Array Oper} {Q : Exit → Act → World → Prop} {fin : St} (hQ : ∀ a w, Rel X fin a w → Q .normal a w) {R : List Rec} (hR0 : allFree ops R = true) : ∀ (n : Nat) (rem : List Item1) (listed : Array Bool) {st : St} {a : Act} {w : World} {rs : List Rec}, rem.length = n →
    (∀ p ∈ rem, ops[p.1]? = some p.2.1) → (∀ i, listed.getD i true = false ↔ ∃ p ∈ rem, p.1 = i) → rem.Pairwise (fun p q => p.1 < q.1) → listed.size = ops.size →
    (∀ i o, listed.getD i false = true → ops[i]? = some o → ∀ e ∈ o.after, Region.binds .any e = true → listed.getD e.on false = true) → (∀ x ∈ rs, x ∈ R) →
    Sq E ops rem st rs fin → Rel X st a w → wpAny P .any ops Q n listed a w := by
  unfold allFree at hR0
  simp only [Bool.and_eq_true] at hR0
  obtain ⟨⟨ho, _⟩, hfree⟩ := hR0
  have hord : ∀ (i : Nat) o, ops[i]? = some o → ∀ e ∈ o.after, Region.binds .any e = true → e.on < i := fun i o hi e he hb => by
    have := inOrder_ok ops.toList 0 ho i o (by simpa using hi) e he hb; omega
  have hfr : ∀ x ∈ R, ∀ y ∈ R, free ops (Region.before ops) x y = true := by
    intro x hx y hy
    rw [List.all_eq_true] at hfree
    have := hfree x hx
    rw [List.all_eq_true] at this
    exact this y hy
  intro n
  induction n with
  | zero =>
    intro rem listed st a w rs hn hit hmem hsort hsz hcl hrs hsq hR
    have : rem = [] := List.eq_nil_of_length_eq_zero hn
    subst this
    cases hsq
    refine ⟨?_, hQ _ _ hR⟩
    cases hr : Region.ready .any ops listed with
    | nil => rfl
    | cons j js =>
      have hj : j ∈ Region.ready .any ops listed := by rw [hr]; exact List.mem_cons_self
      obtain ⟨p, hp, _⟩ := (hmem j).1 (mem_ready.1 hj).1
      cases hp
  | succ n ih =>
    intro rem listed st a w rs hn hit hmem hsort hsz hcl hrs hsq hR
    have hlist : ∀ k, k < ops.size → (¬ ∃ p ∈ rem, p.1 = k) → listed.getD k false = true := by
      intro k hk hnp
      have h1 : listed.getD k true ≠ false := fun h => hnp ((hmem k).1 h)
      have hk' : k < listed.size := by omega
      rw [Array.getD_eq_getD_getElem?, Array.getElem?_eq_getElem hk'] at h1 ⊢
      simp only [Option.getD_some] at h1 ⊢
      cases hb : listed[k] with
      | true => rfl
      | false => rw [hb] at h1; exact absurd rfl h1
    refine ⟨fun hnil => ?_, fun i hi => ?_⟩
    · -- something is ready
      exfalso
      cases rem with
      | nil => simp at hn
      | cons p0 rem' =>
        have hp0 := hit p0 List.mem_cons_self
        have : p0.1 ∈ Region.ready .any ops listed := by
          rw [mem_ready]
          refine ⟨(hmem p0.1).2 ⟨p0, List.mem_cons_self, rfl⟩, p0.2.1, hp0, fun e he hb => ?_⟩
          have hlt := hord _ _ hp0 e he hb
          have hsz0 : p0.1 < ops.size := (Array.getElem?_eq_some_iff.1 hp0).1
          refine hlist e.on (by omega) ?_
          rintro ⟨q, hq, hqe⟩
          rcases List.mem_cons.1 hq with rfl | hq
          · omega
          · have := (List.pairwise_cons.1 hsort).1 q hq; omega
        rw [hnil] at this
        cases this
    · obtain ⟨hunl, o, hio, hedges⟩ := mem_ready.1 hi
      obtain ⟨p, hp, hpi⟩ := (hmem i).1 hunl
      obtain ⟨pre, post, rfl⟩ := List.append_of_mem hp
      obtain ⟨i', o', fr⟩ := p
      have hii : i' = i := hpi
      subst hii
      have hoo : o' = o := by
        have := hit _ hp
        rw [hio] at this
        exact (Option.some.inj this).symm
      subst hoo
      rw [List.pairwise_append] at hsort
      obtain ⟨hs1, hs2, hs3⟩ := hsort
      rw [List.pairwise_cons] at hs2
      have hclosed : Closed ops (fun k => listed.getD k false = true ∨ k = i') := by
        intro k o'' hk hok e he hb
        rcases hk with hk | rfl
        · exact .inl (hcl k o'' hk hok e he hb)
        · rw [hio] at hok; cases hok; exact .inl (hedges e he hb)
      obtain ⟨st1, r, rs', g1, g2, g3⟩ := Sq.front pre hsq (fun q hq => hit q (List.mem_append_left _ hq)) (fun q hq x hx y hy hxn hyn => by
        have hlt : q.1 < i' := hs3 q hq (i', o', fr) List.mem_cons_self
        have hf := hfr x (hrs x hx) y (hrs y hy)
        unfold free at hf
        rw [hxn, hyn] at hf
        simp only [Bool.or_eq_true] at hf
        rcases hf with (hf | hf) | hf
        · exact absurd (Nat.le_of_ble_eq_true hf) (by omega)
        · exfalso
          rcases before_ok hclosed (i := i') (j := q.1) (.inr rfl) hf with h | h
          · have hq2 := (hmem q.1).2 ⟨q, List.mem_append_left _ hq, rfl⟩
            have hq3 : q.1 < ops.size := (Array.getElem?_eq_some_iff.1 (hit q (List.mem_append_left _ hq))).1
            have hk' : q.1 < listed.size := by omega
            rw [Array.getD_eq_getD_getElem?, Array.getElem?_eq_getElem hk'] at h hq2
            simp only [Option.getD_some] at h hq2
            rw [h] at hq2; cases hq2
          · omega
        · rw [hit q (List.mem_append_left _ hq), hio] at hf
          simp only [Bool.and_eq_true, Bool.not_eq_true'] at hf
          exact ⟨hf.1.1.1, hf.1.1.2, hf.1.2, hf.2⟩)
      refine step_ok hT hF hR hio g1 (fun a' w' hR' => ih (pre ++ post) _ ?_ ?_ ?_ ?_ ?_ ?_ ?_ g2 hR')
      · simp only [List.length_append, List.length_cons] at hn ⊢; omega
      · intro q hq
        refine hit q ?_
        rcases List.mem_append.1 hq with hq | hq
        · exact List.mem_append_left _ hq
        · exact List.mem_append_right _ (List.mem_cons_of_mem _ hq)
      · intro k
        by_cases hk : i' = k
        · subst hk
          have hi1 : i' < listed.size := by rw [hsz]; exact (Array.getElem?_eq_some_iff.1 hio).1
          constructor
          · intro h
            rw [Array.getD_eq_getD_getElem?, Array.getElem?_setIfInBounds_self_of_lt hi1] at h
            simp at h
          · rintro ⟨q, hq, hqi⟩
            rcases List.mem_append.1 hq with hq | hq
            · have := hs3 q hq (i', o', fr) List.mem_cons_self; simp only at this; omega
            · have := hs2.1 q hq; simp only at this; omega
        · rw [getD_set_ne true hk, hmem k]
          constructor
          · rintro ⟨q, hq, hqk⟩
            refine ⟨q, ?_, hqk⟩
            rcases List.mem_append.1 hq with hq | hq
            · exact List.mem_append_left _ hq
            · rcases List.mem_cons.1 hq with rfl | hq
              · exact absurd hqk hk
              · exact List.mem_append_right _ hq
          · rintro ⟨q, hq, hqk⟩
            refine ⟨q, ?_, hqk⟩
            rcases List.mem_append.1 hq with hq | hq
            · exact List.mem_append_left _ hq
            · exact List.mem_append_right _ (List.mem_cons_of_mem _ hq)
      · rw [List.pairwise_append]
        exact ⟨hs1, hs2.2, fun x hx y hy => hs3 x hx y (List.mem_cons_of_mem _ hy)⟩
      · simpa using hsz
      · intro k o'' hk hok e he hb
        by_cases hki : i' = k
        · subst hki
          rw [hio] at hok; cases hok
          exact getD_set_true (hedges e he hb)
        · rw [getD_set_ne false hki] at hk
          exact getD_set_true (hcl k o'' hk hok e he hb)
      · exact fun x hx => hrs x (g3 x (List.mem_cons_of_mem _ hx))
end
end Go.Proofs.Yteblfhhhbfodgaa.Sim
