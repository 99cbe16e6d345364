/- Blocks that are no rows (maps that the call itself has made), as lists: what the machine does with them. -/
import Derived.Test.YtimepajbnongoaaWApart
import Derived.Test.YtimepajbnongoaaWArr
import Derived.Test.YtimepajbnongoaaWAt
import Derived.Test.YtimepajbnongoaaWEqStruct
import Derived.Test.YtimepajbnongoaaWFoot
import Derived.Test.YtimepajbnongoaaWFootNe
import Derived.Test.YtimepajbnongoaaWFour
import Derived.Test.YtimepajbnongoaaWGuard
import Derived.Test.YtimepajbnongoaaWInv
import Derived.Test.YtimepajbnongoaaWInvWords
import Derived.Test.YtimepajbnongoaaWKept
import Derived.Test.YtimepajbnongoaaWLast
import Derived.Test.YtimepajbnongoaaWMore
import Derived.Test.YtimepajbnongoaaWN
import Derived.Test.YtimepajbnongoaaWNEv
import Derived.Test.YtimepajbnongoaaWQPut
import Derived.Test.YtimepajbnongoaaWRepsOne
import Derived.Test.YtimepajbnongoaaWShare
import Derived.Test.YtimepajbnongoaaWSized
import Derived.Test.YtimepajbnongoaaWTab
import Derived.Test.YtimepajbnongoaaWWords
import Derived.Test.YtimepajbnongoaaWZeros
import Derived.Maps.OwnSet
import Derived.Lib.OthersKept
namespace Go.Proofs.YtimepajbnongoaaW.PrintMore
open Go Go.RowKit Go.Proofs.YtimepajbnongoaaW.PrintWords Go.Proofs.YtimepajbnongoaaW.PrintLast
/-! ### Blocks that are no rows: what is told of a row apart from them. -/
section
variable {α : Type} {d : Kd α} {e : Nat} {w w1 W : World} {base g : Nat} {ok : Nat → Prop} {v : Value} {xs : List α} {o : Obj}
theorem blk_farO {p : Addr} (h : w.heap[g]? = some o) (hp : g ≠ p.block) (u : Value) : (w.setCell p u).heap[g]? = some o := (Below.heap_setCell w p u g hp).trans h
/-- No cells. -/
def NoCells (o : Obj) : Prop := ∀ cells t, o ≠ .cells cells t (0, 0)
theorem R_typesO (h : Kd.R d e w base ok v xs) (hb : w.heap[g]? = some o) (ho : NoCells o) : Kd.R d e w base (fun k => ok k ∧ k ≠ g) v xs :=
  Kd.R_mono (Kd.R_bound h) (fun k hk => ⟨hk.1, by
    obtain ⟨_, _, _, q, hq, cells', hc⟩ := hk
    rintro rfl
    rw [hc] at hb
    exact ho _ _ (Option.some.inj hb).symm⟩)
theorem Q_typesO (h : Kd.Q d e w base ok v xs) (hb : w.heap[g]? = some o) (ho : NoCells o) : Kd.Q d e w base (fun k => ok k ∧ k ≠ g) v xs :=
  Kd.Q_mono (Kd.Q_bound h) (fun k hk => ⟨hk.1, by
    obtain ⟨_, _, _, q, hq, cells', hc⟩ := hk
    rintro rfl
    rw [hc] at hb
    exact ho _ _ (Option.some.inj hb).symm⟩)
theorem S_typesO (h : Kd.S d e w base ok v xs) (hb : w.heap[g]? = some o) (ho : NoCells o) : Kd.S d e w base (fun k => ok k ∧ k ≠ g) v xs := by
  obtain ⟨f, h⟩ := h
  exact ⟨f, R_typesO h hb ho⟩
theorem R_neO (h : Kd.R d e w base ok v xs) (hb : w.heap[g]? = some o) (ho : NoCells o) : some g ≠ v.ownBlock := fun he => by
  obtain ⟨cells, hc⟩ := Kd.R_typed h g he.symm
  rw [hc] at hb
  exact ho _ _ (Option.some.inj hb).symm
theorem Q_neO (h : Kd.Q d e w base ok v xs) (hb : w.heap[g]? = some o) (ho : NoCells o) : some g ≠ v.ownBlock := fun he => by
  obtain ⟨cells, hc⟩ := Kd.Q_typed h g he.symm
  rw [hc] at hb
  exact ho _ _ (Option.some.inj hb).symm
theorem S_neO (h : Kd.S d e w base ok v xs) (hb : w.heap[g]? = some o) (ho : NoCells o) : some g ≠ v.ownBlock := R_neO (Kd.S_R h) hb ho
theorem N_neO (h : Kd.N d e w base ok v xs) (hb : w.heap[g]? = some o) (ho : NoCells o) : some g ≠ v.ownBlock := fun he => by
  obtain ⟨cells, hc⟩ := Kd.N_typed h g he.symm
  rw [hc] at hb
  exact ho _ _ (Option.some.inj hb).symm
theorem R_overO (h : Kd.R d e w base ok v xs) (hb : w.heap[g]? = some o) (ho : NoCells o) (hg : w.grownBy w1 (some g)) : Kd.R d e w1 base ok v xs :=
  Kd.R_mono (Kd.R_grown (R_typesO h hb ho) hg (fun _ hk he => hk.2 (Option.some.inj he))) (fun _ hk => hk.1)
theorem Q_overO (h : Kd.Q d e w base ok v xs) (hb : w.heap[g]? = some o) (ho : NoCells o) (hg : w.grownBy w1 (some g)) : Kd.Q d e w1 base ok v xs :=
  Kd.Q_mono (Kd.Q_grown (Q_typesO h hb ho) hg (fun _ hk he => hk.2 (Option.some.inj he))) (fun _ hk => hk.1)
theorem S_overO (h : Kd.S d e w base ok v xs) (hb : w.heap[g]? = some o) (ho : NoCells o) (hg : w.grownBy w1 (some g)) : Kd.S d e w1 base ok v xs := by
  obtain ⟨f, h⟩ := h
  exact ⟨f, R_overO h hb ho hg⟩
theorem below_grown (hb : Below base w W) (hle : base ≤ g) (hbk : W.heap[g]? = some o) (hg : W.grownBy w1 (some g)) : Below base w w1 :=
  ⟨hg.os.trans hb.os, hg.tape.trans hb.tape, hg.output.trans hb.output, Nat.le_trans hb.size hg.size, fun k hk => (hg.block k (by have := blk_lt hbk; omega) (fun e => by have := Option.some.inj e; omega)).trans (hb.block k hk)⟩
end
/-! ### Maps that the call itself has made: entries in the order of their coming. -/
section
variable {K V : Type}
def entsM (ke : K → Value) (ve : V → Value) : Nat → List (K × V) → List MapEntry
  | _, [] => []
  | b, p :: l => { key := ke p.1, val := ve p.2, born := b } :: entsM ke ve (b + 1) l
/-- The block of a map. -/
def mobj (ke : K → Value) (ve : V → Value) (l : List (K × V)) : Obj := .map (entsM ke ve 0 l).toArray l.length
theorem mobj_no (ke : K → Value) (ve : V → Value) (l : List (K × V)) : NoCells (mobj ke ve l) := fun _ _ h => by simp [mobj] at h
/-- What stands under a key. -/
def mget [DecidableEq K] : List (K × V) → K → Option V
  | [], _ => none
  | p :: l, k => if k = p.1 then some p.2 else mget l k
def mgetD [DecidableEq K] (l : List (K × V)) (k : K) (z : V) : V := (mget l k).getD z
def mhas [DecidableEq K] (l : List (K × V)) (k : K) : Bool := (mget l k).isSome
/-- A key laid. -/
def mput [DecidableEq K] : List (K × V) → K → V → List (K × V)
  | [], k, v => [(k, v)]
  | p :: l, k, v => if k = p.1 then (k, v) :: l else p :: mput l k v
/-- Where a key stands. -/
def mpos [DecidableEq K] : List (K × V) → K → Nat → Option (Nat × V)
  | [], _, _ => none
  | p :: l, k, i => if k = p.1 then some (i, p.2) else mpos l k (i + 1)
theorem mpos_get [DecidableEq K] (l : List (K × V)) (k : K) : ∀ i, (mpos l k i).map (·.2) = mget l k := by
  induction l with
  | nil => intro i; rfl
  | cons p l ih =>
    intro i
    unfold mpos mget
    split
    · rfl
    · exact ih (i + 1)
/-- Keys of a kind: what the machine does with them. -/
structure KeyOk (P : Program) (kt : TypeId) [DecidableEq K] (ke : K → Value) : Prop where
  check : ∀ (b : Bool) (k : K) (w : World), (Instr.checkKey b 10000 kt (ke k)).run P w = .ok () w
  find : ∀ (k : K) (b : Nat) (l : List (K × Value)) (w : World), (Instr.findKey kt (ke k) (entsM ke id b l)).run P w = .ok (mpos l k 0) w
  stays : ∀ (k : K) (w : World), (Instr.keyThatStays (ke k) (ke k)).run P w = .ok (ke k) w
theorem int_find (q : IntKind) (k : Int) : ∀ (l : List (Int × Value)) (b i : Nat), Instr.findNow (.int q) (.int q k) (entsM (Value.int q) id b l) i = some (mpos l k i)
  | [], _, _ => rfl
  | p :: l, b, i => by
    have ih := int_find q k l (b + 1) (i + 1)
    simp only [entsM, Instr.findNow, Instr.sameNow, if_true, mpos]
    by_cases h : k = p.1
    · rw [if_pos h, h]; simp
    · rw [if_neg h, show (k == p.1) = false from beq_eq_false_iff_ne.2 h]; exact ih
theorem KeyOk.int {P : Program} {kt : TypeId} {q : IntKind} (hk : P.underlying kt = some (.int q)) : KeyOk P kt (Value.int q) := by
  refine ⟨fun b k w => ?_, fun k b l w => ?_, fun k w => ?_⟩
  · exact MapKept.run_checkKey (k := Value.int q k) hk (by simp [MapKept.IsKey]) b 9999
  · simp [Instr.findKey, run_underlying hk, int_find]
  · exact MapKept.run_keyThatStays (d := .int q) (by simp [MapKept.IsKey])
theorem bytes_iff (x y : ByteArray) : (x.toList == y.toList) = true ↔ x = y := by
  rw [beq_iff_eq, ByteArray.toList_eq, ByteArray.toList_eq]
  exact ⟨fun h => ByteArray.ext (Array.toList_inj.mp h), fun h => by rw [h]⟩
theorem bytes_false {x y : ByteArray} (h : x ≠ y) : (x.toList == y.toList) = false := by
  rw [← Bool.not_eq_true, bytes_iff]; exact h
theorem string_find (k : ByteArray) : ∀ (l : List (ByteArray × Value)) (b i : Nat), Instr.findNow .string (.string k) (entsM Value.string id b l) i = some (mpos l k i)
  | [], _, _ => rfl
  | p :: l, b, i => by
    have ih := string_find k l (b + 1) (i + 1)
    simp only [entsM, Instr.findNow, Instr.sameNow, mpos]
    by_cases h : k = p.1
    · rw [if_pos h, show (k == p.1) = true by rw [beq_toListBytes]; exact (bytes_iff _ _).2 h]; rfl
    · rw [if_neg h, show (k == p.1) = false from by rw [beq_toListBytes]; exact bytes_false h]; exact ih
theorem KeyOk.string {P : Program} {kt : TypeId} (hk : P.underlying kt = some .string) : KeyOk P kt Value.string := by
  refine ⟨fun b k w => ?_, fun k b l w => ?_, fun k w => ?_⟩
  · exact MapKept.run_checkKey (k := Value.string k) hk (by simp [MapKept.IsKey]) b 9999
  · simp [Instr.findKey, run_underlying hk, string_find]
  · exact MapKept.run_keyThatStays (d := .string) (by simp [MapKept.IsKey])
section
variable [DecidableEq K] {P : Program} {kt et mt : TypeId} {ke : K → Value} {ve : V → Value} {w : World} {g : Nat} {l : List (K × V)} {z : V}
omit [DecidableEq K] in
theorem entsM_map (l : List (K × V)) : ∀ b, entsM ke ve b l = entsM ke id b (l.map (fun p => (p.1, ve p.2))) := by
  induction l with
  | nil => intro b; rfl
  | cons p l ih => intro b; simp only [entsM, List.map_cons, id, ih (b + 1)]
theorem mpos_map (l : List (K × V)) (k : K) : ∀ i, mpos (l.map (fun p => (p.1, ve p.2))) k i = (mpos l k i).map (fun q => (q.1, ve q.2)) := by
  induction l with
  | nil => intro i; rfl
  | cons p l ih =>
    intro i
    simp only [List.map_cons, mpos]
    split
    · rfl
    · exact ih (i + 1)
theorem KeyOk.find' (O : KeyOk P kt ke) (k : K) (l : List (K × V)) (b : Nat) (w : World) : (Instr.findKey kt (ke k) (entsM ke ve b l)).run P w = .ok ((mpos l k 0).map (fun q => (q.1, ve q.2))) w := by
  rw [entsM_map, O.find, mpos_map]
theorem look_run (O : KeyOk P kt ke) (ht : P.underlying mt = some (.map kt et)) (hz : (zeroValue et).run P w = .ok (ve z) w) (hb : w.heap[g]? = some (mobj ke ve l)) (k : K) (c : Bool) :
    (Instr.lookup mt (.map (some g)) (ke k) c).run P w = .ok (if c then .tuple #[ve (mgetD l k z), .bool (mhas l k)] else ve (mgetD l k z)) w := by
  have hf := O.find' (ve := ve) k l 0 w
  have e : mget l k = (mpos l k 0).map (·.2) := (mpos_get l k 0).symm
  unfold mgetD mhas
  rw [e]
  cases hp : mpos l k 0 with
  | none => rw [hp] at hf; simp [Instr.lookup, run_underlying ht, MapKept.run_getObj_map hb, O.check, hf, hz, Result.andThen]
  | some q => rw [hp] at hf; simp [Instr.lookup, run_underlying ht, MapKept.run_getObj_map hb, O.check, hf, Result.andThen]
omit [DecidableEq K] in
theorem entsM_length (l : List (K × V)) : ∀ b, (entsM ke ve b l).length = l.length := by
  induction l with
  | nil => intro b; rfl
  | cons p l ih => intro b; simp only [entsM, List.length_cons, ih (b + 1)]
omit [DecidableEq K] in
theorem entsM_append (l m : List (K × V)) : ∀ b, entsM ke ve b (l ++ m) = entsM ke ve b l ++ entsM ke ve (b + l.length) m := by
  induction l with
  | nil => intro b; simp [entsM]
  | cons p l ih => intro b; simp only [entsM, List.cons_append, ih (b + 1), List.length_cons]; rw [show b + 1 + l.length = b + (l.length + 1) by omega]
theorem mput_none {l : List (K × V)} {k : K} {v : V} : ∀ {i : Nat}, mpos l k i = none → mput l k v = l ++ [(k, v)] := by
  induction l with
  | nil => intro i _; rfl
  | cons p l ih =>
    intro i h
    unfold mpos at h
    split at h
    · cases h
    · rename_i hk
      unfold mput
      rw [if_neg hk, ih h]; rfl
theorem mput_some {l : List (K × V)} {k : K} {v u : V} : ∀ {i j : Nat}, mpos l k i = some (j, u) → ∃ n, j = i + n ∧ n < l.length ∧ (∃ h : n < l.length, l[n].1 = k) ∧ mput l k v = l.set n (k, v) := by
  induction l with
  | nil => intro i j h; simp [mpos] at h
  | cons p l ih =>
    intro i j h
    unfold mpos at h
    split at h
    · rename_i hk
      injection h with h
      injection h with h1 h2
      refine ⟨0, by omega, by simp, ⟨by simp, by simp [hk]⟩, ?_⟩
      unfold mput
      rw [if_pos hk]; rfl
    · rename_i hk
      obtain ⟨n, h1, h2, ⟨h3, h4⟩, h5⟩ := ih h
      refine ⟨n + 1, by omega, by simp; omega, ⟨by simp; omega, by simpa using h4⟩, ?_⟩
      unfold mput
      rw [if_neg hk, h5]; rfl
omit [DecidableEq K] in
theorem entsM_set (l : List (K × V)) (k : K) (v : V) : ∀ (n b : Nat) (h : n < l.length), (l[n]).1 = k → (entsM ke ve b l).modify n (fun e => { e with key := ke k, val := ve v }) = entsM ke ve b (l.set n (k, v)) := by
  induction l with
  | nil => intro n b h _; simp at h
  | cons p l ih =>
    intro n b h hk
    cases n with
    | zero => simp [entsM]
    | succ n => simp only [entsM, List.modify_succ_cons, List.set_cons_succ]; rw [ih n (b + 1) (by simpa using h) (by simpa using hk)]
omit [DecidableEq K] in
theorem entsM_key {l : List (K × V)} : ∀ {n b : Nat} (h : n < l.length), ((entsM ke ve b l)[n]?).map (·.key) = some (ke l[n].1) := by
  induction l with
  | nil => intro n b h; simp at h
  | cons p l ih =>
    intro n b h
    cases n with
    | zero => simp [entsM]
    | succ n => simpa [entsM] using ih (n := n) (b := b + 1) (by simpa using h)
omit [DecidableEq K] in
theorem mobj_push (l : List (K × V)) (k : K) (v : V) : mobj ke ve (l ++ [(k, v)]) = .map ((entsM ke ve 0 l).toArray.push { key := ke k, val := ve v, born := l.length }) (l.length + 1) := by
  unfold mobj
  rw [entsM_append, List.length_append]
  simp [entsM]
omit [DecidableEq K] in
theorem mobj_set (l : List (K × V)) (k : K) (v : V) {n : Nat} (h : n < l.length) (hk : l[n].1 = k) : mobj ke ve (l.set n (k, v)) = .map ((entsM ke ve 0 l).toArray.modify n (fun e => { e with key := ke k, val := ve v })) l.length := by
  unfold mobj
  rw [← entsM_set l k v n 0 h hk, List.length_set]
  simp
theorem put_run (O : KeyOk P kt ke) (ht : P.underlying mt = some (.map kt et)) (hb : w.heap[g]? = some (mobj ke ve l)) (k : K) (v : V) :
    ∃ w', (Instr.mapUpdate mt (.map (some g)) (ke k) (ve v)).run P w = .ok () w' ∧ w'.heap[g]? = some (mobj ke ve (mput l k v)) ∧ w.grownBy w' (some g) := by
  have hf := O.find' (ve := ve) k l 0 w
  have hr : (Instr.mapUpdate mt (.map (some g)) (ke k) (ve v)).run P w = .ok () (ChangeMaps.setBlock w g (mobj ke ve (mput l k v))) := by
    cases hp : mpos l k 0 with
    | none =>
      rw [hp] at hf
      rw [mput_none hp, mobj_push]
      simp [Instr.mapUpdate, run_underlying ht, MapKept.run_getObj_map hb, O.check, hf, MapKept.run_setObj_map _ hb, Result.andThen, ChangeMaps.setBlock]
    | some q =>
      obtain ⟨j, u⟩ := q
      rw [hp] at hf
      obtain ⟨n, h1, h2, ⟨h3, h4⟩, h5⟩ := mput_some (v := v) hp
      obtain rfl : j = n := by omega
      have hk := entsM_key (ke := ke) (ve := ve) (b := 0) h3
      rw [h5, mobj_set l k v h3 h4]
      rw [h4] at hk
      simp [Instr.mapUpdate, run_underlying ht, MapKept.run_getObj_map hb, O.check, hf, MapKept.run_setObj_map _ hb, Result.andThen, O.stays, hk, ChangeMaps.setBlock]
  exact ⟨_, hr, ChangeMaps.heap_setBlock_same hb _, ⟨rfl, rfl, rfl, by simp [ChangeMaps.setBlock], fun i _ hi => ChangeMaps.heap_setBlock_other hb _ (fun e => hi (by rw [e]))⟩⟩
end
end
/-! #### Events -/
section
variable {K V : Type} [DecidableEq K] {P : Program} {ops : Array Oper} {rest : List Oper} {o : Oper} {a : Act} {Q : Exit → Act → World → Prop} {kt et mt : TypeId} {ke : K → Value} {ve : V → Value} {W : World} {g : Nat} {l : List (K × V)} {z : V}
omit [DecidableEq K] in
theorem map_event (hgd : o.guard = none) {N : Tmp} (_hd : o.dst = some N) (t : TypeId) (ho : o.op = .makeMap t none) (ke : K → Value) (ve : V → Value)
    (h : ∀ g, g = W.heap.size → ∀ w1, w1.heap[g]? = some (mobj ke ve []) → Below W.heap.size W w1 → wpList P ops Q rest (a.put o.dst (.map (some g))) w1) : wpList P ops Q (o :: rest) a W := by
  refine Kd.event_run (v := .map (some W.heap.size)) (w1 := W.alloc (mobj ke ve [])) hgd ?_ (h _ rfl _ (blk_new W _) (below_alloc (Below.refl _ _) _))
  simp [execOp, ho, Instr.makeMap, Result.andThen, mobj, entsM]
omit [DecidableEq K] in
theorem zero_run {t : TypeId} {z : Value} (hi : (P.info? t).map (fun i => i.zero) = some (some z)) (w : World) : (zeroValue t).run P w = .ok z w := by
  cases h : P.info? t with
  | none => rw [h] at hi; cases hi
  | some i =>
    rw [h] at hi
    have hz : i.zero = some z := Option.some.inj hi
    simp [zeroValue, typeInfo, h, hz]
theorem look_event (hgd : o.guard = none) {N : Tmp} (_hd : o.dst = some N) {m x : Operand} (ho : o.op = .lookup mt m x false) (O : KeyOk P kt ke) (ht : P.underlying mt = some (.map kt et)) (z : V) (hz : (P.info? et).map (fun i => i.zero) = some (some (ve z)))
    (l : List (K × V)) (hb : W.heap[g]? = some (mobj ke ve l)) (k : K) (hm : a.eval m = .map (some g)) (hx : a.eval x = ke k)
    (h : wpList P ops Q rest (a.put o.dst (ve (mgetD l k z))) W) : wpList P ops Q (o :: rest) a W := by
  refine Kd.event_run hgd ?_ h
  simp [execOp, ho, hm, hx, look_run O ht (zero_run hz W) hb k false, Result.andThen]
theorem lookok_event (hgd : o.guard = none) {N : Tmp} (_hd : o.dst = some N) {m x : Operand} (ho : o.op = .lookup mt m x true) (O : KeyOk P kt ke) (ht : P.underlying mt = some (.map kt et)) (z : V) (hz : (P.info? et).map (fun i => i.zero) = some (some (ve z)))
    (l : List (K × V)) (hb : W.heap[g]? = some (mobj ke ve l)) (k : K) (hm : a.eval m = .map (some g)) (hx : a.eval x = ke k)
    (h : wpList P ops Q rest (a.put o.dst (.tuple #[ve (mgetD l k z), .bool (mhas l k)])) W) : wpList P ops Q (o :: rest) a W := by
  refine Kd.event_run hgd ?_ h
  simp [execOp, ho, hm, hx, look_run O ht (zero_run hz W) hb k true, Result.andThen]
omit [DecidableEq K] in
theorem mlen_event (hgd : o.guard = none) {N : Tmp} (_hd : o.dst = some N) {m : Operand} (ho : o.op = .call { callee := .builtin .len, args := #[m], argTypes := #[mt] }) (ht : P.underlying mt = some (.map kt et))
    (l : List (K × V)) (hb : W.heap[g]? = some (mobj ke ve l)) (hm : a.eval m = .map (some g))
    (h : wpList P ops Q rest (a.put o.dst (.int .i64 (l.length : Int))) W) : wpList P ops Q (o :: rest) a W := by
  have hr : (Builtin.len_ #[mt] o.type #[.map (some g)]).run P W = .ok (.int .i64 (l.length : Int)) W := by
    simp [Builtin.len_, run_underlying ht, MapKept.run_getObj_map hb, goInt, Result.andThen, entsM_length]
  refine wpList_plain hgd fun K' hK => ?_
  unfold Oper.wp
  simp [execOp, ho, resolve, invoke, builtin, hm, hr, Result.andThen]
  exact hK _ _ h
theorem mput_event (hgd : o.guard = none) {m x y : Operand} (ho : o.op = .mapUpdate mt m x y) (hN : o.dst = none) (O : KeyOk P kt ke) (ht : P.underlying mt = some (.map kt et))
    (l : List (K × V)) (hb : W.heap[g]? = some (mobj ke ve l)) (k : K) (v : V) (hm : a.eval m = .map (some g)) (hx : a.eval x = ke k) (hy : a.eval y = ve v)
    (h : ∀ w1, w1.heap[g]? = some (mobj ke ve (mput l k v)) → W.grownBy w1 (some g) → wpList P ops Q rest a w1) : wpList P ops Q (o :: rest) a W := by
  obtain ⟨w', hr, h1, h2⟩ := put_run O ht hb k v
  refine wpList_plain hgd fun K' hK => ?_
  unfold Oper.wp
  simp [execOp, ho, hm, hx, hy, hr, Result.andThen]
  show K' (a.put o.dst undef) w'
  rw [hN]
  exact hK _ _ (h _ h1 h2)
theorem gate_mput {t : TypeId} {m : Tmp} {x y : Operand} (_ho : o.op = .mapUpdate t (.tmp m) x y) (h : wpList P ops Q (o :: rest) a W) : wpList P ops Q (o :: rest) a W := h
end
/-! ### A range over a string: the block that holds how far it is. -/
theorem iter_no (s : ByteArray) (p : Nat) : NoCells (.stringIter s p) := fun _ _ h => by cases h
section
variable {P : Program} {ops : Array Oper} {rest : List Oper} {o : Oper} {a : Act} {Q : Exit → Act → World → Prop} {W : World} {g : Nat}
theorem iter_event (hgd : o.guard = none) {N : Tmp} (_hd : o.dst = some N) (t : TypeId) {x : Operand} (ho : o.op = .range t x) (ht : P.underlying t = some .string) (s : ByteArray) (hx : a.eval x = .string s)
    (h : ∀ g, g = W.heap.size → ∀ w1, w1.heap[g]? = some (.stringIter s 0) → Below W.heap.size W w1 → wpList P ops Q rest (a.put o.dst (.pointer (some ⟨g, 0, none⟩))) w1) : wpList P ops Q (o :: rest) a W := by
  refine Kd.event_run (v := .pointer (some ⟨W.heap.size, 0, none⟩)) (w1 := W.alloc (.stringIter s 0)) hgd ?_ (h _ rfl _ (blk_new W _) (below_alloc (Below.refl _ _) _))
  simp [execOp, ho, hx, Instr.range, run_underlying ht, Result.andThen]
theorem next_event (hgd : o.guard = none) {N : Tmp} (_hd : o.dst = some N) {x : Operand} (ho : o.op = .next x true) (s : ByteArray) (p : Nat) (hb : W.heap[g]? = some (.stringIter s p)) (hx : a.eval x = .pointer (some ⟨g, 0, none⟩)) (hp : p < s.size)
    (h : ∀ w1, w1.heap[g]? = some (.stringIter s (p + (Utf8.decode s p).2)) → W.grownBy w1 (some g) → wpList P ops Q rest (a.put o.dst (.tuple #[.bool true, .int .i64 (p : Int), .int .i32 ((Utf8.decode s p).1 : Int)])) w1) : wpList P ops Q (o :: rest) a W := by
  refine Kd.event_run (w1 := W.iterAt g s (p + (Utf8.decode s p).2)) hgd ?_ (h _ (Lib.iterAt_heap W g s p _ hb) ?_)
  · simp [execOp, ho, hx, Lib.run_next_any_at W g s p o.type hb hp, Result.andThen]
  · refine ⟨rfl, rfl, rfl, by simp [World.iterAt], fun i _ hi => ?_⟩
    have hne : g ≠ i := fun e => hi (by rw [e])
    simp [World.iterAt, Array.getElem?_setIfInBounds_ne hne]
theorem nextend_event (hgd : o.guard = none) {N : Tmp} (_hd : o.dst = some N) {x : Operand} (ho : o.op = .next x true) (s : ByteArray) (p : Nat) (hb : W.heap[g]? = some (.stringIter s p)) (hx : a.eval x = .pointer (some ⟨g, 0, none⟩)) (hp : ¬ p < s.size)
    (h : wpList P ops Q rest (a.put o.dst (.tuple #[.bool false])) W) : wpList P ops Q (o :: rest) a W := by
  refine Kd.event_run hgd ?_ h
  simp [execOp, ho, hx, Lib.run_next_end_at W g s p o.type hb hp, Result.andThen]
end
end Go.Proofs.YtimepajbnongoaaW.PrintMore
