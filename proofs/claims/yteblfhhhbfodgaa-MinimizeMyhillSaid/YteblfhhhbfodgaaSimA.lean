-- An interpreter of Go's code over typed data, and its soundness (texts of wip/sim, merged).
import Derived.Below
import Derived.Deep.Draws
import Derived.Laws.AppendOwn
import Derived.Laws.OwnMore
import Derived.Laws.Rows
import Derived.Orders
import Derived.RowKit3
import Derived.Tactics
import Derived.Laws.Concat
import Derived.Laws.Small
import Derived.Laws.StructEq
import Derived.Laws.Cells
import Derived.Laws.Slices
import Derived.Laws.BytesArg
import Derived.ChangeKeysEq
import Derived.Lib.ConvBytes
import Derived.Laws.Cover3
import Derived.Laws.BytesString
import Derived.Maps.AppendAt
/- Data types, and how a value of one reads in memory that nobody writes. No program in it. -/
set_option linter.unusedVariables false
namespace Go.Proofs.Yteblfhhhbfodgaa.Sim
open Go Go.RowKit

inductive Ty where
  | int (k : IntKind)
  | bool
  | str
  | slice (e : Ty)
  | unit
  | pair (a b : Ty)
  | arr (n : Nat) (e : Ty)
  deriving DecidableEq

@[reducible] def Ty.den : Ty → Type
  | .int _ => Int
  | .bool => Bool
  | .str => ByteArray
  | .slice e => List e.den
  | .unit => Unit
  | .pair a b => a.den × b.den
  | .arr _ e => List e.den

def Ty.sz : Ty → Nat
  | .unit => 0
  | .pair a b => a.sz + b.sz
  | .arr n e => n * e.sz
  | .int _ | .bool | .str | .slice _ => 1

def Ty.zero : (t : Ty) → t.den
  | .int _ => (0 : Int)
  | .bool => false
  | .str => ByteArray.empty
  | .slice e => ([] : List e.den)
  | .unit => ()
  | .pair a b => (a.zero, b.zero)
  | .arr n e => List.replicate n e.zero

def Ty.zcells : Ty → List Value
  | .int k => [.int k 0]
  | .bool => [.bool false]
  | .str => [.string ByteArray.empty]
  | .slice _ => [.slice none 0 0]
  | .unit => []
  | .pair a b => a.zcells ++ b.zcells
  | .arr n e => (List.replicate n e.zcells).flatten

def Ty.isAgg : Ty → Bool
  | .unit | .pair _ _ | .arr _ _ => true
  | .int _ | .bool | .str | .slice _ => false

def valOf (t : Ty) (cs : List Value) : Value := if t.isAgg then .agg cs.toArray else cs.headD undef

/-- Lists, element by element, as one row of cells. -/
def ROL {α : Type} (R : α → List Value → Prop) : List α → List Value → Prop
  | [], cs => cs = []
  | x :: xs, cs => ∃ a b, cs = a ++ b ∧ R x a ∧ ROL R xs b

/-- The cells lie from an address on, in a block that may be counted on. -/
def Mem (w : World) (ok : Nat → Prop) (ad : Addr) (cs : List Value) : Prop := ok ad.block ∧ ∀ j u, cs[j]? = some u → w.cell? (ad.add j) = some u

/-- The cells read as x, in blocks that may be counted on. -/
def RO (w : World) (ok : Nat → Prop) : (t : Ty) → t.den → List Value → Prop
  | .int k, x, cs => cs = [.int k x]
  | .bool, x, cs => cs = [.bool x]
  | .str, x, cs => cs = [.string x]
  | .slice e, xs, cs => ∃ A c, cs = [.slice A (List.length xs) c] ∧ List.length xs ≤ c ∧ (A = none → c = 0) ∧ (0 < List.length xs → ∃ ad fl, A = some ad ∧ ROL (RO w ok e) xs fl ∧ Mem w ok ad fl)
  | .unit, _, cs => cs = []
  | .pair a b, x, cs => ∃ c d, cs = c ++ d ∧ RO w ok a x.1 c ∧ RO w ok b x.2 d
  | .arr n e, xs, cs => List.length xs = n ∧ ROL (RO w ok e) xs cs

theorem ROL_imp {α : Type} {R R' : α → List Value → Prop} (h : ∀ x cs, R x cs → R' x cs) : ∀ {xs : List α} {cs : List Value}, ROL R xs cs → ROL R' xs cs
  | [], _, hh => hh
  | _ :: _, _, ⟨a, b, e, h1, h2⟩ => ⟨a, b, e, h _ _ h1, ROL_imp h h2⟩

theorem Mem.mono {w w' : World} {ok ok' : Nat → Prop} (hw : ∀ b, ok b → w'.heap[b]? = w.heap[b]?) (hk : ∀ b, ok b → ok' b) {ad : Addr} {cs : List Value} (h : Mem w ok ad cs) : Mem w' ok' ad cs := by
  refine ⟨hk _ h.1, fun j u hu => ?_⟩
  have e : (ad.add j).block = ad.block := by unfold Addr.add; split <;> rfl
  rw [World.cell?_of_block (w := w) (by rw [e]; exact hw _ h.1)]
  exact h.2 j u hu

theorem RO.mono {w w' : World} {ok ok' : Nat → Prop} (hw : ∀ b, ok b → w'.heap[b]? = w.heap[b]?) (hk : ∀ b, ok b → ok' b) : ∀ {t : Ty} {x : t.den} {cs : List Value}, RO w ok t x cs → RO w' ok' t x cs
  | .int _, _, _, h => h
  | .bool, _, _, h => h
  | .str, _, _, h => h
  | .unit, _, _, h => h
  | .slice e, _, _, ⟨A, c, h1, h2, h4, h3⟩ => ⟨A, c, h1, h2, h4, fun hn => by
      obtain ⟨ad, fl, e1, e2, e3⟩ := h3 hn
      exact ⟨ad, fl, e1, ROL_imp (fun x cs h => RO.mono hw hk (t := e) h) e2, e3.mono hw hk⟩⟩
  | .pair a b, _, _, ⟨c, d, h1, h2, h3⟩ => ⟨c, d, h1, RO.mono hw hk (t := a) h2, RO.mono hw hk (t := b) h3⟩
  | .arr n e, _, _, ⟨h1, h2⟩ => ⟨h1, ROL_imp (fun x cs h => RO.mono hw hk (t := e) h) h2⟩

theorem ROL_len {α : Type} {R : α → List Value → Prop} {s : Nat} (h : ∀ x cs, R x cs → cs.length = s) : ∀ {xs : List α} {cs : List Value}, ROL R xs cs → cs.length = xs.length * s
  | [], _, hh => by cases hh; simp
  | _ :: xs, _, ⟨a, b, e, h1, h2⟩ => by
    rw [e, List.length_append, h _ _ h1, ROL_len h h2, List.length_cons, Nat.add_mul]; omega

theorem RO_len {w : World} {ok : Nat → Prop} : ∀ {t : Ty} {x : t.den} {cs : List Value}, RO w ok t x cs → cs.length = t.sz
  | .int _, _, _, h => by cases h; rfl
  | .bool, _, _, h => by cases h; rfl
  | .str, _, _, h => by cases h; rfl
  | .unit, _, _, h => by cases h; rfl
  | .slice _, _, _, ⟨_, _, h1, _⟩ => by rw [h1]; rfl
  | .pair a b, _, _, ⟨c, d, h1, h2, h3⟩ => by rw [h1, List.length_append, RO_len (t := a) h2, RO_len (t := b) h3]; rfl
  | .arr n e, _, _, ⟨h1, h2⟩ => by rw [ROL_len (fun x cs h => RO_len (t := e) h) h2, h1]; rfl

theorem ROL_append {α : Type} {R : α → List Value → Prop} : ∀ {xs ys : List α} {c d : List Value}, ROL R xs c → ROL R ys d → ROL R (xs ++ ys) (c ++ d)
  | [], _, _, _, h, h' => by cases h; exact h'
  | _ :: _, _, _, _, ⟨a, b, e, h1, h2⟩, h' => ⟨a, _, by rw [e, List.append_assoc], h1, ROL_append h2 h'⟩

/-- The i-th element's cells. -/
theorem ROL_get {α : Type} {R : α → List Value → Prop} {s : Nat} (h : ∀ x cs, R x cs → cs.length = s) : ∀ {xs : List α} {cs : List Value}, ROL R xs cs → ∀ i (hi : i < xs.length), ∃ es, R xs[i] es ∧ ∀ j u, es[j]? = some u → cs[i * s + j]? = some u
  | x :: xs, _, ⟨a, b, e, h1, h2⟩, 0, _ => ⟨a, h1, fun j u hu => by
      rw [Nat.zero_mul, Nat.zero_add, e, List.getElem?_append_left (List.getElem?_eq_some_iff.1 hu).1]; exact hu⟩
  | x :: xs, _, ⟨a, b, e, h1, h2⟩, i + 1, hi => by
    obtain ⟨es, k1, k2⟩ := ROL_get h h2 i (by simpa using hi)
    refine ⟨es, by simpa using k1, fun j u hu => ?_⟩
    have := h _ _ h1
    rw [e, List.getElem?_append_right (by rw [this, Nat.add_mul]; omega), this, show (i + 1) * s + j - s = i * s + j by rw [Nat.add_mul]; omega]
    exact k2 j u hu

theorem ROL_take {α : Type} {R : α → List Value → Prop} {s : Nat} (h : ∀ x cs, R x cs → cs.length = s) : ∀ {xs : List α} {cs : List Value}, ROL R xs cs → ∀ n, n ≤ xs.length → ROL R (xs.take n) (cs.take (n * s))
  | [], _, hh, n, _ => by cases hh; simp [ROL]
  | x :: xs, _, ⟨a, b, e, h1, h2⟩, 0, _ => by simp [ROL]
  | x :: xs, _, ⟨a, b, e, h1, h2⟩, n + 1, hn => by
    refine ⟨a, b.take (n * s), ?_, h1, ROL_take h h2 n (by simpa using hn)⟩
    have := h _ _ h1
    rw [e, List.take_append, this, show (n + 1) * s - s = n * s by rw [Nat.add_mul]; omega, List.take_of_length_le (by rw [this, Nat.add_mul]; omega)]

theorem ROL_drop {α : Type} {R : α → List Value → Prop} {s : Nat} (h : ∀ x cs, R x cs → cs.length = s) : ∀ {xs : List α} {cs : List Value}, ROL R xs cs → ∀ n, n ≤ xs.length → ROL R (xs.drop n) (cs.drop (n * s))
  | [], _, hh, n, _ => by cases hh; simp [ROL]
  | x :: xs, _, ⟨a, b, e, h1, h2⟩, 0, _ => by simp only [List.drop_zero, Nat.zero_mul]; exact ⟨a, b, e, h1, h2⟩
  | x :: xs, _, ⟨a, b, e, h1, h2⟩, n + 1, hn => by
    have := h _ _ h1
    have ha : a.drop ((n + 1) * s) = [] := List.drop_of_length_le (by rw [this, Nat.add_mul]; omega)
    rw [List.drop_succ_cons, e, List.drop_append, ha, this, show (n + 1) * s - s = n * s by rw [Nat.add_mul]; omega, List.nil_append]
    exact ROL_drop h h2 n (by simpa using hn)

theorem ROL_set {α : Type} {R : α → List Value → Prop} {s : Nat} (h : ∀ x cs, R x cs → cs.length = s) {y : α} {ys : List Value} (hy : R y ys) {xs : List α} {cs : List Value} (hx : ROL R xs cs) (i : Nat) (hi : i < xs.length) : ROL R (xs.set i y) (cs.take (i * s) ++ ys ++ cs.drop (i * s + s)) := by
  have e : xs.set i y = xs.take i ++ [y] ++ xs.drop (i + 1) := by
    rw [List.set_eq_take_append_cons_drop, if_pos hi]; simp
  rw [e]
  refine ROL_append (ROL_append (ROL_take h hx i (by omega)) ⟨ys, [], by simp, hy, rfl⟩) ?_
  rw [show i * s + s = (i + 1) * s by rw [Nat.add_mul]; omega]
  exact ROL_drop h hx (i + 1) (by omega)

theorem ROL_replicate {α : Type} {R : α → List Value → Prop} {x : α} {c : List Value} (hx : R x c) : ∀ n, ROL R (List.replicate n x) (List.replicate n c).flatten
  | 0 => rfl
  | n + 1 => ⟨c, _, by rw [List.replicate_succ, List.flatten_cons], hx, ROL_replicate hx n⟩

theorem RO_zero (w : World) (ok : Nat → Prop) : ∀ t : Ty, RO w ok t t.zero t.zcells
  | .int _ => rfl
  | .bool => rfl
  | .str => rfl
  | .slice _ => ⟨none, 0, rfl, Nat.le_refl _, fun _ => rfl, fun h => absurd h (Nat.lt_irrefl 0)⟩
  | .unit => rfl
  | .pair a b => ⟨_, _, rfl, RO_zero w ok a, RO_zero w ok b⟩
  | .arr n e => ⟨List.length_replicate, ROL_replicate (RO_zero w ok e) n⟩

theorem ROL_all {α : Type} {R : α → List Value → Prop} {p : Value → Prop} (h : ∀ x cs, R x cs → ∀ u ∈ cs, p u) : ∀ {xs : List α} {cs : List Value}, ROL R xs cs → ∀ u ∈ cs, p u
  | [], _, hh, u, hu => by cases hh; cases hu
  | _ :: _, _, ⟨a, b, e, h1, h2⟩, u, hu => by
    rw [e] at hu
    rcases List.mem_append.1 hu with hu | hu
    · exact h _ _ h1 u hu
    · exact ROL_all h h2 u hu

theorem RO_one {w : World} {ok : Nat → Prop} : ∀ {t : Ty} {x : t.den} {cs : List Value}, RO w ok t x cs → ∀ u ∈ cs, u.oneCell' = true
  | .int _, _, _, h, u, hu => by cases h; cases List.mem_singleton.1 hu; rfl
  | .bool, _, _, h, u, hu => by cases h; cases List.mem_singleton.1 hu; rfl
  | .str, _, _, h, u, hu => by cases h; cases List.mem_singleton.1 hu; rfl
  | .unit, _, _, h, u, hu => by cases h; cases hu
  | .slice _, _, _, ⟨_, _, h1, _⟩, u, hu => by rw [h1] at hu; cases List.mem_singleton.1 hu; rfl
  | .pair a b, _, _, ⟨c, d, h1, h2, h3⟩, u, hu => by
    rw [h1] at hu
    rcases List.mem_append.1 hu with hu | hu
    · exact RO_one (t := a) h2 u hu
    · exact RO_one (t := b) h3 u hu
  | .arr n e, _, _, ⟨h1, h2⟩, u, hu => ROL_all (fun x cs h => RO_one (t := e) h) h2 u hu

theorem valOf_cells {t : Ty} {cs : List Value} (h : cs.length = t.sz) (h1 : ∀ u ∈ cs, u.oneCell' = true) : (valOf t cs).cells.toList = cs := by
  unfold valOf
  cases ht : t.isAgg
  · have hs : t.sz = 1 := by cases t <;> first | rfl | cases ht
    rw [hs] at h
    obtain ⟨v, rfl⟩ := List.length_eq_one_iff.1 h
    have := h1 v (by simp)
    cases v <;> first | rfl | (simp [Value.oneCell'] at this)
  · simp [Value.cells]

end Go.Proofs.Yteblfhhhbfodgaa.Sim
/- An interpreter of Go's operations over typed data and objects by number, in continuation passing form. Definitions alone. -/
set_option linter.unusedVariables false
namespace Go.Proofs.Yteblfhhhbfodgaa.Sim
open Go Go.RowKit

universe u
/-- What one cell (or a whole plain value) holds. -/
inductive AV where
  | ro (t : Ty) (x : t.den)
  | own (i ver : Nat)
  | ptr (i off : Nat)
  | elt (i ver j off : Nat)
  | roelt (t : Ty) (x : t.den)
  | row (i ver rv j : Nat)
  | relt (i ver rv j k off : Nat)
  | mp (i : Nat)
  | clo (f : FuncId) (caps : List (Nat × Nat))
  | val (v : Value)
  | junk

/-- What a slot of the frame holds: one value or a struct, or several results. -/
inductive TV where
  | cv (agg : Bool) (cs : List AV)
  | tup (vs : List (Bool × List AV))

abbrev TV.one (a : AV) : TV := .cv false [a]
abbrev TV.junk : TV := .cv false [.junk]

inductive Obj where
  | dead
  | arr (e : TypeId) (t : Ty) (xs : List t.den)
  | froz (t : Ty) (xs : List t.den)
  | rows (rv : Nat) (e e2 : TypeId) (t : Ty) (xss : List (List t.den))
  | box (ty : TypeId) (cells : List AV)
  | vec (ty : TypeId) (n : Nat) (t : Ty) (xs : List t.den)
  | map (mt : TypeId) (kt vt : Ty) (es : List (kt.den × vt.den))
  | iter (s : ByteArray) (p : Nat)

def Obj.isRow : Obj → Bool
  | .arr _ _ _ | .vec _ _ _ _ => true
  | _ => false

abbrev Slot := Nat × Obj

structure St where
  tmps : List TV
  stack : List (List TV)
  objs : List Slot

inductive Shp where
  | prim
  | slice (e : TypeId)
  | struct (fs : List (TypeId × Nat))
  | array (n : Nat) (e : TypeId)
  | map (k v : TypeId)
  | other

def Shp.isPrim : Shp → Bool
  | .prim => true
  | _ => false
def Shp.isSlice : Shp → Bool
  | .slice _ => true
  | _ => false
def Shp.known : Shp → Bool
  | .other => false
  | _ => true

structure TI where
  ty : Option Ty
  size : Nat
  bytes : Nat
  shp : Shp

inductive RM where
  | ro (t : Ty)
  | own (e : TypeId) (t : Ty)
  | rows (e e2 : TypeId) (t : Ty)

@[reducible] def RM.den : RM → Type
  | .ro t => t.den
  | .own _ t => List t.den
  | .rows _ _ t => List (List t.den)

@[reducible] def DenL : List Ty → Type
  | [] => Unit
  | t :: ts => t.den × DenL ts

@[reducible] def RCells : List RM → Type
  | [] => Unit
  | m :: ms => m.den × RCells ms

@[reducible] def RDen : List (Bool × List RM) → Type
  | [] => Unit
  | r :: rs => RCells r.2 × RDen rs

structure Contract where
  ps : List Ty
  rs : List (Bool × List RM)
  R : Type
  fn : DenL ps → Option R
  back : R → RDen rs

structure Env where
  ti : List TI
  fl : List (FuncId × Contract)
  rl : List Tmp

def Env.fns (E : Env) (f : FuncId) : Option Contract := (E.fl.find? fun p => Nat.beq p.1 f).map (·.2)
def Env.rows (E : Env) (t : Tmp) : Bool := E.rl.elem t

def Env.info (E : Env) (t : TypeId) : TI := (E.ti[t]?).getD ⟨none, 0, 0, .other⟩

inductive Prog (α : Type) : Type 1 where
  | ret (a : α)
  | fail
  | guard (c : Prop) (d : Decidable c) (k : Prog α)
  | look (i : Nat) (k : Slot → Prog α)
  | bindO (β : Type) (x : Option β) (k : β → Prog α)

def Prog.bind {α β : Type} : Prog α → (α → Prog β) → Prog β
  | .ret a, f => f a
  | .fail, _ => .fail
  | .guard c d k, f => .guard c d (k.bind f)
  | .look i k, f => .look i fun s => (k s).bind f
  | .bindO γ x k, f => .bindO γ x fun b => (k b).bind f

def Prog.run {α : Type} (l : Nat → Option Slot) : Prog α → Option (α × List Nat)
  | .ret a => some (a, [])
  | .fail => none
  | .guard c d k => @ite _ c d (k.run l) none
  | .look i k => match l i with
    | some s => ((k s).run l).map fun p => (p.1, i :: p.2)
    | none => none
  | .bindO _ x k => x.bind fun b => (k b).run l

/-- The same, with a continuation; what was looked at is gathered. -/
def Prog.cps {α R : Type} (l : Nat → Option Slot) : Prog α → (α → List Nat → Option R) → List Nat → Option R
  | .ret a, K, rs => K a rs
  | .fail, _, _ => none
  | .guard c d k, K, rs => @ite _ c d (k.cps l K rs) none
  | .look i k, K, rs => match l i with
    | some s => (k s).cps l K (i :: rs)
    | none => none
  | .bindO _ x k, K, rs => x.bind fun b => (k b).cps l K rs

abbrev Prog.grd {α : Type} (c : Prop) [d : Decidable c] (k : Prog α) : Prog α := .guard c d k
def Prog.opt {α : Type u} {β : Type} : Option α → (α → Prog β) → Prog β
  | some a, k => k a
  | none, _ => .fail
def Prog.chk {α : Type} : Bool → Prog α → Prog α
  | true, k => k
  | false, _ => .fail
/-- Of one type: the value as that type's. -/
def Prog.cast {α : Type} {F : Ty → Type} {t' : Ty} (t : Ty) (x : F t') (k : F t → Prog α) : Prog α :=
  match decEq t' t with
  | .isTrue h => k (h ▸ x)
  | .isFalse _ => .fail

/-! ### Reading -/
/-- A cell as data of a type, read where it stands. -/
def viewA (t : Ty) : AV → Prog t.den
  | .ro t' x => Prog.cast (F := Ty.den) t x .ret
  | .own i ver => match t with
    | .slice e => .look i fun s => .chk (Nat.beq s.1 ver) (match s.2 with
      | .arr _ t' xs => Prog.cast (F := fun t => List t.den) e xs .ret
      | .froz t' xs => Prog.cast (F := fun t => List t.den) e xs .ret
      | .rows _ _ _ t' xss => match e with
        | .slice e1 => Prog.cast (F := fun t => List (List t.den)) e1 xss .ret
        | _ => .fail
      | _ => .fail)
    | _ => .fail
  | .row i ver rv j => match t with
    | .slice e => .look i fun s => .chk (Nat.beq s.1 ver) (match s.2 with
      | .rows rv' _ _ t' xss => .chk (Nat.beq rv' rv) <| Prog.cast (F := fun t => List t.den) e (xss.getD j []) .ret
      | _ => .fail)
    | _ => .fail
  | .val v => match v, t with
    | .slice none 0 0, .slice e => .ret ([] : List e.den)
    | _, _ => .fail
  | _ => .fail

def viewCells : (t : Ty) → List AV → Prog (t.den × List AV)
  | .unit, r => .ret ((), r)
  | .pair a b, r => (viewCells a r).bind fun p => (viewCells b p.2).bind fun q => .ret ((p.1, q.1), q.2)
  | .arr _ _, _ => .fail
  | .int k, a :: r => (viewA (.int k) a).bind fun x => .ret (x, r)
  | .bool, a :: r => (viewA .bool a).bind fun x => .ret (x, r)
  | .str, a :: r => (viewA .str a).bind fun x => .ret (x, r)
  | .slice e, a :: r => (viewA (.slice e) a).bind fun x => .ret (x, r)
  | _, [] => .fail

def view (t : Ty) : TV → Prog t.den
  | .cv false [a] => viewA t a
  | .cv true cs => Prog.chk t.isAgg ((viewCells t cs).bind fun p => match p.2 with | [] => .ret p.1 | _ => .fail)
  | _ => .fail

abbrev Upds := List (Nat × Slot)

def apart (i : Nat) (us : Upds) : Bool := us.all fun u => !Nat.beq u.1 i

/-- As data that goes into memory: a row of one's own is written no more from now on. -/
def consA (t : Ty) : AV → Prog (t.den × Upds)
  | .ro t' x => Prog.cast (F := Ty.den) t x fun y => .ret (y, [])
  | .own i ver => match t with
    | .slice e => .look i fun s => .chk (Nat.beq s.1 ver) (match s.2 with
      | .arr _ t' xs => Prog.cast (F := fun t => List t.den) e xs fun y => .ret (y, [(i, (ver, .froz t' xs))])
      | .froz t' xs => Prog.cast (F := fun t => List t.den) e xs fun y => .ret (y, [])
      | .rows _ _ _ t' xss => match e with
        | .slice e1 => Prog.cast (F := fun t => List (List t.den)) e1 xss fun y => .ret (y, [(i, (ver, .froz (.slice t') xss))])
        | _ => .fail
      | _ => .fail)
    | _ => .fail
  | .val v => match v, t with
    | .slice none 0 0, .slice e => .ret (([] : List e.den), [])
    | _, _ => .fail
  | _ => .fail

def consCells : (t : Ty) → List AV → Prog ((t.den × Upds) × List AV)
  | .unit, r => .ret (((), []), r)
  | .pair a b, r => (consCells a r).bind fun p => (consCells b p.2).bind fun q => .ret (((p.1.1, q.1.1), p.1.2 ++ q.1.2), q.2)
  | .arr _ _, _ => .fail
  | .int k, a :: r => (consA (.int k) a).bind fun x => .ret (x, r)
  | .bool, a :: r => (consA .bool a).bind fun x => .ret (x, r)
  | .str, a :: r => (consA .str a).bind fun x => .ret (x, r)
  | .slice e, a :: r => (consA (.slice e) a).bind fun x => .ret (x, r)
  | _, [] => .fail

def cons (t : Ty) : TV → Prog (t.den × Upds)
  | .cv false [a] => consA t a
  | .cv true cs => Prog.chk t.isAgg ((consCells t cs).bind fun p => match p.2 with | [] => .ret p.1 | _ => .fail)
  | _ => .fail

/-! ### Parts of data -/
/-- The whole, where it begins here and is of the type; else something else. -/
def here (u t : Ty) (x : t.den) (off : Nat) (els : Option u.den) : Option u.den := match Nat.beq off 0 with
  | true => match decEq t u with
    | .isTrue h => some (h ▸ x)
    | .isFalse _ => els
  | false => els
/-- The part of a type that begins at a cell. -/
def projAt (u : Ty) : (t : Ty) → t.den → Nat → Option u.den
  | .pair a b, x, off => here u (.pair a b) x off (match Nat.blt off a.sz with
    | true => projAt u a x.1 off
    | false => projAt u b x.2 (off - a.sz))
  | .arr n e, x, off => here u (.arr n e) x off (match Nat.blt (off / e.sz) n with
    | true => projAt u e (List.getD x (off / e.sz) e.zero) (off % e.sz)
    | false => none)
  | .int k, x, off => here u (.int k) x off none
  | .bool, x, off => here u .bool x off none
  | .str, x, off => here u .str x off none
  | .slice e, x, off => here u (.slice e) x off none
  | .unit, x, off => here u .unit x off none

def hereSet (u : Ty) (y : u.den) (t : Ty) (off : Nat) (els : Option t.den) : Option t.den := match Nat.beq off 0 with
  | true => match decEq u t with
    | .isTrue h => some (h ▸ y)
    | .isFalse _ => els
  | false => els
def setAt (u : Ty) (y : u.den) : (t : Ty) → t.den → Nat → Option t.den
  | .pair a b, x, off => hereSet u y (.pair a b) off (match Nat.blt off a.sz with
    | true => (setAt u y a x.1 off).map fun z => (z, x.2)
    | false => (setAt u y b x.2 (off - a.sz)).map fun z => (x.1, z))
  | .arr n e, x, off => hereSet u y (.arr n e) off (match Nat.blt (off / e.sz) n with
    | true => (setAt u y e (List.getD x (off / e.sz) e.zero) (off % e.sz)).map fun z => List.set x (off / e.sz) z
    | false => none)
  | .int k, x, off => hereSet u y (.int k) off none
  | .bool, x, off => hereSet u y .bool off none
  | .str, x, off => hereSet u y .str off none
  | .slice e, x, off => hereSet u y (.slice e) off none
  | .unit, x, off => hereSet u y .unit off none

/-- Data, cell by cell. -/
def cellsOf : (t : Ty) → t.den → Option (List AV)
  | .unit, _ => some []
  | .pair a b, x => (cellsOf a x.1).bind fun p => (cellsOf b x.2).map fun q => p ++ q
  | .int k, x => some [.ro (.int k) x]
  | .bool, x => some [.ro .bool x]
  | .str, x => some [.ro .str x]
  | .slice e, x => some [.ro (.slice e) x]
  | .arr n e, x => none

/-- The cells of a value that go into a variable in memory; none where it can't be laid out. -/
def flat : TV → Option (List AV)
  | .cv false [a] => match a with
    | .ro t x => cellsOf t x
    | .own i ver => some [.own i ver]
    | .ptr i off => some [.ptr i off]
    | .mp i => some [.mp i]
    | .val (.map none) => some [.val (.map none)]
    | .val (.slice none 0 0) => some [.val (.slice none 0 0)]
    | _ => none
  | .cv true cs => some cs
  | _ => none

structure Res where
  val : TV
  upds : Upds

abbrev Prog.one (a : AV) : Prog Res := .ret ⟨.one a, []⟩

/-! ### Zeros: a nil slice is a row of one's own, as yet empty -/
def zeroFs (z : TypeId → Nat → Option (List AV × Upds)) : List (TypeId × Nat) → Nat → Option (List AV × Upds)
  | [], _ => some ([], [])
  | f :: fs, fr => (z f.1 fr).bind fun p => (zeroFs z fs (fr + p.2.length)).map fun q => (p.1 ++ q.1, p.2 ++ q.2)
def zeroCells (E : Env) : Nat → TypeId → Nat → Option (List AV × Upds)
  | 0, _, _ => none
  | d + 1, t, fr => match (E.info t).shp, (E.info t).ty with
    | .slice e, some (.slice te) => some ([.own fr 0], [(fr, (0, .arr e te []))])
    | .struct fs, some _ => zeroFs (zeroCells E d) fs fr
    | .prim, some t => (cellsOf t t.zero).map fun cs => (cs, [])
    | _, _ => none

def isNil : Operand → Bool
  | .const (.slice none 0 0) => true
  | _ => false
/-- A nil that is laid into a variable of a slice's type. -/
def mat (E : Env) (t : TypeId) (v : TV) (fr : Nat) : Prog Res :=
  match v with
  | .cv false [.val (.slice none 0 0)] => match (E.info t).shp, (E.info t).ty with
    | .slice e, some (.slice te) => .ret ⟨.one (.own fr 0), [(fr, (0, .arr e te []))]⟩
    | _, _ => .ret ⟨v, []⟩
  | v => .ret ⟨v, []⟩

def TV.int? : TV → Option (IntKind × Int)
  | .cv false [.ro t x] => match t, x with
    | .int k, n => some (k, n)
    | _, _ => none
  | _ => none
def TV.bool? : TV → Option Bool
  | .cv false [.ro t x] => match t, x with
    | .bool, b => some b
    | _, _ => none
  | _ => none
def TV.str? : TV → Option ByteArray
  | .cv false [.ro t x] => match t, x with
    | .str, s => some s
    | _, _ => none
  | _ => none

def pickTV (b : Bool) : TV → TV → Prog Res
  | .cv false [.ro t x], .cv false [.ro t' y] => Prog.cast (F := Ty.den) t y fun y => .one (.ro t (cond b x y))
  | x, y => match b with
    | true => .ret ⟨x, []⟩
    | false => .ret ⟨y, []⟩

def bt (s : ByteArray) (i : Nat) : Int := ((s.data.toList.getD i 0).toNat : Int)
def strOf (xs : List Int) : ByteArray := ⟨(xs.map fun n => UInt8.ofNat n.toNat).toArray⟩
def bytesOf (s : ByteArray) : List Int := s.data.toList.map fun b => (b.toNat : Int)
/-- The greatest size of a slice in bytes. -/
def room : Nat := 140737488355328

def binP (E : Env) (t : TypeId) (op : BinOp) (x y : TV) : Prog Res :=
  match x.int?, y.int?, x.bool?, y.bool?, x.str?, y.str? with
  | some (k, a), some (k', b), _, _, _, _ =>
    let n (c : Int) : Prog Res := .one (.ro (.int k) c)
    let c (b : Bool) : Prog Res := .one (.ro .bool b)
    .chk (decide (k = k')) (match op with
    | .add => n (k.wrap (a + b))
    | .sub => n (k.wrap (a - b))
    | .mul => n (k.wrap (a * b))
    | .quo => .grd (b ≠ 0) (n (k.wrap (a.tdiv b)))
    | .rem => .grd (b ≠ 0) (n (a.tmod b))
    | .and => n (k.wrap (BitVec.ofInt k.bits a &&& BitVec.ofInt k.bits b).toNat)
    | .or => n (k.wrap (BitVec.ofInt k.bits a ||| BitVec.ofInt k.bits b).toNat)
    | .eql => c (a == b)
    | .neq => c (a != b)
    | .lss => c (decide (a < b))
    | .leq => c (decide (a ≤ b))
    | .gtr => c (decide (a > b))
    | .geq => c (decide (a ≥ b))
    | _ => .fail)
  | _, _, some a, some b, _, _ => .chk (decide ((E.info t).ty = some .bool) && (E.info t).shp.isPrim) (match op with
    | .eql => .one (.ro .bool (a == b))
    | .neq => .one (.ro .bool (!(a == b)))
    | _ => .fail)
  | _, _, _, _, some a, some b => match op with
    | .add => .grd (a.size + b.size ≤ 9223372036854775807) (.one (.ro .str (a ++ b)))
    | .eql => .one (.ro .bool (a.toList == b.toList))
    | .neq => .one (.ro .bool (!(a.toList == b.toList)))
    | .lss => .one (.ro .bool (Op.bytesLess a.toList b.toList))
    | .gtr => .one (.ro .bool (!(Op.bytesLess a.toList b.toList || a.toList == b.toList)))
    | _ => .fail
  | _, _, _, _, _, _ => match op, x, y with
    | .neq, .cv false [.row i ver rv j], .cv false [.val (.slice none 0 0)] => .look i fun s => .chk (Nat.beq s.1 ver) (match s.2 with
      | .rows rv' _ _ u xss => .chk (Nat.beq rv' rv && (E.info t).shp.isSlice) <| .one (.ro .bool (decide (0 < (xss.getD j []).length)))
      | _ => .fail)
    | _, _, _ => .fail

/-- The address of an element: of what, its number, and its type. -/
def idxP (E : Env) (t : TypeId) (x : TV) (j : Int) : Prog Res :=
  match (E.info t).shp, x with
  | .slice e, .cv false [.own i ver] => .look i fun s => .chk (Nat.beq s.1 ver) (match s.2 with
    | .arr _ t xs => .chk (decide ((E.info e).ty = some t)) (.grd (0 ≤ j) (.grd (j < (xs.length : Int)) (.one (.elt i ver j.toNat 0))))
    | .rows _ _ _ t xss => .chk (decide ((E.info e).ty = some (.slice t))) (.grd (0 ≤ j) (.grd (j < (xss.length : Int)) (.one (.elt i ver j.toNat 0))))
    | .froz t xs => .chk (decide ((E.info e).ty = some t)) (.grd (0 ≤ j) (.grd (j < (xs.length : Int)) (.one (.roelt t (xs.getD j.toNat t.zero)))))
    | _ => .fail)
  | .slice e, .cv false [.ro (.slice t) xs] => .chk (decide ((E.info e).ty = some t)) (.grd (0 ≤ j) (.grd (j < (List.length xs : Int)) (.one (.roelt t (List.getD xs j.toNat t.zero)))))
  | .slice e, .cv false [.row i ver rv r] => .look i fun s => .chk (Nat.beq s.1 ver) (match s.2 with
    | .rows rv' _ _ t xss => .chk (Nat.beq rv' rv && decide ((E.info e).ty = some t)) (.grd (0 ≤ j) (.grd (j < ((xss.getD r []).length : Int)) (.one (.relt i ver rv r j.toNat 0))))
    | _ => .fail)
  | .array n e, .cv false [.ptr i off] => .look i fun s => match s.2 with
    | .vec _ n' t xs => .chk (decide ((E.info e).ty = some t) && Nat.beq n n' && Nat.beq off 0) (.grd (0 ≤ j) (.grd (j < (n : Int)) (.one (.elt i s.1 j.toNat 0))))
    | _ => .fail
  | .array n e, .cv false [.elt i ver r off] => match j with
    | .ofNat m => .look i fun s => .chk (Nat.beq s.1 ver && s.2.isRow && Nat.blt m n && (E.info e).shp.known) (.one (.elt i ver r (off + m * (E.info e).size)))
    | _ => .fail
  | .array n e, .cv false [.roelt (.arr n' t) xs] => .chk (Nat.beq n n' && decide ((E.info e).ty = some t)) (.grd (0 ≤ j) (.grd (j < (n : Int)) (.one (.roelt t (List.getD xs j.toNat t.zero)))))
  | _, _ => .fail

def fieldP (E : Env) (t : TypeId) (x : TV) (f : Nat) : Prog Res :=
  match (E.info t).shp with
  | .struct fs => match fs[f]? with
    | none => .fail
    | some (ft, fo) => .chk ((E.info ft).size != 0 && (E.info ft).shp.known) <| match x with
      | .cv false [.ptr i off] => .one (.ptr i (off + fo))
      | .cv false [.elt i ver j off] => .look i fun s => .chk (Nat.beq s.1 ver && s.2.isRow) (.one (.elt i ver j (off + fo)))
      | .cv false [.roelt u y] => Prog.opt (E.info ft).ty fun v => Prog.opt (projAt v u y fo) fun z => .one (.roelt v z)
      | _ => .fail
  | _ => .fail

def loadP (E : Env) (t : TypeId) (x : TV) : Prog Res :=
  match x with
  | .cv false [.ptr i off] => .look i fun s => match s.2 with
    | .box _ cells => match (E.info t).shp with
      | .struct _ => .chk (Nat.ble (off + (E.info t).size) cells.length) (.ret ⟨.cv true ((cells.drop off).take (E.info t).size), []⟩)
      | .array _ _ => .fail
      | .other => .fail
      | _ => Prog.opt cells[off]? fun a => .one a
    | .vec _ n' u xs => match (E.info t).ty with
      | some (.arr n u') => .chk (Nat.beq off 0 && Nat.beq n n') (Prog.cast (F := fun t => List t.den) u' xs fun ys => .one (.ro (.arr n u') ys))
      | _ => .fail
    | _ => .fail
  | .cv false [.elt i ver j off] => .look i fun s => .chk (Nat.beq s.1 ver) (match s.2 with
    | .arr _ u xs => Prog.opt (E.info t).ty fun v => Prog.opt (projAt v u (xs.getD j u.zero) off) fun z => .one (.ro v z)
    | .vec _ _ u xs => Prog.opt (E.info t).ty fun v => Prog.opt (projAt v u (xs.getD j u.zero) off) fun z => .one (.ro v z)
    | .rows rv _ _ u xss => .chk (Nat.beq off 0 && decide ((E.info t).ty = some (.slice u))) (.one (.row i ver rv j))
    | _ => .fail)
  | .cv false [.relt i ver rv r j off] => .look i fun s => .chk (Nat.beq s.1 ver) (match s.2 with
    | .rows rv' _ _ u xss => .chk (Nat.beq rv' rv) <| Prog.opt (E.info t).ty fun v => Prog.opt (projAt v u ((xss.getD r []).getD j u.zero) off) fun z => .one (.ro v z)
    | _ => .fail)
  | .cv false [.roelt u y] => .chk (decide ((E.info t).ty = some u)) (.one (.ro u y))
  | _ => .fail

def storeP (E : Env) (t : TypeId) (x : TV) (v : TV) : Prog Res :=
  match x with
  | .cv false [.ptr i off] => .look i fun s => match s.2 with
    | .box ty cells => Prog.opt (flat v) fun cs => .chk (Nat.beq cs.length (E.info t).size && Nat.ble (off + cs.length) cells.length && (E.info t).shp.known) (.ret ⟨.junk, [(i, (s.1, .box ty (cells.take off ++ cs ++ cells.drop (off + cs.length))))]⟩)
    | .vec ty n' u xs => match (E.info t).ty with
      | some (.arr n u') => .chk (Nat.beq off 0 && Nat.beq n n') ((cons (.arr n u') v).bind fun p => .chk (apart i p.2) <| Prog.cast (F := fun t => List t.den) u p.1 fun ys => .ret ⟨.junk, p.2 ++ [(i, (s.1, .vec ty n' u ys))]⟩)
      | _ => .fail
    | _ => .fail
  | .cv false [.elt i ver j off] => .look i fun s => .chk (Nat.beq s.1 ver) (match s.2 with
    | .arr e u xs => Prog.opt (E.info t).ty fun w => (cons w v).bind fun p => .chk (apart i p.2) <| Prog.opt (setAt w p.1 u (xs.getD j u.zero) off) fun z => .ret ⟨.junk, p.2 ++ [(i, (ver, .arr e u (xs.set j z)))]⟩
    | .vec e n' u xs => Prog.opt (E.info t).ty fun w => (cons w v).bind fun p => .chk (apart i p.2) <| Prog.opt (setAt w p.1 u (xs.getD j u.zero) off) fun z => .ret ⟨.junk, p.2 ++ [(i, (ver, .vec e n' u (xs.set j z)))]⟩
    | .rows rv e e2 u xss => match v with
      | .cv false [.own k kv] => .chk (Nat.beq off 0 && !Nat.beq k i && decide ((E.info t).ty = some (.slice u))) (.look k fun r => .chk (Nat.beq r.1 kv) (match r.2 with
        | .arr e3 u' ys => .chk (Nat.beq e3 e2) (Prog.cast (F := fun t => List t.den) u ys fun ys => .grd (0 < ys.length) (.ret ⟨.junk, [(k, (kv + 1, .dead)), (i, (ver, .rows (rv + 1) e e2 u (xss.set j ys)))]⟩))
        | _ => .fail))
      | _ => .fail
    | _ => .fail)
  | .cv false [.relt i ver rv r j off] => .look i fun s => .chk (Nat.beq s.1 ver) (match s.2 with
    | .rows rv' e e2 u xss => .chk (Nat.beq rv' rv) <| Prog.opt (E.info t).ty fun w => (cons w v).bind fun p => .chk (apart i p.2) <| Prog.opt (setAt w p.1 u ((xss.getD r []).getD j u.zero) off) fun z => .ret ⟨.junk, p.2 ++ [(i, (ver, .rows rv e e2 u (xss.set r ((xss.getD r []).set j z))))]⟩
    | _ => .fail)
  | _ => .fail

/-- A new variable with these cells. -/
def newBox (ty : TypeId) (fr : Nat) (cs : List AV) (us : Upds) : Prog Res := .ret ⟨.one (.ptr fr 0), us ++ [(fr, (0, .box ty cs))]⟩

def boxP (E : Env) (t : TypeId) (v : TV) (fr : Nat) : Prog Res :=
  match (E.info t).ty, v with
  | some (.arr n u), v => .chk (u.sz != 0) <| (cons (.arr n u) v).bind fun p => .chk (apart fr p.2) <| .ret ⟨.one (.ptr fr 0), p.2 ++ [(fr, (0, .vec t n u p.1))]⟩
  | _, v => Prog.opt (flat v) fun cs => .chk (Nat.beq cs.length (E.info t).size) (newBox t fr cs [])

def allocP (E : Env) (t : TypeId) (fr : Nat) : Prog Res :=
  match (E.info t).ty with
  | some (.arr n u) => .chk (u.sz != 0) (.ret ⟨.one (.ptr fr 0), [(fr, (0, .vec t n u (List.replicate n u.zero)))]⟩)
  | some _ => Prog.opt (zeroCells E 9 t (fr + 1)) fun p => newBox t fr p.1 p.2
  | none => .fail

/-- Cells with some parts laid over them. -/
def layParts (E : Env) (fs : List (TypeId × Nat)) (ρ : Operand → TV) : List (Nat × Operand) → List AV → Option (List AV)
  | [], cells => some cells
  | (i, x) :: ps, cells => (fs[i]?).bind fun f => (flat (ρ x)).bind fun cs =>
    match Nat.beq cs.length (E.info f.1).size && Nat.ble (f.2 + cs.length) cells.length with
    | true => layParts E fs ρ ps (cells.take f.2 ++ cs ++ cells.drop (f.2 + cs.length))
    | false => none

def consParts (t : Ty) (ρ : Operand → TV) : List (Nat × Operand) → List t.den → Prog (List t.den × Upds)
  | [], xs => .ret (xs, [])
  | (i, x) :: ps, xs => .chk (Nat.blt i xs.length) ((cons t (ρ x)).bind fun p => (consParts t ρ ps (xs.set i p.1)).bind fun q => .ret (q.1, p.2 ++ q.2))

def buildP (E : Env) (t : TypeId) (ps : List (Nat × Operand)) (ρ : Operand → TV) (fr : Nat) : Prog Res :=
  match (E.info t).shp, (E.info t).ty with
  | .struct fs, _ => Prog.opt (zeroCells E 9 t fr) fun p => Prog.opt (layParts E fs ρ ps p.1) fun cs => .ret ⟨.cv true cs, p.2⟩
  | .array n _, some (.arr _ u) => .chk (u.sz != 0) ((consParts u ρ ps (List.replicate n u.zero)).bind fun q => .ret ⟨.one (.ro (.arr n u) q.1), q.2⟩)
  | _, _ => .fail

def buildSliceP (E : Env) (t : TypeId) (len : Nat) (ps : List (Nat × Operand)) (ρ : Operand → TV) (fr : Nat) : Prog Res :=
  match (E.info t).shp with
  | .slice e => Prog.opt (E.info e).ty fun u => .chk (Nat.ble (len * u.sz) 16777216) ((consParts u ρ ps (List.replicate len u.zero)).bind fun q => .ret ⟨.one (.own fr 0), q.2 ++ [(fr, (0, .arr e u q.1))]⟩)
  | _ => .fail

def makeP (E : Env) (rw : Bool) (t : TypeId) (n m : TV) (fr : Nat) : Prog Res :=
  match (E.info t).shp with
  | .slice e => Prog.opt n.int? fun n => Prog.opt m.int? fun m => Prog.opt (E.info e).ty fun u =>
    .chk (Nat.beq u.sz 1) <| .grd (0 ≤ n.2) (.grd (n.2 ≤ m.2) (.grd (m.2 * ((E.info e).bytes : Int) ≤ (room : Int)) (match rw with
      | false => .ret ⟨.one (.own fr 0), [(fr, (0, .arr e u (List.replicate n.2.toNat u.zero)))]⟩
      | true => match u, (E.info e).shp with
        | .slice u', .slice e2 => .ret ⟨.one (.own fr 0), [(fr, (0, .rows 0 e e2 u' (List.replicate n.2.toNat [])))]⟩
        | _, _ => .fail)))
  | _ => .fail

def lenP (E : Env) (t : TypeId) (x : TV) : Prog Res :=
  let n (m : Nat) : Prog Res := .one (.ro (.int .i64) (m : Int))
  match (E.info t).shp, x with
  | .prim, x => .chk (decide ((E.info t).ty = some .str)) (Prog.opt x.str? fun s => n s.size)
  | .slice _, .cv false [.own i ver] => .look i fun s => .chk (Nat.beq s.1 ver) (match s.2 with
    | .arr _ _ xs => n xs.length
    | .rows _ _ _ _ xs => n xs.length
    | .froz _ xs => n xs.length
    | _ => .fail)
  | .slice _, .cv false [.ro (.slice _) xs] => n (List.length xs)
  | .slice _, .cv false [.row i ver rv j] => .look i fun s => .chk (Nat.beq s.1 ver) (match s.2 with
    | .rows rv' _ _ _ xss => .chk (Nat.beq rv' rv) <| n (xss.getD j []).length
    | _ => .fail)
  | .slice _, .cv false [.val (.slice none 0 0)] => n 0
  | .map _ _, .cv false [.mp i] => .look i fun s => match s.2 with
    | .map _ _ _ es => n es.length
    | _ => .fail
  | _, _ => .fail

/-- What an append lays behind a row. -/
def newsP (u : Ty) : TV → Prog (List u.den)
  | .cv false [.ro (.slice t) xs] => Prog.cast (F := fun t => List t.den) u xs .ret
  | .cv false [.own i ver] => .look i fun s => .chk (Nat.beq s.1 ver) (match s.2 with
    | .arr _ t' xs => Prog.cast (F := fun t => List t.den) u xs .ret
    | .froz t' xs => Prog.cast (F := fun t => List t.den) u xs .ret
    | _ => .fail)
  | .cv false [.val (.slice none 0 0)] => .ret []
  | _ => .fail

def appendP (E : Env) (t : TypeId) (s x : TV) (fr : Nat) : Prog Res :=
  match (E.info t).shp with
  | .slice e => Prog.opt (E.info e).ty fun u => match s with
    | .cv false [.own i ver] => .look i fun sl => .chk (Nat.beq sl.1 ver) (match sl.2 with
      | .arr e' u' xs => .chk (Nat.beq e' e) (Prog.cast (F := fun t => List t.den) u xs fun xs => (newsP u x).bind fun ys =>
          .grd ((xs.length + ys.length) * (E.info e).bytes ≤ room) (.ret ⟨.one (.own i (ver + 1)), [(i, (ver + 1, .arr e u (xs ++ ys)))]⟩))
      | _ => .fail)
    | _ => .fail
  | _ => .fail

def convP (E : Env) (src dst : TypeId) (x : TV) (fr : Nat) : Prog Res :=
  match (E.info dst).shp, (E.info dst).ty, (E.info src).ty with
  | .prim, some (.int k), some (.int _) => Prog.opt x.int? fun n => .one (.ro (.int k) (k.wrap n.2))
  | .prim, some .str, some (.int _) => Prog.opt x.int? fun n => .one (.ro .str (Utf8.encode n.2))
  | .prim, some .str, some .str => Prog.opt x.str? fun s => .one (.ro .str s)
  | .prim, some .str, some (.slice (.int .u8)) => (view (.slice (.int .u8)) x).bind fun xs => .one (.ro .str (strOf xs))
  | _, _, _ => .fail

def TV.nat? (v : TV) : Option Int := v.int?.map (·.2)

def sliceP (E : Env) (t : TypeId) (x : TV) (lo hi : Option TV) (mx : Option TV) : Prog Res :=
  match mx with
  | some _ => .fail
  | none =>
    let l : Option (Option Int) := match lo with | none => some none | some v => v.nat?.map some
    let h : Option (Option Int) := match hi with | none => some none | some v => v.nat?.map some
    Prog.opt l fun l => Prog.opt h fun h =>
    match x with
    | .cv false [.ro .str s] =>
      let l' := l.getD 0; let h' := h.getD (s.size : Int)
      .grd (0 ≤ l') (.grd (l' ≤ h') (.grd (h' ≤ (s.size : Int)) (.one (.ro .str (s.extract l'.toNat h'.toNat)))))
    | .cv false [.own i ver] => match l, h with
      | none, some h => .look i fun s => .chk (Nat.beq s.1 ver) (match s.2 with
        | .arr e u xs => .grd (0 ≤ h) (.grd (h ≤ (xs.length : Int)) (.ret ⟨.one (.own i (ver + 1)), [(i, (ver + 1, .arr e u (xs.take h.toNat)))]⟩))
        | _ => .fail)
      | _, _ => .fail
    | _ => .fail

def mget {K V : Type} [DecidableEq K] : List (K × V) → K → Option V
  | [], _ => none
  | p :: l, k => if k = p.1 then some p.2 else mget l k
def mput {K V : Type} [DecidableEq K] : List (K × V) → K → V → List (K × V)
  | [], k, v => [(k, v)]
  | p :: l, k, v => if k = p.1 then (k, v) :: l else p :: mput l k v

instance Ty.deq : (t : Ty) → DecidableEq t.den
  | .int _ => inferInstanceAs (DecidableEq Int)
  | .bool => inferInstanceAs (DecidableEq Bool)
  | .str => inferInstanceAs (DecidableEq ByteArray)
  | .slice e => have := Ty.deq e; inferInstanceAs (DecidableEq (List e.den))
  | .unit => inferInstanceAs (DecidableEq Unit)
  | .pair a b => have := Ty.deq a; have := Ty.deq b; inferInstanceAs (DecidableEq (a.den × b.den))
  | .arr _ e => have := Ty.deq e; inferInstanceAs (DecidableEq (List e.den))

def Ty.keyOk : Ty → Bool
  | .int _ | .str => true
  | .arr _ (.int .i64) => true
  | _ => false

def makeMapP (E : Env) (t : TypeId) (fr : Nat) : Prog Res :=
  match (E.info t).shp with
  | .map k v => match (E.info k).ty, (E.info v).ty with
    | some kt, some vt => .chk (kt.keyOk && !vt.isAgg) (.ret ⟨.one (.mp fr), [(fr, (0, .map t kt vt []))]⟩)
    | _, _ => .fail
  | _ => .fail

/-- Keys' and elements' types of a map are those of its object. -/
def mapTy (E : Env) (t : TypeId) (kt vt : Ty) : Bool := match (E.info t).shp with
  | .map k v => decide ((E.info k).ty = some kt) && decide ((E.info v).ty = some vt) && kt.keyOk && !vt.isAgg
  | _ => false

def lookupP (E : Env) (t : TypeId) (x k : TV) (ok : Bool) : Prog Res :=
  match x with
  | .cv false [.mp i] => .look i fun s => match s.2 with
    | .map t' kt vt es => .chk (mapTy E t kt vt) ((view kt k).bind fun key =>
      match ok with
      | true => .ret ⟨.tup [(false, [.ro vt ((mget es key).getD vt.zero)]), (false, [.ro .bool (mget es key).isSome])], []⟩
      | false => .one (.ro vt ((mget es key).getD vt.zero)))
    | _ => .fail
  | _ => .fail

def mapUpdateP (E : Env) (t : TypeId) (x k v : TV) : Prog Res :=
  match x with
  | .cv false [.mp i] => .look i fun s => match s.2 with
    | .map t' kt vt es => .chk (mapTy E t kt vt) ((view kt k).bind fun key => (cons vt v).bind fun p => .chk (apart i p.2) <| .ret ⟨.junk, p.2 ++ [(i, (s.1, .map t' kt vt (mput es key p.1)))]⟩)
    | _ => .fail
  | _ => .fail

/-! ### Calls by contract -/
def viewArgs : (ts : List Ty) → List TV → Prog (DenL ts)
  | [], [] => .ret ()
  | t :: ts, v :: vs => (view t v).bind fun x => (viewArgs ts vs).bind fun y => .ret (x, y)
  | _, _ => .fail

def resCells : (ms : List RM) → RCells ms → Nat → List AV × Upds
  | [], _, _ => ([], [])
  | .ro t :: ms, r, fr => let p := resCells ms r.2 fr; (.ro t r.1 :: p.1, p.2)
  | .own e t :: ms, r, fr => let p := resCells ms r.2 (fr + 1); (.own fr 0 :: p.1, (fr, (0, .arr e t r.1)) :: p.2)
  | .rows e e2 t :: ms, r, fr => let p := resCells ms r.2 (fr + 1); (.own fr 0 :: p.1, (fr, (0, .rows 0 e e2 t r.1)) :: p.2)

def resAll : (rs : List (Bool × List RM)) → RDen rs → Nat → List (Bool × List AV) × Upds
  | [], _, _ => ([], [])
  | m :: ms, r, fr => let p := resCells m.2 r.1 fr; let q := resAll ms r.2 (fr + p.2.length); ((m.1, p.1) :: q.1, p.2 ++ q.2)

def resTV (rs : List (Bool × List RM)) (r : RDen rs) (fr : Nat) : Res :=
  let p := resAll rs r fr
  match p.1 with
  | [v] => ⟨.cv v.1 v.2, p.2⟩
  | vs => ⟨.tup vs, p.2⟩

/-- Data in which no slice is. -/
def Ty.plain : Ty → Bool
  | .int _ | .bool | .str | .unit => true
  | .slice _ => false
  | .pair a b => a.plain && b.plain
  | .arr _ e => e.plain
def RM.plain : RM → Bool
  | .ro t => t.plain
  | .own _ t => t.plain
  | .rows _ _ t => t.plain
/-- No slice of one's own is in it. -/
def AV.still : AV → Bool
  | .ro _ _ | .val _ => true
  | _ => false
def TV.still : TV → Bool
  | .cv _ cs => cs.all AV.still
  | .tup _ => false

/-- Arguments from which the results may share: their rows are written no more. -/
def consArgs : (ts : List Ty) → List TV → Prog (DenL ts × Upds)
  | [], [] => .ret ((), [])
  | t :: ts, v :: vs => (cons t v).bind fun x => (consArgs ts vs).bind fun y => .ret ((x.1, y.1), x.2 ++ y.2)
  | _, _ => .fail

def callP (c : Contract) (vs : List TV) (fr : Nat) : Prog Res :=
  match vs.all TV.still || c.rs.all (fun r => r.2.all RM.plain) with
  | true => (viewArgs c.ps vs).bind fun x => .bindO _ (c.fn x) fun r => .ret (resTV c.rs (c.back r) fr)
  | false => (consArgs c.ps vs).bind fun p => .bindO _ (c.fn p.1) fun r => .ret ⟨(resTV c.rs (c.back r) fr).val, p.2 ++ (resTV c.rs (c.back r) fr).upds⟩

def opP (E : Env) (rw : Bool) (o : Oper) (ρ : Operand → TV) (fr : Nat) : Prog Res :=
  match o.op with
  | .move x | .assign x => match isNil x with
    | true => mat E o.type (ρ x) fr
    | false => .ret ⟨ρ x, []⟩
  | .pick c a b => Prog.opt (ρ c).bool? fun c => pickTV c (ρ a) (ρ b)
  | .alloc t => allocP E t fr
  | .box t x => boxP E t (ρ x) fr
  | .build t ps => buildP E t ps.toList ρ fr
  | .buildSlice t len ps => buildSliceP E t len ps.toList ρ fr
  | .load t a => loadP E t (ρ a)
  | .store t a x => storeP E t (ρ a) (ρ x)
  | .nilCheck x => match ρ x with
    | .cv false [.ptr i off] => .one (.ptr i off)
    | _ => .fail
  | .binOp op t x y _ => binP E t op (ρ x) (ρ y)
  | .unOp op _ x => match op with
    | .not => Prog.opt (ρ x).bool? fun b => .one (.ro .bool (!b))
    | .neg => Prog.opt (ρ x).int? fun n => .one (.ro (.int n.1) (n.1.wrap (0 - n.2)))
    | _ => .fail
  | .convert src dst x => convP E src dst (ρ x) fr
  | .makeMap t none => makeMapP E t fr
  | .makeSlice t l c => makeP E rw t (ρ l) (ρ c) fr
  | .fieldAddr t x f => fieldP E t (ρ x) f
  | .indexAddr t x i => Prog.opt (ρ i).int? fun i => idxP E t (ρ x) i.2
  | .index t x i => Prog.opt (ρ i).int? fun i => match (E.info t).shp with
    | .prim => .chk (decide ((E.info t).ty = some .str)) <| Prog.opt (ρ x).str? fun s => .grd (0 ≤ i.2) (.grd (i.2 < (s.size : Int)) (.one (.ro (.int .u8) (bt s i.2.toNat))))
    | _ => .fail
  | .field t x f => match (E.info t).shp, ρ x with
    | .struct fs, .cv true cs => Prog.opt fs[f]? fun p => match (E.info p.1).shp with
      | .struct _ => .fail
      | .array _ _ => .fail
      | .other => .fail
      | _ => Prog.opt cs[p.2]? fun a => .one a
    | .struct fs, .cv false [.ro u y] => .chk u.isAgg <| Prog.opt fs[f]? fun p => Prog.opt (E.info p.1).ty fun v => Prog.opt (projAt v u y p.2) fun z => .one (.ro v z)
    | _, _ => .fail
  | .lookup t x k ok => lookupP E t (ρ x) (ρ k) ok
  | .mapUpdate t m k x | .insert t m k x => mapUpdateP E t (ρ m) (ρ k) (ρ x)
  | .extract t ix => match ρ t with
    | .tup vs => Prog.opt vs[ix]? fun v => .ret ⟨.cv v.1 v.2, []⟩
    | _ => .fail
  | .call c => match c.callee with
    | .builtin .len => match c.args.toList, c.argTypes.toList with
      | [x], [t] => lenP E t (ρ x)
      | _, _ => .fail
    | .builtin .append => match c.args.toList, c.argTypes.toList with
      | [s, x], [t, t'] => .chk (Nat.beq t t') (appendP E t (ρ s) (ρ x) fr)
      | _, _ => .fail
    | .builtin .max => match c.args.toList with
      | [x, y] => Prog.opt (ρ x).int? fun a => Prog.opt (ρ y).int? fun b => .one (.ro (.int a.1) (if b.2 > a.2 then b.2 else a.2))
      | _ => .fail
    | .value (.func f) => Prog.opt (E.fns f) fun c' => callP c' (c.args.toList.map ρ) fr
    | _ => .fail
  | _ => .fail

end Go.Proofs.Yteblfhhhbfodgaa.Sim
/- An interpreter of Go's code over typed data: regions, branches, loops, in continuation passing form. Definitions alone. -/
set_option linter.unusedVariables false
namespace Go.Proofs.Yteblfhhhbfodgaa.Sim
open Go Go.RowKit

inductive Ex where
  | normal
  | exit (id : Nat)
  | ret

def constTV : Value → TV
  | .int k n => .one (.ro (.int k) n)
  | .bool b => .one (.ro .bool b)
  | .string s => .one (.ro .str s)
  | v => .one (.val v)

def undefTV : TV := .one (.val undef)

def St.ev (s : St) : Operand → TV
  | .tmp t => (s.tmps[t]?).getD .junk
  | .const v => constTV v
  | _ => .junk

def St.look (s : St) (i : Nat) : Option Slot := s.objs[i]?
def St.put (s : St) (d : Option Tmp) (v : TV) : St := match d with
  | some d => { s with tmps := s.tmps.set d v }
  | none => s
def setAll (os : List Slot) : Upds → List Slot
  | [] => os
  | u :: us => setAll (os.set u.1 u.2) us
def St.app (s : St) (d : Option Tmp) (r : Res) : St := ({ s with objs := setAll s.objs r.upds } : St).put d r.val

/-! ### Only what is still wanted, and the objects numbered anew -/
def AV.ids : AV → List Nat
  | .own i _ | .ptr i _ | .elt i _ _ _ | .row i _ _ _ | .relt i _ _ _ _ _ | .mp i => [i]
  | .clo _ cs => cs.map (·.1)
  | _ => []
def TV.ids : TV → List Nat
  | .cv _ cs => cs.flatMap AV.ids
  | .tup vs => vs.flatMap fun v => v.2.flatMap AV.ids
def Obj.ids : Obj → List Nat
  | .box _ cs => cs.flatMap AV.ids
  | _ => []
def addNew (l : List Nat) : List Nat → List Nat
  | [] => l
  | x :: xs => addNew (match l.elem x with | true => l | false => l ++ [x]) xs
def closeIds (os : List Slot) : Nat → Nat → List Nat → List Nat
  | 0, _, l => l
  | n + 1, k, l => match l[k]? with
    | none => l
    | some i => closeIds os n (k + 1) (addNew l (((os[i]?).map (·.2.ids)).getD []))
def newNo (l : List Nat) (i : Nat) : Nat := l.idxOf i
def verOk (os : List Slot) (i ver : Nat) : Bool := match os[i]? with
  | some s => Nat.beq s.1 ver
  | none => false
def AV.re (os : List Slot) (l : List Nat) : AV → AV
  | .own i ver => match verOk os i ver && l.elem i with | true => .own (newNo l i) 0 | false => .junk
  | .elt i ver j off => match verOk os i ver && l.elem i with | true => .elt (newNo l i) 0 j off | false => .junk
  | .row _ _ _ _ | .relt _ _ _ _ _ _ => .junk
  | .ptr i off => match l.elem i with | true => .ptr (newNo l i) off | false => .junk
  | .mp i => match l.elem i with | true => .mp (newNo l i) | false => .junk
  | .clo _ _ => .junk
  | a => a
def TV.re (os : List Slot) (l : List Nat) : TV → TV
  | .cv b cs => .cv b (cs.map (AV.re os l))
  | .tup vs => .tup (vs.map fun v => (v.1, v.2.map (AV.re os l)))
def Obj.re (os : List Slot) (l : List Nat) : Obj → Obj
  | .box ty cs => .box ty (cs.map (AV.re os l))
  | .rows _ e e2 t xss => .rows 0 e e2 t xss
  | o => o
def keepOnly (live : List Tmp) : List TV → Nat → List TV
  | [], _ => []
  | v :: vs, n => (match live.elem n with | true => v | false => .junk) :: keepOnly live vs (n + 1)
def St.norm (live : List Tmp) (s : St) : St :=
  let tm := keepOnly live s.tmps 0
  let l0 := addNew [] (tm.flatMap TV.ids)
  let l1 := addNew l0 (s.stack.flatMap fun f => f.flatMap TV.ids)
  let l := (closeIds s.objs 64 0 l1).filter fun i => Nat.blt i s.objs.length
  { tmps := tm.map (TV.re s.objs l), stack := s.stack.map fun f => f.map (TV.re s.objs l),
    objs := l.map fun i => (0, Obj.re s.objs l (((s.objs[i]?).map (·.2)).getD .dead)) }
/-- A row of one's own in a slot, from now on written no more: its data. -/
def St.frz1 (s : St) (t : Tmp) : St := match s.tmps[t]? with
  | some (.cv false [.own i ver]) => match s.objs[i]? with
    | some (v, .arr _ u xs) => match Nat.beq v ver with
      | true => { s with tmps := s.tmps.set t (.one (.ro (.slice u) xs)), objs := s.objs.set i (v, .froz u xs) }
      | false => s
    | _ => s
  | _ => s
def St.frz (s : St) : List Tmp → St
  | [] => s
  | t :: ts => (s.frz1 t).frz ts
def St.normO (live : Option (List Tmp × List Tmp)) (s : St) : St := match live with
  | some l => (s.frz l.2).norm l.1
  | none => s

/-! ### Regions -/
def need (E : Env) (o : Oper) : Nat := match o.op with
  | .move x | .assign x => if isNil x then 1 else 0
  | .alloc t | .build t _ => ((zeroCells E 9 t 0).map (·.2.length)).getD 0 + 1
  | .box _ _ | .buildSlice _ _ _ | .makeSlice _ _ _ | .makeMap _ _ => 1
  | .call c => match c.callee with
    | .builtin .append => 1
    | .value (.func f) => ((E.fns f).map fun c => c.rs.foldl (fun n r => n + r.2.length) 0).getD 0
    | _ => 0
  | _ => 0

structure Rec where
  no : Nat
  reads : List Nat
  writes : List Nat

/-- The places for new objects are free. -/
def deadAt (os : List Slot) (fr : Nat) : Nat → Bool
  | 0 => true
  | n + 1 => (match os[fr]? with | some (v, .dead) => Nat.beq v 0 | _ => false) && deadAt os (fr + 1) n
def frs (fr : Nat) : Nat → List Nat
  | 0 => []
  | n + 1 => fr :: frs (fr + 1) n

def stepK {R : Type} (E : Env) (ops : Array Oper) (i : Nat) (o : Oper) (fr : Nat) (st : St) (K : St → Rec → Option R) : Option R :=
  let run (st : St) : Option R := match deadAt st.objs fr (need E o) with
    | true => (opP E (E.rows (o.dst.getD 0)) o st.ev fr).cps st.look (fun res rds => K (st.app o.dst res) ⟨i, rds ++ frs fr (need E o), res.upds.map (·.1)⟩) []
    | false => none
  let skip (st : St) : Option R := K (st.put o.dst undefTV) ⟨i, [], []⟩
  match o.guard with
  | none => run st
  | some (j, want) => match (ops[j]?).bind (·.dst) with
    | none => none
    | some t => match st.tmps[t]? with
      | some (.cv false [.ro .bool b]) =>
        cond b (match want with | true => run { st with tmps := st.tmps.set t (.one (.ro .bool true)) } | false => skip { st with tmps := st.tmps.set t (.one (.ro .bool true)) })
          (match want with | true => skip { st with tmps := st.tmps.set t (.one (.ro .bool false)) } | false => run { st with tmps := st.tmps.set t (.one (.ro .bool false)) })
      | some (.cv false [.val (.tuple ⟨[]⟩)]) => skip st
      | _ => none

def execOps {R : Type} (E : Env) (ops : Array Oper) : List Oper → Nat → Nat → St → List Rec → (St → List Rec → Option R) → Option R
  | [], _, _, st, rs, K => K st rs
  | o :: rest, i, fr, st, rs, K => stepK E ops i o fr st fun st r => execOps E ops rest (i + 1) (fr + need E o) st (r :: rs) K

def total (E : Env) : List Oper → Nat
  | [] => 0
  | o :: os => need E o + total E os

def hits (a b : List Nat) : Bool := a.any fun x => b.elem x
/-- Two operations that stand in no order don't meddle with each other. -/
def free (ops : Array Oper) (b : Array Nat) (x y : Rec) : Bool :=
  Nat.ble y.no x.no || (b.getD y.no 0).testBit x.no ||
  (!hits x.writes y.reads && !hits y.writes x.reads && !hits x.writes y.writes &&
    match ops[x.no]?, ops[y.no]? with
    | some p, some q => p.apart ops q
    | _, _ => false)
/-- What comes after another comes behind it. -/
def inOrder : List Oper → Nat → Bool
  | [], _ => true
  | o :: os, i => (o.after.toList.all fun e => !Region.binds .any e || Nat.blt e.on i) && inOrder os (i + 1)
def noSelect (os : List Oper) : Bool := os.all fun o => match o.op with
  | .select _ _ => false
  | _ => true
def allFree (ops : Array Oper) (rs : List Rec) : Bool :=
  let b := Region.before ops
  inOrder ops.toList 0 && noSelect ops.toList && rs.all fun x => rs.all fun y => free ops b x y

def execRegion {R : Type} (E : Env) (ops : Array Oper) (draw : Bool) (st : St) (K : St → Option R) : Option R :=
  let l := ops.toList
  execOps E ops l 0 st.objs.length { st with objs := st.objs ++ List.replicate (total E l) (0, .dead) } [] fun st rs => match draw with
    | false => K st
    | true => match allFree ops rs with
      | true => K st
      | false => none

/-! ### Code -/
/-- Behind a piece of code: on where it ends normally, else what stands around. -/
def seqK {R : Type} (k : St → Option R) (K : Ex → St → Option R) : Ex → St → Option R
  | .normal, st => k st
  | .exit id, st => K (.exit id) st
  | .ret, st => K .ret st
def blockK {R : Type} (id : Nat) (K : Ex → St → Option R) : Ex → St → Option R
  | .normal, st => K .normal st
  | .exit i, st => match Nat.beq i id with
    | true => K .normal st
    | false => K (.exit i) st
  | .ret, st => K .ret st
def iterK {R : Type} (body : St → (Ex → St → Option R) → Option R) (nrm : St → St) (K : Ex → St → Option R) : Nat → St → Option R
  | 0, _ => none
  | n + 1, st => body st (seqK (fun st' => iterK body nrm K n (nrm st')) K)

def firstRegion : Code → Option Nat
  | .region id _ _ => some id
  | .seq a _ => firstRegion a
  | .block _ c => firstRegion c
  | .loop c => firstRegion c
  | .scope c => firstRegion c
  | _ => none

/-- How many rounds each loop may take, and which slots are still wanted where. -/
structure Cfg where
  E : Env
  live : List (Nat × List Tmp × List Tmp)
  fuel : Nat

def Cfg.lv (C : Cfg) (r : Option Nat) : Option (List Tmp × List Tmp) := match r with
  | none => none
  | some r => (C.live.find? (fun p => Nat.beq p.1 r)).map (·.2)

def exec {R : Type} (C : Cfg) : Code → St → (Ex → St → Option R) → Option R
  | .skip, st, K => K .normal st
  | .region id ops draw, st, K => execRegion C.E ops draw (st.normO (C.lv (some id))) (K .normal)
  | .seq a b, st, K => exec C a st (seqK (fun st => exec C b st K) K)
  | .cond c x y, st, K => match (st.ev c).bool? with
    | some b => cond b (exec C x st K) (exec C y st K)
    | none => none
  | .block id c, st, K => exec C c st (blockK id K)
  | .loop c, st, K => iterK (exec C c) (St.normO (C.lv (firstRegion c))) K C.fuel (st.normO (C.lv (firstRegion c)))
  | .exit id, st, K => K (.exit id) st
  | .ret, st, K => K .ret st
  | .scope c, st, K => exec C c st K
  | _, _, _ => none

/-- A way into code: left, right, into a block, into a loop of which so many rounds are left, a loop's head with so many rounds. -/
inductive Way where
  | l | r | b
  | loop (n : Nat)
  | iter (n : Nat)

/-- From a point of the code on. -/
def goFrom {R : Type} (C : Cfg) : List Way → Code → St → (Ex → St → Option R) → Option R
  | .l :: p, .seq a b, st, K => goFrom C p a st (seqK (fun st => exec C b st K) K)
  | .r :: p, .seq _ b, st, K => goFrom C p b st K
  | .l :: p, .cond _ x _, st, K => goFrom C p x st K
  | .r :: p, .cond _ _ y, st, K => goFrom C p y st K
  | .b :: p, .block id c, st, K => goFrom C p c st (blockK id K)
  | .loop n :: p, .loop c, st, K => goFrom C p c st (seqK (fun st' => iterK (exec C c) (St.normO (C.lv (firstRegion c))) K n (St.normO (C.lv (firstRegion c)) st')) K)
  | .iter n :: _, .loop c, st, K => iterK (exec C c) (St.normO (C.lv (firstRegion c))) K n st
  | [], c, st, K => exec C c st K
  | _, _, _, _ => none

/-! ### Results -/
def resP (ms : List RM) (cs : List AV) : Prog (RCells ms × Upds) :=
  match ms, cs with
  | [], [] => .ret ((), [])
  | .ro t :: ms, a :: cs => (consA t a).bind fun p => (resP ms cs).bind fun q => .ret ((p.1, q.1), p.2 ++ q.2)
  | .own e t :: ms, .own i ver :: cs => .look i fun s => .chk (Nat.beq s.1 ver) (match s.2 with
    | .arr e' t' xs => .chk (Nat.beq e' e) (Prog.cast (F := fun t => List t.den) t xs fun xs => (resP ms cs).bind fun q => .ret ((xs, q.1), (i, (ver + 1, .dead)) :: q.2))
    | _ => .fail)
  | .rows e e2 t :: ms, .own i ver :: cs => .look i fun s => .chk (Nat.beq s.1 ver) (match s.2 with
    | .rows _ e' e2' t' xs => .chk (Nat.beq e' e && Nat.beq e2' e2) (Prog.cast (F := fun t => List (List t.den)) t xs fun xs => (resP ms cs).bind fun q => .ret ((xs, q.1), (i, (ver + 1, .dead)) :: q.2))
    | _ => .fail)
  | _, _ => .fail

/-- What a result variable holds. -/
def resVar (E : Env) (st : St) : ResultVar → Prog TV
  | .tmp t => .ret ((st.tmps[t]?).getD .junk)
  | .cell a t => (loadP E t ((st.tmps[a]?).getD .junk)).bind fun r => .ret r.val

def resVars (E : Env) (st : St) : (rs : List (Bool × List RM)) → List ResultVar → Prog (RDen rs × Upds)
  | [], [] => .ret ((), [])
  | m :: ms, v :: vs => (resVar E st v).bind fun tv => match tv with
    | .cv b cs => .chk (decide (b = m.1) && (b || Nat.beq cs.length 1)) ((resP m.2 cs).bind fun p => (resVars E st ms vs).bind fun q => .ret ((p.1, q.1), p.2 ++ q.2))
    | _ => .fail
  | _, _ => .fail

def noTwice : List Nat → Bool
  | [] => true
  | x :: xs => !xs.elem x && noTwice xs

def finish {R : Type} (C : Cfg) (rs : List (Bool × List RM)) (g : RDen rs → R) (vs : List ResultVar) (e : Ex) (st : St) : Option R := match e with
  | .exit _ => none
  | _ => (resVars C.E st rs vs).cps st.look (fun p _ => match noTwice (p.2.map (·.1)) with | true => some (g p.1) | false => none) []

def argTVs : (ts : List Ty) → DenL ts → List TV
  | [], _ => []
  | t :: ts, x => .one (.ro t x.1) :: argTVs ts x.2

def start (fn : Func) (ts : List Ty) (x : DenL ts) : St :=
  { tmps := argTVs ts x ++ List.replicate (fn.ntmps - ts.length) undefTV, stack := [], objs := [] }

/-- A frame of so many slots, some of them told. -/
def mkT (n : Nat) (l : List (Nat × TV)) : List TV := l.foldl (fun acc p => acc.set p.1 p.2) (List.replicate n .junk)

def bodyOf (fn : Func) : Code := fn.body.getD .ret

/-- The function's answer, from a point of its code on. -/
def fromAt {R : Type} (C : Cfg) (fn : Func) (rs : List (Bool × List RM)) (g : RDen rs → R) (p : List Way) (st : St) : Option R :=
  goFrom C p (bodyOf fn) st (finish C rs g fn.results.toList)

end Go.Proofs.Yteblfhhhbfodgaa.Sim
/- How the interpreter's state stands to the machine's: which value each abstract value has, which blocks each object holds. -/
set_option linter.unusedVariables false
namespace Go.Proofs.Yteblfhhhbfodgaa.Sim
open Go Go.RowKit

def Obj.live : Obj → Bool
  | .dead => false
  | _ => true
def Obj.isVar : Obj → Bool
  | .box _ _ | .vec _ _ _ _ => true
  | _ => false
def Obj.isMap : Obj → Bool
  | .map _ _ _ _ => true
  | _ => false
/-- How many elements, and their size. -/
def Obj.dim : Obj → Option (Nat × Nat)
  | .arr _ t xs => some (xs.length, t.sz)
  | .vec _ _ t xs => some (xs.length, t.sz)
  | .rows _ _ _ _ xss => some (xss.length, 1)
  | _ => none
/-- Rows in rows: how often one was put in, their lengths, the size of their elements. -/
def Obj.rinfo : Obj → Option (Nat × List Nat × Nat)
  | .rows rv _ _ t xss => some (rv, xss.map List.length, t.sz)
  | _ => none

/-- An object in memory: its value's head, the blocks it holds, the heads of its rows. -/
structure Wit where
  hdr : Value
  bs : List Nat
  rw : List Value

def atOff : Value → Nat → Value
  | .pointer (some a), n => .pointer (some ⟨a.block, n, none⟩)
  | .slice (some a) _ _, n => .pointer (some ⟨a.block, n, none⟩)
  | v, _ => v

/-! ### Maps: the entries in the order of their coming -/
def entsM {K V : Type} (ke : K → Value) (ve : V → Value) : Nat → List (K × V) → List MapEntry
  | _, [] => []
  | b, p :: l => { key := ke p.1, val := ve p.2, born := b } :: entsM ke ve (b + 1) l
/-- The block of a map. -/
def mobj {K V : Type} (ke : K → Value) (ve : V → Value) (l : List (K × V)) : Go.Obj := .map (entsM ke ve 0 l).toArray l.length
/-- A key as a value. -/
def keyV : (t : Ty) → t.den → Value
  | .int k, x => .int k x
  | .str, x => .string x
  | .arr _ (.int _), x => .agg (List.map (Value.int .i64) x).toArray
  | _, _ => undef
def keyGood : (t : Ty) → t.den → Prop
  | .arr n _, x => List.length x = n
  | _, _ => True

section
variable (w : World) (ok : Nat → Prop) (H : Nat → Wit) (os : List Slot)

def AVR : AV → Value → Prop
  | .ro t x, v => ∃ cs, RO w ok t x cs ∧ v = valOf t cs
  | .own i ver, v => v.oneCell' = true ∧ ∃ s, os[i]? = some s ∧ ver ≤ s.1 ∧ (s.1 = ver → s.2.live = true ∧ v = (H i).hdr)
  | .ptr i off, v => v.oneCell' = true ∧ ∃ s, os[i]? = some s ∧ s.2.isVar = true ∧ v = atOff (H i).hdr off
  | .elt i ver j off, v => v.oneCell' = true ∧ ∃ s, os[i]? = some s ∧ ver ≤ s.1 ∧ (s.1 = ver → s.2.live = true ∧ ∀ d, s.2.dim = some d → j < d.1 ∧ v = atOff (H i).hdr (j * d.2 + off))
  | .roelt t x, v => ∃ ad cs, v = .pointer (some ad) ∧ RO w ok t x cs ∧ Mem w ok ad cs
  | .row i ver rv j, v => v.oneCell' = true ∧ ∃ s, os[i]? = some s ∧ ver ≤ s.1 ∧ (s.1 = ver → s.2.live = true ∧ ∀ r, s.2.rinfo = some r → rv ≤ r.1 ∧ (r.1 = rv → j < r.2.1.length ∧ (H i).rw[j]? = some v))
  | .relt i ver rv j k off, v => v.oneCell' = true ∧ ∃ s, os[i]? = some s ∧ ver ≤ s.1 ∧ (s.1 = ver → s.2.live = true ∧ ∀ r, s.2.rinfo = some r → rv ≤ r.1 ∧ (r.1 = rv → ∃ n h, r.2.1[j]? = some n ∧ k < n ∧ (H i).rw[j]? = some h ∧ v = atOff h (k * r.2.2 + off)))
  | .mp i, v => v.oneCell' = true ∧ ∃ s, os[i]? = some s ∧ s.2.isMap = true ∧ v = (H i).hdr
  | .clo _ _, _ => False
  | .val u, v => v = u
  | .junk, _ => True

/-- Cells of a variable or of a struct. -/
def CellsR (cs : List AV) (vs : Array Value) : Prop := vs.size = cs.length ∧ ∀ (k : Nat) a, cs[k]? = some a → ∃ v, vs[k]? = some v ∧ AVR w ok H os a v ∧ v.oneCell' = true

def CVR (b : Bool) (cs : List AV) (v : Value) : Prop := match b with
  | false => ∀ a, cs = [a] → AVR w ok H os a v
  | true => ∃ vs, v = .agg vs ∧ CellsR w ok H os cs vs

def TVR : TV → Value → Prop
  | .cv b cs, v => CVR w ok H os b cs v
  | .tup vs, v => ∃ us, v = .tuple us ∧ ∀ (k : Nat) p, vs[k]? = some p → ∃ u, us[k]? = some u ∧ CVR w ok H os p.1 p.2 u

/-- A map's entries: what stands in memory for them. -/
def MapR (kt vt : Ty) : List (kt.den × vt.den) → List (kt.den × Value) → Prop
  | [], l => l = []
  | p :: es, l => ∃ v l', l = (p.1, v) :: l' ∧ keyGood kt p.1 ∧ (∃ ds, RO w ok vt p.2 ds ∧ v = valOf vt ds) ∧ MapR kt vt es l'

/-- A row: its head, and the cells that its elements take. -/
def RowR (e : TypeId) (t : Ty) (xs : List t.den) (h : Value) : Prop := ∃ fl, ROL (RO w ok t) xs fl ∧ w.ownsRow 0 e t.sz h xs.length fl

def blockOf (v : Value) : List Nat := v.ownBlock.toList

def ObjR (W : Wit) : Obj → Prop
  | .dead => W.bs = []
  | .arr e t xs => 0 < t.sz ∧ RowR w ok e t xs W.hdr ∧ W.bs = blockOf W.hdr
  | .froz t xs => W.bs = [] ∧ RO w ok (.slice t) xs [W.hdr]
  | .rows _ e e2 t xss => 0 < t.sz ∧ W.rw.length = xss.length ∧ w.ownsRow 0 e 1 W.hdr xss.length W.rw ∧ (∀ (j : Nat) xs h, xss[j]? = some xs → W.rw[j]? = some h → RowR w ok e2 t xs h ∧ (xs = [] → h = .slice none 0 0)) ∧ W.bs = blockOf W.hdr ++ W.rw.flatMap blockOf
  | .box ty cells => ∃ g vs, W.hdr = .pointer (some ⟨g, 0, none⟩) ∧ W.bs = [g] ∧ w.heap[g]? = some (.cells vs ty (0, 0)) ∧ CellsR w ok H os cells vs
  | .vec ty n t xs => (0 < t.sz ∧ xs.length = n) ∧ ∃ g fl, W.hdr = .pointer (some ⟨g, 0, none⟩) ∧ W.bs = [g] ∧ ROL (RO w ok t) xs fl ∧ w.heap[g]? = some (.cells fl.toArray ty (0, 0))
  | .map _ kt vt es => ∃ g l, W.hdr = .map (some g) ∧ W.bs = [g] ∧ w.heap[g]? = some (mobj (keyV kt) id l) ∧ MapR w ok kt vt es l
  | .iter _ _ => False
end

/-- What an object may become without misleading those that hold it. -/
structure Evol (s s' : Slot) (W W' : Wit) : Prop where
  ver : s.1 ≤ s'.1
  var : s.2.isVar = true → s'.2.isVar = true ∧ W'.hdr = W.hdr
  map : s.2.isMap = true → s'.2.isMap = true ∧ W'.hdr = W.hdr
  same : s'.1 = s.1 → s.2.live = true → s'.2.live = true ∧ W'.hdr = W.hdr ∧ (∀ d, s'.2.dim = some d → s.2.dim = some d) ∧
    (∀ r', s'.2.rinfo = some r' → ∃ r, s.2.rinfo = some r ∧ r.2.2 = r'.2.2 ∧ r.1 ≤ r'.1 ∧ (r'.1 = r.1 → r.2.1 = r'.2.1 ∧ W'.rw = W.rw))

theorem Evol.refl (s : Slot) (W : Wit) : Evol s s W W := ⟨Nat.le_refl _, fun h => ⟨h, rfl⟩, fun h => ⟨h, rfl⟩, fun _ h => ⟨h, rfl, fun _ h => h, fun r h => ⟨r, h, rfl, Nat.le_refl _, fun _ => ⟨rfl, rfl⟩⟩⟩⟩

/-- All objects that live go on. -/
def Evols (os os' : List Slot) (H H' : Nat → Wit) : Prop := ∀ (i : Nat) s, os[i]? = some s → (0 < s.1 ∨ s.2.live = true) → ∃ s', os'[i]? = some s' ∧ Evol s s' (H i) (H' i)

section
variable {w w' : World} {ok ok' : Nat → Prop} {H H' : Nat → Wit} {os os' : List Slot}

theorem AVR.mono (hw : ∀ b, ok b → w'.heap[b]? = w.heap[b]?) (hk : ∀ b, ok b → ok' b) (he : Evols os os' H H') : ∀ {a : AV} {v : Value}, AVR w ok H os a v → AVR w' ok' H' os' a v := by
  intro a v h
  cases a with
  | ro t x => obtain ⟨cs, h1, h2⟩ := h; exact ⟨cs, h1.mono hw hk, h2⟩
  | roelt t x => obtain ⟨ad, cs, h1, h2, h3⟩ := h; exact ⟨ad, cs, h1, h2.mono hw hk, h3.mono hw hk⟩
  | clo f c => exact h
  | val u => exact h
  | junk => trivial
  | own i ver =>
    obtain ⟨h0, s, h1, h2, h3⟩ := h
    have hl : 0 < s.1 ∨ s.2.live = true := by
      rcases Nat.lt_or_ge 0 s.1 with h | h
      · exact .inl h
      · exact .inr (h3 (by omega)).1
    obtain ⟨s', g1, g2⟩ := he i s h1 hl
    refine ⟨h0, s', g1, Nat.le_trans h2 g2.ver, fun hv => ?_⟩
    have hs : s.1 = ver := by have := g2.ver; omega
    obtain ⟨k1, k2⟩ := h3 hs
    obtain ⟨m1, m2, _⟩ := g2.same (by omega) k1
    exact ⟨m1, k2.trans m2.symm⟩
  | ptr i off =>
    obtain ⟨h0, s, h1, h2, h3⟩ := h
    have hl : s.2.live = true := by cases hs : s.2 <;> rw [hs] at h2 <;> first | rfl | cases h2
    obtain ⟨s', g1, g2⟩ := he i s h1 (.inr hl)
    obtain ⟨k1, k2⟩ := g2.var h2
    exact ⟨h0, s', g1, k1, by rw [k2]; exact h3⟩
  | mp i =>
    obtain ⟨h0, s, h1, h2, h3⟩ := h
    have hl : s.2.live = true := by cases hs : s.2 <;> rw [hs] at h2 <;> first | rfl | cases h2
    obtain ⟨s', g1, g2⟩ := he i s h1 (.inr hl)
    obtain ⟨k1, k2⟩ := g2.map h2
    exact ⟨h0, s', g1, k1, by rw [k2]; exact h3⟩
  | elt i ver j off =>
    obtain ⟨h0, s, h1, h2, h3⟩ := h
    have hl : 0 < s.1 ∨ s.2.live = true := by
      rcases Nat.lt_or_ge 0 s.1 with h | h
      · exact .inl h
      · exact .inr (h3 (by omega)).1
    obtain ⟨s', g1, g2⟩ := he i s h1 hl
    refine ⟨h0, s', g1, Nat.le_trans h2 g2.ver, fun hv => ?_⟩
    have hs : s.1 = ver := by have := g2.ver; omega
    obtain ⟨k1, k2⟩ := h3 hs
    obtain ⟨m1, m2, m3, _⟩ := g2.same (by omega) k1
    exact ⟨m1, fun d hd => by rw [m2]; exact k2 d (m3 d hd)⟩
  | row i ver rv j =>
    obtain ⟨h0, s, h1, h2, h3⟩ := h
    have hl : 0 < s.1 ∨ s.2.live = true := by
      rcases Nat.lt_or_ge 0 s.1 with h | h
      · exact .inl h
      · exact .inr (h3 (by omega)).1
    obtain ⟨s', g1, g2⟩ := he i s h1 hl
    refine ⟨h0, s', g1, Nat.le_trans h2 g2.ver, fun hv => ?_⟩
    have hs : s.1 = ver := by have := g2.ver; omega
    obtain ⟨k1, k2⟩ := h3 hs
    obtain ⟨m1, m2, _, m4⟩ := g2.same (by omega) k1
    refine ⟨m1, fun r' hr' => ?_⟩
    obtain ⟨r, e1, e2, e3, e4⟩ := m4 r' hr'
    obtain ⟨q1, q2⟩ := k2 r e1
    refine ⟨Nat.le_trans q1 e3, fun hrv => ?_⟩
    obtain ⟨p1, p2⟩ := e4 (by omega)
    obtain ⟨t1, t2⟩ := q2 (by omega)
    exact ⟨by rw [← p1]; exact t1, by rw [p2]; exact t2⟩
  | relt i ver rv j k off =>
    obtain ⟨h0, s, h1, h2, h3⟩ := h
    have hl : 0 < s.1 ∨ s.2.live = true := by
      rcases Nat.lt_or_ge 0 s.1 with h | h
      · exact .inl h
      · exact .inr (h3 (by omega)).1
    obtain ⟨s', g1, g2⟩ := he i s h1 hl
    refine ⟨h0, s', g1, Nat.le_trans h2 g2.ver, fun hv => ?_⟩
    have hs : s.1 = ver := by have := g2.ver; omega
    obtain ⟨k1, k2⟩ := h3 hs
    obtain ⟨m1, m2, _, m4⟩ := g2.same (by omega) k1
    refine ⟨m1, fun r' hr' => ?_⟩
    obtain ⟨r, e1, e2, e3, e4⟩ := m4 r' hr'
    obtain ⟨q1, q2⟩ := k2 r e1
    refine ⟨Nat.le_trans q1 e3, fun hrv => ?_⟩
    obtain ⟨p1, p2⟩ := e4 (by omega)
    obtain ⟨n, hh, t1, t2, t3, t4⟩ := q2 (by omega)
    exact ⟨n, hh, by rw [← p1]; exact t1, t2, by rw [p2]; exact t3, by rw [← e2]; exact t4⟩

theorem CellsR.mono (hw : ∀ b, ok b → w'.heap[b]? = w.heap[b]?) (hk : ∀ b, ok b → ok' b) (he : Evols os os' H H') {cs : List AV} {vs : Array Value} (h : CellsR w ok H os cs vs) : CellsR w' ok' H' os' cs vs :=
  ⟨h.1, fun k a ha => by obtain ⟨v, h1, h2, h3⟩ := h.2 k a ha; exact ⟨v, h1, h2.mono hw hk he, h3⟩⟩

theorem CVR.mono (hw : ∀ b, ok b → w'.heap[b]? = w.heap[b]?) (hk : ∀ b, ok b → ok' b) (he : Evols os os' H H') {b : Bool} {cs : List AV} {v : Value} (h : CVR w ok H os b cs v) : CVR w' ok' H' os' b cs v := by
  cases b with
  | false => exact fun a ha => (h a ha).mono hw hk he
  | true => obtain ⟨vs, h1, h2⟩ := h; exact ⟨vs, h1, h2.mono hw hk he⟩

theorem TVR.mono (hw : ∀ b, ok b → w'.heap[b]? = w.heap[b]?) (hk : ∀ b, ok b → ok' b) (he : Evols os os' H H') {x : TV} {v : Value} (h : TVR w ok H os x v) : TVR w' ok' H' os' x v := by
  cases x with
  | cv b cs => exact CVR.mono hw hk he h
  | tup vs => obtain ⟨us, h1, h2⟩ := h; exact ⟨us, h1, fun k p hp => by obtain ⟨u, g1, g2⟩ := h2 k p hp; exact ⟨u, g1, g2.mono hw hk he⟩⟩

theorem ownsRow_block {e : TypeId} {size n : Nat} {v : Value} {xs : List Value} (h : w.ownsRow 0 e size v n xs) (hb : ∀ b ∈ blockOf v, w'.heap[b]? = w.heap[b]?) : w'.ownsRow 0 e size v n xs := by
  obtain ⟨h1, h2⟩ := h
  refine ⟨h1, ?_⟩
  rcases h2 with h2 | ⟨g, cap, cur, rfl, h3, h4, h5⟩
  · exact .inl h2
  · exact .inr ⟨g, cap, cur, rfl, h3, (hb g (by simp [blockOf, Value.ownBlock])).trans h4, h5⟩

theorem RowR.mono (hw : ∀ b, ok b → w'.heap[b]? = w.heap[b]?) (hk : ∀ b, ok b → ok' b) {e : TypeId} {t : Ty} {xs : List t.den} {h : Value} (hb : ∀ b ∈ blockOf h, w'.heap[b]? = w.heap[b]?) (hr : RowR w ok e t xs h) : RowR w' ok' e t xs h := by
  obtain ⟨fl, h1, h2⟩ := hr
  exact ⟨fl, ROL_imp (fun _ _ h => h.mono hw hk) h1, ownsRow_block h2 hb⟩

theorem MapR.mono (hw : ∀ b, ok b → w'.heap[b]? = w.heap[b]?) (hk : ∀ b, ok b → ok' b) {kt vt : Ty} : ∀ {es : List (kt.den × vt.den)} {ms : List (kt.den × Value)}, MapR w ok kt vt es ms → MapR w' ok' kt vt es ms
  | [], _, h => h
  | _ :: _, _, ⟨v, l', h1, h2, ⟨ds, h3, h4⟩, h5⟩ => ⟨v, l', h1, h2, ⟨ds, h3.mono hw hk, h4⟩, MapR.mono hw hk h5⟩
theorem MapR_len {kt vt : Ty} : ∀ {es : List (kt.den × vt.den)} {ms : List (kt.den × Value)}, MapR w ok kt vt es ms → ms.length = es.length
  | [], _, h => by cases h; rfl
  | _ :: _, _, ⟨v, l', h1, _, _, h5⟩ => by rw [h1, List.length_cons, List.length_cons, MapR_len h5]

theorem ObjR.mono (hw : ∀ b, ok b → w'.heap[b]? = w.heap[b]?) (hk : ∀ b, ok b → ok' b) (he : Evols os os' H H') {W : Wit} {o : Obj} (hb : ∀ b ∈ W.bs, w'.heap[b]? = w.heap[b]?) (h : ObjR w ok H os W o) : ObjR w' ok' H' os' W o := by
  cases o with
  | dead => exact h
  | arr e t xs => exact ⟨h.1, h.2.1.mono hw hk (by rw [← h.2.2]; exact hb), h.2.2⟩
  | froz t xs => exact ⟨h.1, h.2.mono hw hk⟩
  | rows rv e e2 t xss =>
    obtain ⟨h1, h2, h3, h4, h5⟩ := h
    refine ⟨h1, h2, ownsRow_block h3 (fun b hm => hb b (by rw [h5]; exact List.mem_append_left _ hm)), fun j xs hh hx hr => ?_, h5⟩
    obtain ⟨k1, k2⟩ := h4 j xs hh hx hr
    refine ⟨k1.mono hw hk (fun b hm => hb b ?_), k2⟩
    rw [h5]
    exact List.mem_append_right _ (List.mem_flatMap.2 ⟨hh, List.mem_of_getElem? hr, hm⟩)
  | box ty cells =>
    obtain ⟨g, vs, h1, h2, h3, h4⟩ := h
    exact ⟨g, vs, h1, h2, (hb g (by rw [h2]; simp)).trans h3, h4.mono hw hk he⟩
  | vec ty n t xs =>
    obtain ⟨h0, g, fl, h1, h2, h3, h4⟩ := h
    exact ⟨h0, g, fl, h1, h2, ROL_imp (fun _ _ h => h.mono hw hk) h3, (hb g (by rw [h2]; simp)).trans h4⟩
  | map mt kt vt es =>
    obtain ⟨g, ms, h1, h2, h3, h4⟩ := h
    exact ⟨g, ms, h1, h2, (hb g (by rw [h2]; simp)).trans h3, h4.mono hw hk⟩
  | iter s p => exact h
end

/-- Where a function began: the world, the old blocks that stay as they are and may be read, those that it may write; the values that its ghost frames hold. -/
structure Ctx where
  w0 : World
  ok0 : Nat → Prop
  wr : Nat → Prop
  st : List (List Value)
abbrev Ctx.pure (w : World) (ok0 : Nat → Prop) : Ctx := ⟨w, ok0, fun _ => False, []⟩

/-- The world goes on, the old blocks that may not be written standing. -/
structure Bel (X : Ctx) (w w' : World) : Prop where
  os : w'.os = w.os
  tape : w'.tape = w.tape
  output : w'.output = w.output
  size : w.heap.size ≤ w'.heap.size
  block : ∀ k, k < X.w0.heap.size → ¬ X.wr k → w'.heap[k]? = w.heap[k]?
theorem Bel.refl (X : Ctx) (w : World) : Bel X w w := ⟨rfl, rfl, rfl, Nat.le_refl _, fun _ _ _ => rfl⟩
theorem Bel.trans {X : Ctx} {a b c : World} (h : Bel X a b) (k : Bel X b c) : Bel X a c :=
  ⟨k.os.trans h.os, k.tape.trans h.tape, k.output.trans h.output, Nat.le_trans h.size k.size, fun i hi hm => (k.block i hi hm).trans (h.block i hi hm)⟩
theorem Below.bel {X : Ctx} {w w' : World} (h : Below X.w0.heap.size w w') : Bel X w w' := ⟨h.os, h.tape, h.output, h.size, fun k hk _ => h.block k hk⟩
theorem Bel.below {w0 : World} {ok0 : Nat → Prop} {w w' : World} (h : Bel (.pure w0 ok0) w w') : Below w0.heap.size w w' := ⟨h.os, h.tape, h.output, h.size, fun k hk => h.block k hk id⟩

/-- Blocks that nobody writes from now on. -/
def okOf (X : Ctx) (w : World) (H : Nat → Wit) (os : List Slot) (b : Nat) : Prop :=
  b < w.heap.size ∧ (b < X.w0.heap.size → X.ok0 b ∨ X.wr b) ∧ ∀ i, i < os.length → b ∉ (H i).bs

/-- The objects, and the blocks they hold. -/
structure HeapR (X : Ctx) (H : Nat → Wit) (os : List Slot) (w : World) : Prop where
  below : Bel X X.w0 w
  obj : ∀ (i : Nat) s, os[i]? = some s → ObjR w (okOf X w H os) H os (H i) s.2
  dis : ∀ i j b, i < os.length → j < os.length → i ≠ j → b ∈ (H i).bs → b ∉ (H j).bs
  nod : ∀ i, i < os.length → (H i).bs.Nodup
  rng : ∀ i b, i < os.length → b ∈ (H i).bs → (X.w0.heap.size ≤ b ∨ X.wr b) ∧ b < w.heap.size

/-- Frames, slot by slot. -/
def StackR (w : World) (ok : Nat → Prop) (H : Nat → Wit) (os : List Slot) (S : List (List TV)) (V : List (List Value)) : Prop :=
  ∀ (k : Nat) fr, S[k]? = some fr → ∃ vs, V[k]? = some vs ∧ ∀ (j : Nat) x, fr[j]? = some x → ∃ v, vs[j]? = some v ∧ TVR w ok H os x v
theorem StackR.imp {w w' : World} {ok ok' : Nat → Prop} {H H' : Nat → Wit} {os os' : List Slot} {S : List (List TV)} {V : List (List Value)} (g : ∀ y u, TVR w ok H os y u → TVR w' ok' H' os' y u) (h : StackR w ok H os S V) : StackR w' ok' H' os' S V := fun k fr hk => by
  obtain ⟨vs, h1, h2⟩ := h k fr hk
  exact ⟨vs, h1, fun j x hx => by obtain ⟨v, h3, h4⟩ := h2 j x hx; exact ⟨v, h3, g x v h4⟩⟩
structure RelH (X : Ctx) (H : Nat → Wit) (st : St) (a : Act) (w : World) : Prop where
  heap : HeapR X H st.objs w
  size : a.tmps.size = st.tmps.length
  tmps : ∀ (t : Nat) x, st.tmps[t]? = some x → ∃ v, a.tmps[t]? = some v ∧ TVR w (okOf X w H st.objs) H st.objs x v
  defers : a.defers = []
  stack : StackR w (okOf X w H st.objs) H st.objs st.stack X.st

def Rel (X : Ctx) (st : St) (a : Act) (w : World) : Prop := ∃ H, RelH X H st a w

end Go.Proofs.Yteblfhhhbfodgaa.Sim
/- What a table of types has to say of the program's own, and the law by which a step carries all that stands. -/
set_option linter.unusedVariables false
namespace Go.Proofs.Yteblfhhhbfodgaa.Sim
open Go Go.RowKit

/-! ### The table of types -/
/-- A struct's fields one behind the other. -/
def Chain (E : Env) : List (TypeId × Nat) → Nat → Ty → Prop
  | [], _, ty => ty = .unit
  | f :: fs, off, ty => ∃ a b, ty = .pair a b ∧ (E.info f.1).ty = some a ∧ f.2 = off ∧ Chain E fs (off + a.sz) b
structure TIok (P : Program) (E : Env) (t : TypeId) : Prop where
  info : (E.info t).shp ≠ .other → ∃ i, P.info? t = some i ∧ i.size = (E.info t).size ∧ i.bytes = (E.info t).bytes ∧ (∀ ty, (E.info t).ty = some ty → ty.sz = (E.info t).size ∧ i.zero = some (valOf ty ty.zcells)) ∧ ((E.info t).ty = none → ∀ k v, (E.info t).shp = .map k v → i.zero = some (.map none))
  tyo : ∀ ty, (E.info t).ty = some ty → (E.info t).shp ≠ .other
  prim : (E.info t).shp = .prim → ∃ ty, (E.info t).ty = some ty ∧ ((∃ k, ty = .int k ∧ P.underlying t = some (.int k)) ∨ (ty = .bool ∧ P.underlying t = some .bool) ∨ (ty = .str ∧ P.underlying t = some .string))
  slice : ∀ e, (E.info t).shp = .slice e → P.underlying t = some (.slice e) ∧ (∀ u, (E.info e).ty = some u → (E.info t).ty = some (.slice u) ∧ 0 < u.sz ∧ 0 < (E.info e).bytes) ∧ (∀ ty, (E.info t).ty = some ty → ∃ u, ty = .slice u ∧ (E.info e).ty = some u)
  struct : ∀ fs, (E.info t).shp = .struct fs → ∃ F : Array Field, P.underlying t = some (.struct F) ∧ F.toList.map (fun f => (f.type, f.offset)) = fs ∧ (∀ ty, (E.info t).ty = some ty → Chain E fs 0 ty)
  array : ∀ n e, (E.info t).shp = .array n e → P.underlying t = some (.array n e) ∧ (∀ ty, (E.info t).ty = some ty → ∃ u, ty = .arr n u ∧ (E.info e).ty = some u ∧ 0 < u.sz)
  map : ∀ k v, (E.info t).shp = .map k v → P.underlying t = some (.map k v) ∧ (E.info t).ty = none

def TabOk (P : Program) (E : Env) : Prop := ∀ t, TIok P E t

/-! ### A step -/
section
variable {X : Ctx} {H H' : Nat → Wit} {os os' : List Slot} {w w' : World}

theorem HeapR.update (h : HeapR X H os w) (U : Nat → Prop) (hlen : os'.length = os.length) (hbel : Bel X w w') (hsz : w.heap.size ≤ w'.heap.size)
    (hU : ∀ i, ¬ U i → os'[i]? = os[i]? ∧ H' i = H i)
    (hblk : ∀ b, b < w.heap.size → (∀ i, U i → i < os.length → b ∉ (H i).bs) → w'.heap[b]? = w.heap[b]?)
    (hbs : ∀ i, U i → i < os.length → (∀ b ∈ (H' i).bs, ((∃ j, U j ∧ j < os.length ∧ b ∈ (H j).bs) ∨ w.heap.size ≤ b) ∧ b < w'.heap.size) ∧ (H' i).bs.Nodup)
    (hdis : ∀ i j b, U i → U j → i < os.length → j < os.length → i ≠ j → b ∈ (H' i).bs → b ∉ (H' j).bs)
    (hev : Evols os os' H H')
    (hnew : (∀ b, okOf X w H os b → okOf X w' H' os' b) → (∀ b, okOf X w H os b → w'.heap[b]? = w.heap[b]?) → ∀ (i : Nat) s', U i → os'[i]? = some s' → ObjR w' (okOf X w' H' os') H' os' (H' i) s'.2) :
    HeapR X H' os' w' ∧ (∀ b, okOf X w H os b → okOf X w' H' os' b) ∧ (∀ b, okOf X w H os b → w'.heap[b]? = w.heap[b]?) := by
  have hok : ∀ b, okOf X w H os b → okOf X w' H' os' b := by
    rintro b ⟨h1, h2, h3⟩
    refine ⟨Nat.lt_of_lt_of_le h1 hsz, h2, fun i hi hm => ?_⟩
    rw [hlen] at hi
    by_cases hu : U i
    · rcases ((hbs i hu hi).1 b hm).1 with ⟨j, _, hj, hjm⟩ | hge
      · exact h3 j hj hjm
      · omega
    · rw [(hU i hu).2] at hm
      exact h3 i hi hm
  have hun : ∀ b, okOf X w H os b → w'.heap[b]? = w.heap[b]? := fun b hb => hblk b hb.1 (fun i _ hi => hb.2.2 i hi)
  refine ⟨⟨h.below.trans hbel, fun i s hs => ?_, fun i j b hi hj hij hb hb' => ?_, fun i hi => ?_, fun i b hi hb => ?_⟩, hok, hun⟩
  · by_cases hu : U i
    · exact hnew hok hun i s hu hs
    · obtain ⟨e1, e2⟩ := hU i hu
      rw [e2]
      rw [e1] at hs
      have hi : i < os.length := (List.getElem?_eq_some_iff.1 hs).1
      refine (h.obj i s hs).mono hun hok hev (fun b hb => hblk b (h.rng i b hi hb).2 (fun j hj hjl hjm => ?_))
      exact h.dis i j b hi hjl (fun e => hu (e ▸ hj)) hb hjm
  · rw [hlen] at hi hj
    by_cases hu : U i
    · by_cases hv : U j
      · exact hdis i j b hu hv hi hj hij hb hb'
      · rw [(hU j hv).2] at hb'
        rcases ((hbs i hu hi).1 b hb).1 with ⟨k, hk, hkl, hkm⟩ | hge
        · exact h.dis k j b hkl hj (fun e => hv (e ▸ hk)) hkm hb'
        · have := (h.rng j b hj hb').2; omega
    · rw [(hU i hu).2] at hb
      by_cases hv : U j
      · rcases ((hbs j hv hj).1 b hb').1 with ⟨k, hk, hkl, hkm⟩ | hge
        · exact h.dis k i b hkl hi (fun e => hu (e ▸ hk)) hkm hb
        · have := (h.rng i b hi hb).2; omega
      · rw [(hU j hv).2] at hb'
        exact h.dis i j b hi hj hij hb hb'
  · rw [hlen] at hi
    by_cases hu : U i
    · exact (hbs i hu hi).2
    · rw [(hU i hu).2]; exact h.nod i hi
  · rw [hlen] at hi
    by_cases hu : U i
    · obtain ⟨k1, k2⟩ := (hbs i hu hi).1 b hb
      refine ⟨?_, k2⟩
      rcases k1 with ⟨j, _, hj, hjm⟩ | hge
      · exact (h.rng j b hj hjm).1
      · exact .inl (Nat.le_trans h.below.size hge)
    · rw [(hU i hu).2] at hb
      exact ⟨(h.rng i b hi hb).1, Nat.lt_of_lt_of_le (h.rng i b hi hb).2 hsz⟩

/-- Where a step came to: the objects, and a value that stands to an abstract one; all that stood stands. -/
def Out (X : Ctx) (H : Nat → Wit) (os : List Slot) (w : World) (os' : List Slot) (x : TV) (v : Value) (w' : World) : Prop :=
  ∃ H', HeapR X H' os' w' ∧ (∀ y u, TVR w (okOf X w H os) H os y u → TVR w' (okOf X w' H' os') H' os' y u) ∧ TVR w' (okOf X w' H' os') H' os' x v

theorem Out.pure (h : HeapR X H os w) {x : TV} {v : Value} (hx : TVR w (okOf X w H os) H os x v) : Out X H os w os x v w := ⟨H, h, fun _ _ h => h, hx⟩

theorem RelH.app {st : St} {a : Act} {r : Res} {d : Option Tmp} {v : Value} (h : RelH X H st a w) (ho : Out X H st.objs w (setAll st.objs r.upds) r.val v w') : Rel X (st.app d r) (a.put d v) w' := by
  obtain ⟨H', h1, h2, h3⟩ := ho
  cases d with
  | none => exact ⟨H', h1, h.size, fun t x hx => by obtain ⟨u, g1, g2⟩ := h.tmps t x hx; exact ⟨u, g1, h2 _ _ g2⟩, h.defers, h.stack.imp h2⟩
  | some d =>
    refine ⟨H', h1, ?_, fun t x hx => ?_, h.defers, h.stack.imp h2⟩
    · simp only [Act.put, St.app, St.put, Array.size_setIfInBounds, List.length_set]; exact h.size
    · simp only [St.app, St.put] at hx ⊢
      simp only [Act.put]
      by_cases hd : d = t
      · subst hd
        rw [List.getElem?_set] at hx
        simp only [if_true] at hx
        split at hx
        · rename_i hlt
          refine ⟨v, ?_, by cases hx; exact h3⟩
          rw [Array.getElem?_setIfInBounds]
          simp [h.size, hlt]
        · cases hx
      · rw [List.getElem?_set_ne hd] at hx
        obtain ⟨u, g1, g2⟩ := h.tmps t x hx
        exact ⟨u, by rw [Array.getElem?_setIfInBounds_ne hd]; exact g1, h2 _ _ g2⟩

theorem RelH.ev {st : St} {a : Act} (h : RelH X H st a w) (x : Operand) : TVR w (okOf X w H st.objs) H st.objs (st.ev x) (a.eval x) := by
  cases x with
  | tmp t =>
    simp only [St.ev, Act.eval]
    cases hx : st.tmps[t]? with
    | none => intro a e; cases e; trivial
    | some y =>
      obtain ⟨u, g1, g2⟩ := h.tmps t y hx
      have e : a.tmps.getD t undef = u := by simp [Array.getD_eq_getD_getElem?, g1]
      rw [e]; exact g2
  | const v =>
    simp only [St.ev, Act.eval]
    cases v <;> first
      | (intro a e; cases e; exact ⟨_, rfl, rfl⟩)
      | (intro a e; cases e; exact rfl)
  | global g => intro a e; cases e; trivial
  | func f => intro a e; cases e; trivial
end

end Go.Proofs.Yteblfhhhbfodgaa.Sim
/- Data out of the objects; operations that leave memory alone. -/
set_option linter.unusedVariables false
set_option linter.unusedSimpArgs false
namespace Go.Proofs.Yteblfhhhbfodgaa.Sim
open Go Go.RowKit
universe u

/-! ### Running a 'Prog' -/
section
variable {α β : Type} {l : Nat → Option Slot}
theorem Prog.run_bind (p : Prog α) (f : α → Prog β) {r : β} {rd : List Nat} : (p.bind f).run l = some (r, rd) → ∃ a rd1 rd2, p.run l = some (a, rd1) ∧ (f a).run l = some (r, rd2) ∧ rd = rd1 ++ rd2 := by
  induction p generalizing rd with
  | ret a => intro h; exact ⟨a, [], rd, rfl, h, rfl⟩
  | fail => intro h; cases h
  | guard c d k ih =>
    intro h
    simp only [Prog.bind, Prog.run] at h ⊢
    by_cases hc : c
    · rw [if_pos hc] at h ⊢; exact ih h
    · rw [if_neg hc] at h; cases h
  | look i k ih =>
    intro h
    simp only [Prog.bind, Prog.run] at h ⊢
    cases hl : l i with
    | none => rw [hl] at h; cases h
    | some s =>
      rw [hl] at h
      simp only [Option.map_eq_some_iff, Prod.mk.injEq] at h
      obtain ⟨⟨r', rd'⟩, h1, h2, h3⟩ := h
      simp only at h2 h3
      subst h2; subst h3
      obtain ⟨a, rd1, rd2, g1, g2, g3⟩ := ih s h1
      exact ⟨a, i :: rd1, rd2, by simp [g1], g2, by simp [g3]⟩
  | bindO γ x k ih =>
    intro h
    simp only [Prog.bind, Prog.run] at h ⊢
    cases x with
    | none => cases h
    | some b => exact ih b h
theorem Prog.run_opt {γ : Type u} {x : Option γ} {k : γ → Prog α} {r : α × List Nat} (h : (Prog.opt x k).run l = some r) : ∃ a, x = some a ∧ (k a).run l = some r := by
  cases x with
  | none => cases h
  | some a => exact ⟨a, rfl, h⟩
theorem Prog.run_chk {b : Bool} {k : Prog α} {r : α × List Nat} (h : (Prog.chk b k).run l = some r) : b = true ∧ k.run l = some r := by
  cases b with
  | false => cases h
  | true => exact ⟨rfl, h⟩
theorem Prog.run_grd {c : Prop} [d : Decidable c] {k : Prog α} {r : α × List Nat} (h : (Prog.guard c d k).run l = some r) : c ∧ k.run l = some r := by
  simp only [Prog.run] at h
  by_cases hc : c
  · rw [if_pos hc] at h; exact ⟨hc, h⟩
  · rw [if_neg hc] at h; cases h
theorem Prog.run_look {i : Nat} {k : Slot → Prog α} {a : α} {rd : List Nat} (h : (Prog.look i k).run l = some (a, rd)) : ∃ s rd', l i = some s ∧ (k s).run l = some (a, rd') := by
  simp only [Prog.run] at h
  cases hl : l i with
  | none => rw [hl] at h; cases h
  | some s =>
    rw [hl] at h
    simp only [Option.map_eq_some_iff] at h
    obtain ⟨⟨r', rd'⟩, h1, h2⟩ := h
    injection h2 with h2 h3
    subst h2
    exact ⟨s, rd', rfl, h1⟩
theorem Prog.run_ret {a b : α} {rd : List Nat} (h : (Prog.ret a).run l = some (b, rd)) : a = b := by
  simp only [Prog.run, Option.some.injEq, Prod.mk.injEq] at h; exact h.1
theorem Prog.run_cast {F : Ty → Type} {t' t : Ty} {x : F t'} {k : F t → Prog α} {r : α × List Nat} (h : (Prog.cast (F := F) t x k).run l = some r) : ∃ e : t' = t, (k (e ▸ x)).run l = some r := by
  unfold Prog.cast at h
  split at h
  · rename_i e _; exact ⟨e, h⟩
  · cases h
end

section
variable {X : Ctx} {H : Nat → Wit} {os : List Slot} {w : World}

/-- All blocks that there are. -/
def allOk (w : World) (b : Nat) : Prop := b < w.heap.size

theorem okOf_all {b : Nat} (h : okOf X w H os b) : allOk w b := h.1

theorem row_reads {ok : Nat → Prop} {e : TypeId} {t : Ty} {xs : List t.den} {v : Value} (h : RowR w ok e t xs v) (hk : ∀ b, ok b → allOk w b) : RO w (allOk w) (.slice t) xs [v] := by
  obtain ⟨fl, h1, h2⟩ := h
  rcases h2.2 with ⟨e1, e2⟩ | ⟨g, cap, cur, rfl, h3, h4, h5, h6, h7, h8⟩
  · have : xs = [] := List.eq_nil_of_length_eq_zero e2
    subst this
    exact ⟨none, 0, by rw [e1]; rfl, Nat.le_refl _, fun _ => rfl, fun h => absurd h (Nat.lt_irrefl 0)⟩
  · refine ⟨_, cap, rfl, h5, (fun h => by cases h), fun _ => ⟨⟨g, 0, none⟩, fl, rfl, ROL_imp (fun _ _ h => h.mono (fun _ _ => rfl) hk) h1, (Array.getElem?_eq_some_iff.1 h4).1, fun j u hu => h2.cells (g := g) rfl j u hu⟩⟩

theorem beq_of {a b : Nat} (h : Nat.beq a b = true) : a = b := Nat.eq_of_beq_eq_true h

/-- What 'viewA' tells is there to be read. -/
theorem viewA_ok (hh : HeapR X H os w) {t : Ty} {a : AV} {v : Value} (ha : AVR w (okOf X w H os) H os a v) {x : t.den} {rd : List Nat} (h : (viewA t a).run (fun i => os[i]?) = some (x, rd)) : ∃ cs, RO w (allOk w) t x cs ∧ v = valOf t cs := by
  cases a with
  | ro t' y =>
    simp only [viewA] at h
    obtain ⟨e, h⟩ := Prog.run_cast h
    subst e
    cases Prog.run_ret h
    obtain ⟨cs, h1, h2⟩ := ha
    exact ⟨cs, h1.mono (fun _ _ => rfl) (fun _ h => h.1), h2⟩
  | own i ver =>
    cases t with
    | slice e =>
      obtain ⟨s, rd', hs, h⟩ := Prog.run_look h
      obtain ⟨hv, h⟩ := Prog.run_chk h
      obtain ⟨_, s0, g1, _, g3⟩ := ha
      have : s0 = s := Option.some.inj (g1.symm.trans hs)
      subst this
      obtain ⟨_, hv2⟩ := g3 (beq_of hv)
      have ho := hh.obj i s0 g1
      cases hsl : s0.2 with
      | arr e0 t' xs =>
        rw [hsl] at h ho
        obtain ⟨e1, h⟩ := Prog.run_cast h
        subst e1
        cases Prog.run_ret h
        exact ⟨_, row_reads ho.2.1 (fun _ h => h.1), by rw [hv2]; rfl⟩
      | froz t' xs =>
        rw [hsl] at h ho
        obtain ⟨e1, h⟩ := Prog.run_cast h
        subst e1
        cases Prog.run_ret h
        exact ⟨_, ho.2.mono (fun _ _ => rfl) (fun _ h => h.1), by rw [hv2]; rfl⟩
      | rows rv e0 e2 t' xss =>
        rw [hsl] at h ho
        cases e with
        | slice e1 =>
          obtain ⟨e3, h⟩ := Prog.run_cast h
          subst e3
          cases Prog.run_ret h
          obtain ⟨k1, k2, k3, k4, k5⟩ := ho
          refine ⟨[(H i).hdr], ?_, by rw [hv2]; rfl⟩
          have hlen : (H i).rw.length = xss.length := k2
          -- the heads read as rows
          have key : ∀ (ls : List (List t'.den)) (hs : List Value), hs.length = ls.length → (∀ (j : Nat) xs h, ls[j]? = some xs → hs[j]? = some h → RowR w (okOf X w H os) e2 t' xs h) → ROL (RO w (allOk w) (.slice t')) ls hs := by
            intro ls
            induction ls with
            | nil => intro hs hl _; exact List.eq_nil_of_length_eq_zero hl
            | cons y ys ih =>
              intro hs hl hr
              cases hs with
              | nil => cases hl
              | cons b bs =>
                exact ⟨[b], bs, rfl, row_reads (hr 0 y b rfl rfl) (fun _ h => h.1), ih bs (by simpa using hl) (fun j xs h h1 h2 => hr (j + 1) xs h h1 h2)⟩
          have hrol := key xss (H i).rw hlen (fun j xs h h1 h2 => (k4 j xs h h1 h2).1)
          rcases k3.2 with ⟨e1, e2'⟩ | ⟨g, cap, cur, e1, h3, h4, h5, h6, h7, h8⟩
          · have : xss = [] := List.eq_nil_of_length_eq_zero e2'
            subst this
            exact ⟨none, 0, by rw [e1]; rfl, Nat.le_refl _, fun _ => rfl, fun h => absurd h (Nat.lt_irrefl 0)⟩
          · refine ⟨_, cap, by rw [e1], h5, (fun h => by cases h), fun _ => ⟨⟨g, 0, none⟩, (H i).rw, rfl, hrol, (Array.getElem?_eq_some_iff.1 h4).1, fun j u hu => k3.cells (g := g) (by rw [e1]; rfl) j u hu⟩⟩
        | _ => cases h
      | _ => rw [hsl] at h; cases h
    | _ => cases h
  | row i ver rv j =>
    cases t with
    | slice e =>
      obtain ⟨s, rd', hs, h⟩ := Prog.run_look h
      obtain ⟨hv, h⟩ := Prog.run_chk h
      obtain ⟨_, s0, g1, _, g3⟩ := ha
      have : s0 = s := Option.some.inj (g1.symm.trans hs)
      subst this
      obtain ⟨_, hv2⟩ := g3 (beq_of hv)
      have ho := hh.obj i s0 g1
      cases hsl : s0.2 with
      | rows rv' e0 e2 t' xss =>
        rw [hsl] at h ho
        obtain ⟨hrv, h⟩ := Prog.run_chk h
        obtain ⟨e1, h⟩ := Prog.run_cast h
        subst e1
        cases Prog.run_ret h
        obtain ⟨q1, q2⟩ := hv2 (rv', xss.map List.length, t'.sz) (by rw [hsl]; rfl)
        obtain ⟨q3, q4⟩ := q2 (beq_of hrv)
        obtain ⟨k1, k2, k3, k4, k5⟩ := ho
        have hj : j < xss.length := by simpa using q3
        have hg : xss.getD j [] = xss[j] := by simp [List.getD_eq_getElem?_getD, hj]
        obtain ⟨r1, _⟩ := k4 j _ v (List.getElem?_eq_getElem hj) q4
        exact ⟨[v], by rw [hg]; exact row_reads r1 (fun _ h => h.1), rfl⟩
      | _ => rw [hsl] at h; cases h
    | _ => cases h
  | val u =>
    obtain rfl : v = u := ha
    simp only [viewA] at h
    split at h
    · cases Prog.run_ret h
      exact ⟨[.slice none 0 0], ⟨none, 0, rfl, Nat.le_refl _, fun _ => rfl, fun h => absurd h (Nat.lt_irrefl 0)⟩, rfl⟩
    · cases h
  | _ => cases h

theorem one_of_val {t : Ty} {cs : List Value} {v : Value} {ok : Nat → Prop} {x : t.den} (h : RO w ok t x cs) (hv : v = valOf t cs) (ht : t.isAgg = false) : cs = [v] := by
  have hl := RO_len h
  have hs : t.sz = 1 := by cases t <;> first | rfl | cases ht
  rw [hs] at hl
  obtain ⟨u, rfl⟩ := List.length_eq_one_iff.1 hl
  rw [hv]; unfold valOf; rw [ht]; rfl

theorem viewCells_ok (hh : HeapR X H os w) : ∀ (t : Ty) (as : List AV) (vs : List Value), as.length = vs.length → (∀ (k : Nat) a, as[k]? = some a → ∃ v, vs[k]? = some v ∧ AVR w (okOf X w H os) H os a v) →
    ∀ {p : t.den × List AV} {rd : List Nat}, (viewCells t as).run (fun i => os[i]?) = some (p, rd) → ∃ cs vs', vs = cs ++ vs' ∧ RO w (allOk w) t p.1 cs ∧ p.2.length = vs'.length ∧ (∀ (k : Nat) a, p.2[k]? = some a → ∃ v, vs'[k]? = some v ∧ AVR w (okOf X w H os) H os a v)
  | .unit, as, vs, hl, hr, p, rd, h => by
    simp only [viewCells] at h
    cases Prog.run_ret h
    exact ⟨[], vs, rfl, rfl, hl, hr⟩
  | .pair a b, as, vs, hl, hr, p, rd, h => by
    simp only [viewCells] at h
    obtain ⟨q, _, _, h1, h2, _⟩ := Prog.run_bind _ _ h
    obtain ⟨r, _, _, h3, h4, _⟩ := Prog.run_bind _ _ h2
    cases Prog.run_ret h4
    obtain ⟨cs, vs', e1, e2, e3, e4⟩ := viewCells_ok hh a as vs hl hr h1
    obtain ⟨ds, vs'', f1, f2, f3, f4⟩ := viewCells_ok hh b q.2 vs' e3 e4 h3
    exact ⟨cs ++ ds, vs'', by rw [e1, f1, List.append_assoc], ⟨cs, ds, rfl, e2, f2⟩, f3, f4⟩
  | .arr _ _, as, vs, hl, hr, p, rd, h => by cases as <;> cases h
  | .int k, [], vs, hl, hr, p, rd, h => by cases h
  | .bool, [], vs, hl, hr, p, rd, h => by cases h
  | .str, [], vs, hl, hr, p, rd, h => by cases h
  | .slice e, [], vs, hl, hr, p, rd, h => by cases h
  | .int k, a :: as, vs, hl, hr, p, rd, h => by
    obtain ⟨x, _, _, h1, h2, _⟩ := Prog.run_bind _ _ h
    cases Prog.run_ret h2
    obtain ⟨v, g1, g2⟩ := hr 0 a rfl
    cases vs with
    | nil => cases g1
    | cons v' vs =>
      cases g1
      obtain ⟨cs, e1, e2⟩ := viewA_ok hh g2 h1
      exact ⟨cs, vs, by rw [one_of_val e1 e2 rfl]; rfl, e1, by simpa using hl, fun k a ha => hr (k + 1) a ha⟩
  | .bool, a :: as, vs, hl, hr, p, rd, h => by
    obtain ⟨x, _, _, h1, h2, _⟩ := Prog.run_bind _ _ h
    cases Prog.run_ret h2
    obtain ⟨v, g1, g2⟩ := hr 0 a rfl
    cases vs with
    | nil => cases g1
    | cons v' vs =>
      cases g1
      obtain ⟨cs, e1, e2⟩ := viewA_ok hh g2 h1
      exact ⟨cs, vs, by rw [one_of_val e1 e2 rfl]; rfl, e1, by simpa using hl, fun k a ha => hr (k + 1) a ha⟩
  | .str, a :: as, vs, hl, hr, p, rd, h => by
    obtain ⟨x, _, _, h1, h2, _⟩ := Prog.run_bind _ _ h
    cases Prog.run_ret h2
    obtain ⟨v, g1, g2⟩ := hr 0 a rfl
    cases vs with
    | nil => cases g1
    | cons v' vs =>
      cases g1
      obtain ⟨cs, e1, e2⟩ := viewA_ok hh g2 h1
      exact ⟨cs, vs, by rw [one_of_val e1 e2 rfl]; rfl, e1, by simpa using hl, fun k a ha => hr (k + 1) a ha⟩
  | .slice e, a :: as, vs, hl, hr, p, rd, h => by
    obtain ⟨x, _, _, h1, h2, _⟩ := Prog.run_bind _ _ h
    cases Prog.run_ret h2
    obtain ⟨v, g1, g2⟩ := hr 0 a rfl
    cases vs with
    | nil => cases g1
    | cons v' vs =>
      cases g1
      obtain ⟨cs, e1, e2⟩ := viewA_ok hh g2 h1
      exact ⟨cs, vs, by rw [one_of_val e1 e2 rfl]; rfl, e1, by simpa using hl, fun k a ha => hr (k + 1) a ha⟩

theorem view_ok (hh : HeapR X H os w) {t : Ty} {y : TV} {v : Value} (hy : TVR w (okOf X w H os) H os y v) {x : t.den} {rd : List Nat} (h : (view t y).run (fun i => os[i]?) = some (x, rd)) : ∃ cs, RO w (allOk w) t x cs ∧ v = valOf t cs := by
  unfold view at h
  split at h
  · exact viewA_ok hh (hy _ rfl) h
  · rename_i as
    obtain ⟨hag, h⟩ := Prog.run_chk h
    obtain ⟨p, _, _, h1, h2, _⟩ := Prog.run_bind _ _ h
    obtain ⟨vs, e1, e2, e3⟩ := hy
    obtain ⟨cs, vs', f1, f2, f3, f4⟩ := viewCells_ok hh t as vs.toList (by simpa using e2.symm) (fun k a ha => by
      obtain ⟨v, q1, q2, _⟩ := e3 k a ha; exact ⟨v, by simpa using q1, q2⟩) h1
    split at h2
    · rename_i hp
      cases Prog.run_ret h2
      rw [hp] at f3
      have : vs' = [] := List.eq_nil_of_length_eq_zero f3.symm
      subst this
      refine ⟨cs, f2, ?_⟩
      rw [e1]; unfold valOf; rw [hag, if_pos rfl, ← List.append_nil cs, ← f1]
    · cases h2
  · cases h
end

end Go.Proofs.Yteblfhhhbfodgaa.Sim
/- Steps that turn one object; rows that are written no more. -/
set_option linter.unusedVariables false
set_option linter.unusedSimpArgs false
namespace Go.Proofs.Yteblfhhhbfodgaa.Sim
open Go Go.RowKit

def updH (H : Nat → Wit) (i : Nat) (W : Wit) : Nat → Wit := fun j => if j = i then W else H j
theorem updH_same (H : Nat → Wit) (i : Nat) (W : Wit) : updH H i W i = W := if_pos rfl
theorem updH_other (H : Nat → Wit) {i j : Nat} (W : Wit) (h : j ≠ i) : updH H i W j = H j := if_neg h

section
variable {X : Ctx} {H : Nat → Wit} {os : List Slot} {w w' : World}

/-- All that stood stands. -/
def Kept (X : Ctx) (H : Nat → Wit) (os : List Slot) (w : World) (H' : Nat → Wit) (os' : List Slot) (w' : World) : Prop :=
  HeapR X H' os' w' ∧ (∀ b, okOf X w H os b → okOf X w' H' os' b) ∧ (∀ b, okOf X w H os b → w'.heap[b]? = w.heap[b]?) ∧ Evols os os' H H'

theorem Kept.tv {H' : Nat → Wit} {os' : List Slot} (k : Kept X H os w H' os' w') {y : TV} {u : Value} (h : TVR w (okOf X w H os) H os y u) : TVR w' (okOf X w' H' os') H' os' y u := h.mono k.2.2.1 k.2.1 k.2.2.2
theorem Kept.av {H' : Nat → Wit} {os' : List Slot} (k : Kept X H os w H' os' w') {y : AV} {u : Value} (h : AVR w (okOf X w H os) H os y u) : AVR w' (okOf X w' H' os') H' os' y u := h.mono k.2.2.1 k.2.1 k.2.2.2
theorem Kept.ro {H' : Nat → Wit} {os' : List Slot} (k : Kept X H os w H' os' w') {t : Ty} {x : t.den} {cs : List Value} (h : RO w (okOf X w H os) t x cs) : RO w' (okOf X w' H' os') t x cs := h.mono k.2.2.1 k.2.1
theorem Kept.out {H' : Nat → Wit} {os' : List Slot} (k : Kept X H os w H' os' w') {x : TV} {v : Value} (h : TVR w' (okOf X w' H' os') H' os' x v) : Out X H os w os' x v w' := ⟨H', k.1, fun _ _ => k.tv, h⟩
theorem Kept.refl (h : HeapR X H os w) : Kept X H os w H os w := ⟨h, fun _ h => h, fun _ _ => rfl, fun i s hs _ => ⟨s, hs, Evol.refl _ _⟩⟩
theorem Evol.trans {s s' s'' : Slot} {W W' W'' : Wit} (h : Evol s s' W W') (k : Evol s' s'' W' W'') : Evol s s'' W W'' :=
  ⟨Nat.le_trans h.ver k.ver, fun hv => ⟨(k.var (h.var hv).1).1, (k.var (h.var hv).1).2.trans (h.var hv).2⟩, fun hv => ⟨(k.map (h.map hv).1).1, (k.map (h.map hv).1).2.trans (h.map hv).2⟩, fun e hl => by
    have h1 := h.ver
    have h2 := k.ver
    obtain ⟨a1, a2, a3, a4⟩ := h.same (by omega) hl
    obtain ⟨b1, b2, b3, b4⟩ := k.same (by omega) a1
    refine ⟨b1, b2.trans a2, fun d hd => a3 d (b3 d hd), fun r hr => ?_⟩
    obtain ⟨r1, c1, c2, c3, c4⟩ := b4 r hr
    obtain ⟨r2, d1, d2, d3, d4⟩ := a4 r1 c1
    refine ⟨r2, d1, d2.trans c2, Nat.le_trans d3 c3, fun e => ?_⟩
    obtain ⟨p1, p2⟩ := c4 (by omega)
    obtain ⟨q1, q2⟩ := d4 (by omega)
    exact ⟨q1.trans p1, p2.trans q2⟩⟩
theorem Kept.trans {H' H'' : Nat → Wit} {os' os'' : List Slot} {w'' : World} (k : Kept X H os w H' os' w') (k' : Kept X H' os' w' H'' os'' w'') : Kept X H os w H'' os'' w'' :=
  ⟨k'.1, fun b h => k'.2.1 b (k.2.1 b h), fun b h => (k'.2.2.1 b (k.2.1 b h)).trans (k.2.2.1 b h), fun i s hs hl => by
    obtain ⟨s', h1, h2⟩ := k.2.2.2 i s hs hl
    obtain ⟨s'', h3, h4⟩ := k'.2.2.2 i s' h1 (by
      rcases Nat.lt_or_ge 0 s'.1 with h | h
      · exact .inl h
      · have := h2.ver
        rcases hl with hl | hl
        · omega
        · exact .inr (h2.same (by omega) hl).1)
    exact ⟨s'', h3, h2.trans h4⟩⟩

theorem HeapR.one (h : HeapR X H os w) {i : Nat} {s s' : Slot} (hs : os[i]? = some s) (W' : Wit) (hbel : Bel X w w') (hsz : w.heap.size ≤ w'.heap.size)
    (hblk : ∀ b, b < w.heap.size → b ∉ (H i).bs → w'.heap[b]? = w.heap[b]?)
    (hbs : ∀ b ∈ W'.bs, (b ∈ (H i).bs ∨ w.heap.size ≤ b) ∧ b < w'.heap.size) (hnd : W'.bs.Nodup)
    (hev : s = (0, .dead) ∨ Evol s s' (H i) W')
    (hnew : (∀ b, okOf X w H os b → okOf X w' (updH H i W') (os.set i s') b) → (∀ b, okOf X w H os b → w'.heap[b]? = w.heap[b]?) → Evols os (os.set i s') H (updH H i W') → ObjR w' (okOf X w' (updH H i W') (os.set i s')) (updH H i W') (os.set i s') W' s'.2) :
    Kept X H os w (updH H i W') (os.set i s') w' := by
  have hi : i < os.length := (List.getElem?_eq_some_iff.1 hs).1
  have he : Evols os (os.set i s') H (updH H i W') := by
    intro j t ht hl
    by_cases hj : j = i
    · subst hj
      have : t = s := Option.some.inj (ht.symm.trans hs)
      subst this
      rcases hev with rfl | hev
      · rcases hl with hl | hl
        · exact absurd hl (Nat.lt_irrefl 0)
        · cases hl
      · exact ⟨s', by rw [List.getElem?_set_self hi], by rw [updH_same]; exact hev⟩
    · exact ⟨t, by rw [List.getElem?_set_ne (fun e => hj e.symm)]; exact ht, by rw [updH_other H W' hj]; exact Evol.refl _ _⟩
  obtain ⟨h1, h2, h3⟩ := h.update (os' := os.set i s') (H' := updH H i W') (fun j => j = i) (by simp) hbel hsz
    (fun j hj => ⟨List.getElem?_set_ne (fun e => hj e.symm), updH_other H W' hj⟩)
    (fun b hb hn => hblk b hb (hn i rfl hi))
    (fun j hj _ => by subst hj; rw [updH_same]; exact ⟨fun b hb => ⟨(hbs b hb).1.imp (fun hm => ⟨j, rfl, hi, hm⟩) id, (hbs b hb).2⟩, hnd⟩)
    (fun j k b hj hk _ _ hne => absurd (hj.trans hk.symm) hne)
    he (fun hok hun j t hj ht => by
      subst hj
      rw [List.getElem?_set_self hi] at ht
      cases ht
      rw [updH_same]
      exact hnew hok hun he)
  exact ⟨h1, h2, h3, he⟩

/-! ### Rows that are written no more -/
/-- An object as data that is written no more. -/
def Obj.frozen : Obj → Option ((t : Ty) × List t.den)
  | .arr _ t xs => some ⟨t, xs⟩
  | .froz t xs => some ⟨t, xs⟩
  | .rows _ _ _ t xss => some ⟨.slice t, xss⟩
  | _ => none
def FrzV (os : List Slot) (us : Upds) : Prop := ∀ i sl, (i, sl) ∈ us → ∃ s p, os[i]? = some s ∧ s.2.frozen = some p ∧ sl = (s.1, .froz p.1 p.2)
abbrev FrzU := FrzV
theorem FrzV.v {os : List Slot} {us : Upds} (h : FrzV os us) : FrzV os us := h

/-- A row reads as data, once its block is nobody's. -/
theorem row_ro {ok : Nat → Prop} {e : TypeId} {t : Ty} {xs : List t.den} {v : Value} (h : RowR w ok e t xs v) (hk : ∀ b ∈ blockOf v, ok b) : RO w ok (.slice t) xs [v] := by
  obtain ⟨fl, h1, h2⟩ := h
  rcases h2.2 with ⟨e1, e2⟩ | ⟨g, cap, cur, rfl, h3, h4, h5, h6, h7, h8⟩
  · have : xs = [] := List.eq_nil_of_length_eq_zero e2
    subst this
    exact ⟨none, 0, by rw [e1]; rfl, Nat.le_refl _, fun _ => rfl, fun h => absurd h (Nat.lt_irrefl 0)⟩
  · exact ⟨_, cap, rfl, h5, (fun h => by cases h), fun _ => ⟨⟨g, 0, none⟩, fl, rfl, h1, hk g (by simp [blockOf, Value.ownBlock]), fun j u hu => h2.cells (g := g) rfl j u hu⟩⟩

theorem frz_one (h : HeapR X H os w) {i : Nat} {s : Slot} {p : (t : Ty) × List t.den} (hs : os[i]? = some s) (hp : s.2.frozen = some p) :
    Kept X H os w (updH H i ⟨(H i).hdr, [], (H i).rw⟩) (os.set i (s.1, .froz p.1 p.2)) w := by
  have hi : i < os.length := (List.getElem?_eq_some_iff.1 hs).1
  have ho := h.obj i _ hs
  obtain ⟨n, o⟩ := s
  have hlive : ∀ {o : Obj}, o.frozen = some p → o.isVar = false ∧ o.isMap = false := by
    intro o ho
    cases o <;> first | exact ⟨rfl, rfl⟩ | cases ho
  refine h.one hs _ (Bel.refl _ _) (Nat.le_refl _) (fun _ _ _ => rfl) (fun b hb => by cases hb) List.nodup_nil
    (.inr ⟨Nat.le_refl _, (fun hv => by rw [(hlive hp).1] at hv; cases hv), (fun hv => by rw [(hlive hp).2] at hv; cases hv), fun _ _ => ⟨rfl, rfl, (fun d hd => by cases hd), (fun r hr => by cases hr)⟩⟩) (fun hok hun _ => ?_)
  -- the object's blocks are nobody's now
  have hfree : ∀ g ∈ (H i).bs, okOf X w (updH H i ⟨(H i).hdr, [], (H i).rw⟩) (os.set i (n, .froz p.1 p.2)) g := by
    intro g hm
    refine ⟨(h.rng i g hi hm).2, fun hlt => .inr ((h.rng i g hi hm).1.resolve_left (Nat.not_le.2 hlt)), fun j hj hjm => ?_⟩
    by_cases hji : j = i
    · subst hji; rw [updH_same] at hjm; cases hjm
    · rw [updH_other H _ hji] at hjm
      exact h.dis i j g hi (by simpa using hj) (fun e => hji e.symm) hm hjm
  refine ⟨rfl, ?_⟩
  cases o with
  | arr e t xs =>
    cases hp
    exact row_ro (ho.2.1.mono (fun _ _ => rfl) hok (fun _ _ => rfl)) (fun b hb => hfree b (by rw [ho.2.2]; exact hb))
  | froz t xs =>
    cases hp
    exact ho.2.mono (fun _ _ => rfl) hok
  | rows rv e e2 t xss =>
    cases hp
    obtain ⟨k1, k2, k3, k4, k5⟩ := ho
    have key : ∀ (ls : List (List t.den)) (hs : List Value), hs.length = ls.length → (∀ (j : Nat) xs h, ls[j]? = some xs → hs[j]? = some h → RowR w (okOf X w H os) e2 t xs h ∧ ∀ b ∈ blockOf h, b ∈ (H i).bs) → ROL (RO w (okOf X w (updH H i ⟨(H i).hdr, [], (H i).rw⟩) (os.set i (n, .froz (.slice t) xss))) (.slice t)) ls hs := by
      intro ls
      induction ls with
      | nil => intro hs hl _; exact List.eq_nil_of_length_eq_zero hl
      | cons y ys ih =>
        intro hs hl hr
        cases hs with
        | nil => cases hl
        | cons b bs =>
          obtain ⟨q1, q2⟩ := hr 0 y b rfl rfl
          exact ⟨[b], bs, rfl, row_ro (q1.mono (fun _ _ => rfl) hok (fun _ _ => rfl)) (fun c hc => hfree c (q2 c hc)), ih bs (by simpa using hl) (fun j xs h h1 h2 => hr (j + 1) xs h h1 h2)⟩
    have hrol := key xss (H i).rw k2 (fun j xs h h1 h2 => ⟨(k4 j xs h h1 h2).1, fun b hb => by rw [k5]; exact List.mem_append_right _ (List.mem_flatMap.2 ⟨h, List.mem_of_getElem? h2, hb⟩)⟩)
    rcases k3.2 with ⟨e1, e2'⟩ | ⟨g, cap, cur, e1, h3, h4, h5, h6, h7, h8⟩
    · have : xss = [] := List.eq_nil_of_length_eq_zero e2'
      subst this
      exact ⟨none, 0, by rw [e1]; rfl, Nat.le_refl _, fun _ => rfl, fun h => absurd h (Nat.lt_irrefl 0)⟩
    · exact ⟨_, cap, by rw [e1], h5, (fun h => by cases h), fun _ => ⟨⟨g, 0, none⟩, (H i).rw, rfl, hrol, hfree g (by rw [k5, e1]; simp [blockOf, Value.ownBlock]), fun j u hu => k3.cells (g := g) (by rw [e1]; rfl) j u hu⟩⟩
  | _ => cases hp

theorem setAll_length (us : Upds) : ∀ os : List Slot, (setAll os us).length = os.length := by
  induction us with
  | nil => intro os; rfl
  | cons u us ih => intro os; simp only [setAll]; rw [ih]; simp
theorem setAll_append (us vs : Upds) : ∀ os : List Slot, setAll os (us ++ vs) = setAll (setAll os us) vs := by
  induction us with
  | nil => intro os; rfl
  | cons u us ih => intro os; simp only [setAll, List.cons_append]; exact ih _
theorem setAll_other (us : Upds) {i : Nat} (h : apart i us = true) : ∀ os : List Slot, (setAll os us)[i]? = os[i]? := by
  induction us with
  | nil => intro os; rfl
  | cons u us ih =>
    intro os
    simp only [apart, List.all_cons, Bool.and_eq_true, Bool.not_eq_true'] at h
    simp only [setAll]
    rw [ih h.2, List.getElem?_set_ne (fun e => by rw [e] at h; simp at h)]

theorem frz_all : ∀ (us : Upds) {H : Nat → Wit} {os : List Slot}, HeapR X H os w → FrzV os us → ∃ H', Kept X H os w H' (setAll os us) w ∧ (∀ i, apart i us = true → H' i = H i) ∧
    (∀ i sl, (i, sl) ∈ us → (setAll os us)[i]? = some sl) ∧ (∀ (i : Nat) ver t xs, os[i]? = some (ver, Obj.froz t xs) → (setAll os us)[i]? = some (ver, .froz t xs))
  | [], H, os, h, _ => ⟨H, Kept.refl h, fun _ _ => rfl, (fun _ _ hm => by cases hm), fun _ _ _ _ hs => hs⟩
  | (i, sl) :: us, H, os, h, hf => by
    obtain ⟨s, p, h1, hp, rfl⟩ := hf i sl List.mem_cons_self
    have hlen : i < os.length := (List.getElem?_eq_some_iff.1 h1).1
    have k1 := frz_one h h1 hp
    have hf' : FrzV (os.set i (s.1, .froz p.1 p.2)) us := by
      intro j sl hm
      obtain ⟨s', p', g1, g2, g3⟩ := hf j sl (List.mem_cons_of_mem _ hm)
      by_cases hj : i = j
      · subst hj
        have : s = s' := Option.some.inj (h1.symm.trans g1)
        subst this
        have : p = p' := Option.some.inj (hp.symm.trans g2)
        subst this
        exact ⟨_, p, List.getElem?_set_self hlen, rfl, g3⟩
      · exact ⟨s', p', by rw [List.getElem?_set_ne hj]; exact g1, g2, g3⟩
    obtain ⟨H2, k3, k4, k5, k6⟩ := frz_all us k1.1 hf'
    refine ⟨H2, k1.trans k3, fun j hj => ?_, fun j sl hm => ?_, fun j v t' xs' hs => ?_⟩
    · simp only [apart, List.all_cons, Bool.and_eq_true, Bool.not_eq_true'] at hj
      rw [k4 j hj.2, updH_other H _ (fun e => by rw [e] at hj; simp at hj)]
    · rcases List.mem_cons.1 hm with e | hm
      · cases e
        exact k6 i s.1 p.1 p.2 (List.getElem?_set_self hlen)
      · exact k5 j sl hm
    · by_cases hj : i = j
      · subst hj
        have : s = (v, .froz t' xs') := Option.some.inj (h1.symm.trans hs)
        subst this
        cases hp
        exact k6 i _ _ _ (List.getElem?_set_self hlen)
      · exact k6 j v t' xs' (by rw [List.getElem?_set_ne hj]; exact hs)

end
end Go.Proofs.Yteblfhhhbfodgaa.Sim
/- Data that goes into memory; parts of data; the operations, one by one (reading ones). -/
set_option linter.unusedVariables false
set_option linter.unusedSimpArgs false
namespace Go.Proofs.Yteblfhhhbfodgaa.Sim
open Go Go.RowKit

section
variable {X : Ctx} {H H' : Nat → Wit} {os os' : List Slot} {w w' : World}

theorem consA_frz {t : Ty} {a : AV} {x : t.den} {us : Upds} {rd : List Nat} (h : (consA t a).run (fun i => os[i]?) = some ((x, us), rd)) : FrzU os us := by
  cases a with
  | ro t' y =>
    simp only [consA] at h
    obtain ⟨e, h⟩ := Prog.run_cast h
    cases Prog.run_ret h
    intro i sl hm; cases hm
  | own i ver =>
    simp only [consA] at h
    cases t with
    | slice e =>
      obtain ⟨s, rd', hs, h⟩ := Prog.run_look h
      obtain ⟨hv, h⟩ := Prog.run_chk h
      obtain ⟨v, o⟩ := s
      have hv' : v = ver := beq_of hv
      subst hv'
      cases o with
      | arr e0 t' xs =>
        obtain ⟨e1, h⟩ := Prog.run_cast h
        subst e1
        cases Prog.run_ret h
        intro j sl hm
        cases List.mem_singleton.1 hm
        exact ⟨_, _, hs, rfl, rfl⟩
      | froz t' xs =>
        obtain ⟨e1, h⟩ := Prog.run_cast h
        cases Prog.run_ret h
        intro i sl hm; cases hm
      | rows rv e0 e2 t' xss =>
        cases e with
        | slice e1 =>
          obtain ⟨e3, h⟩ := Prog.run_cast h
          subst e3
          cases Prog.run_ret h
          intro j sl hm
          cases List.mem_singleton.1 hm
          exact ⟨_, _, hs, rfl, rfl⟩
        | _ => cases h
      | _ => cases h
    | _ => cases h
  | val u =>
    simp only [consA] at h
    split at h
    · cases Prog.run_ret h
      intro i sl hm; cases hm
    · cases h
  | _ => cases h

theorem consA_reads (k : Kept X H os w H' os' w') {t : Ty} {a : AV} {v : Value} (ha : AVR w (okOf X w H os) H os a v) {x : t.den} {us : Upds} {rd : List Nat} (h : (consA t a).run (fun i => os[i]?) = some ((x, us), rd))
    (hus : ∀ i sl, (i, sl) ∈ us → os'[i]? = some sl) (hfz : ∀ (i : Nat) ver t xs, os[i]? = some (ver, Obj.froz t xs) → os'[i]? = some (ver, .froz t xs)) : ∃ cs, RO w' (okOf X w' H' os') t x cs ∧ v = valOf t cs := by
  have ha' := k.av ha
  cases a with
  | ro t' y =>
    simp only [consA] at h
    obtain ⟨e, h⟩ := Prog.run_cast h
    subst e
    cases Prog.run_ret h
    exact ha'
  | own i ver =>
    simp only [consA] at h
    cases t with
    | slice e =>
      obtain ⟨s, rd', hs, h⟩ := Prog.run_look h
      obtain ⟨hv, h⟩ := Prog.run_chk h
      obtain ⟨v', o⟩ := s
      have hv' : v' = ver := beq_of hv
      subst hv'
      have key : ∀ (t' : Ty) (xs : List t'.den), os'[i]? = some (v', .froz t' xs) → ∃ cs, RO w' (okOf X w' H' os') (.slice t') xs cs ∧ v = valOf (.slice t') cs := by
        intro t' xs hs'
        obtain ⟨_, s1, g1, g2, g3⟩ := ha'
        have : s1 = (v', .froz t' xs) := Option.some.inj (g1.symm.trans hs')
        subst this
        obtain ⟨_, hv2⟩ := g3 rfl
        have ho := k.1.obj i _ hs'
        exact ⟨_, ho.2, by rw [hv2]; rfl⟩
      cases o with
      | arr e0 t' xs =>
        obtain ⟨e1, h⟩ := Prog.run_cast h
        subst e1
        cases Prog.run_ret h
        exact key _ _ (hus i _ (List.mem_singleton.2 rfl))
      | froz t' xs =>
        obtain ⟨e1, h⟩ := Prog.run_cast h
        subst e1
        cases Prog.run_ret h
        exact key _ _ (hfz i _ _ _ hs)
      | rows rv e0 e2 t' xss =>
        cases e with
        | slice e1 =>
          obtain ⟨e3, h⟩ := Prog.run_cast h
          subst e3
          cases Prog.run_ret h
          exact key (.slice t') xss (hus i _ (List.mem_singleton.2 rfl))
        | _ => cases h
      | _ => cases h
    | _ => cases h
  | val u =>
    obtain rfl : v = u := ha
    simp only [consA] at h
    split at h
    · cases Prog.run_ret h
      exact ⟨[.slice none 0 0], ⟨none, 0, rfl, Nat.le_refl _, fun _ => rfl, fun h => absurd h (Nat.lt_irrefl 0)⟩, rfl⟩
    · cases h
  | _ => cases h

theorem FrzU.append {us vs : Upds} (h : FrzU os us) (k : FrzU os vs) : FrzU os (us ++ vs) := fun i sl hm => (List.mem_append.1 hm).elim (h i sl) (k i sl)

theorem consCells_frz : ∀ (t : Ty) (as : List AV) {p : (t.den × Upds) × List AV} {rd : List Nat}, (consCells t as).run (fun i => os[i]?) = some (p, rd) → FrzU os p.1.2
  | .unit, as, p, rd, h => by
    simp only [consCells] at h
    cases Prog.run_ret h
    intro i sl hm; cases hm
  | .pair a b, as, p, rd, h => by
    simp only [consCells] at h
    obtain ⟨q, _, _, h1, h2, _⟩ := Prog.run_bind _ _ h
    obtain ⟨r, _, _, h3, h4, _⟩ := Prog.run_bind _ _ h2
    cases Prog.run_ret h4
    exact (consCells_frz a as h1).append (consCells_frz b q.2 h3)
  | .arr _ _, as, p, rd, h => by cases as <;> cases h
  | .int k, [], p, rd, h => by cases h
  | .bool, [], p, rd, h => by cases h
  | .str, [], p, rd, h => by cases h
  | .slice e, [], p, rd, h => by cases h
  | .int k, a :: as, p, rd, h => by
    obtain ⟨x, _, _, h1, h2, _⟩ := Prog.run_bind _ _ h
    cases Prog.run_ret h2
    exact consA_frz h1
  | .bool, a :: as, p, rd, h => by
    obtain ⟨x, _, _, h1, h2, _⟩ := Prog.run_bind _ _ h
    cases Prog.run_ret h2
    exact consA_frz h1
  | .str, a :: as, p, rd, h => by
    obtain ⟨x, _, _, h1, h2, _⟩ := Prog.run_bind _ _ h
    cases Prog.run_ret h2
    exact consA_frz h1
  | .slice e, a :: as, p, rd, h => by
    obtain ⟨x, _, _, h1, h2, _⟩ := Prog.run_bind _ _ h
    cases Prog.run_ret h2
    exact consA_frz h1

theorem consCells_one (k : Kept X H os w H' os' w') (hfz : ∀ (i : Nat) ver t xs, os[i]? = some (ver, Obj.froz t xs) → os'[i]? = some (ver, .froz t xs)) {t : Ty} (ht : t.isAgg = false) {a : AV} {as : List AV} {vs : List Value} (hl : (a :: as).length = vs.length)
    (hr : ∀ (k : Nat) b, (a :: as)[k]? = some b → ∃ v, vs[k]? = some v ∧ AVR w (okOf X w H os) H os b v) {p : (t.den × Upds) × List AV} {rd : List Nat} (h : ((consA t a).bind fun x => Prog.ret (x, as)).run (fun i => os[i]?) = some (p, rd)) (hus : ∀ i sl, (i, sl) ∈ p.1.2 → os'[i]? = some sl) :
    ∃ cs vs', vs = cs ++ vs' ∧ RO w' (okOf X w' H' os') t p.1.1 cs ∧ p.2.length = vs'.length ∧ (∀ (k : Nat) a, p.2[k]? = some a → ∃ v, vs'[k]? = some v ∧ AVR w (okOf X w H os) H os a v) := by
  obtain ⟨x, _, _, h1, h2, _⟩ := Prog.run_bind _ _ h
  cases Prog.run_ret h2
  obtain ⟨v, g1, g2⟩ := hr 0 a rfl
  cases vs with
  | nil => cases g1
  | cons v' vs =>
    cases g1
    obtain ⟨cs, e1, e2⟩ := consA_reads k g2 h1 hus hfz
    exact ⟨cs, vs, by rw [one_of_val e1 e2 ht]; rfl, e1, by simpa using hl, fun k a ha => hr (k + 1) a ha⟩

theorem consCells_reads (k : Kept X H os w H' os' w') (hfz : ∀ (i : Nat) ver t xs, os[i]? = some (ver, Obj.froz t xs) → os'[i]? = some (ver, .froz t xs)) : ∀ (t : Ty) (as : List AV) (vs : List Value), as.length = vs.length → (∀ (k : Nat) a, as[k]? = some a → ∃ v, vs[k]? = some v ∧ AVR w (okOf X w H os) H os a v) →
    ∀ {p : (t.den × Upds) × List AV} {rd : List Nat}, (consCells t as).run (fun i => os[i]?) = some (p, rd) → (∀ i sl, (i, sl) ∈ p.1.2 → os'[i]? = some sl) →
    ∃ cs vs', vs = cs ++ vs' ∧ RO w' (okOf X w' H' os') t p.1.1 cs ∧ p.2.length = vs'.length ∧ (∀ (k : Nat) a, p.2[k]? = some a → ∃ v, vs'[k]? = some v ∧ AVR w (okOf X w H os) H os a v)
  | .unit, as, vs, hl, hr, p, rd, h, hus => by
    simp only [consCells] at h
    cases Prog.run_ret h
    exact ⟨[], vs, rfl, rfl, hl, hr⟩
  | .pair a b, as, vs, hl, hr, p, rd, h, hus => by
    simp only [consCells] at h
    obtain ⟨q, _, _, h1, h2, _⟩ := Prog.run_bind _ _ h
    obtain ⟨r, _, _, h3, h4, _⟩ := Prog.run_bind _ _ h2
    cases Prog.run_ret h4
    obtain ⟨cs, vs', e1, e2, e3, e4⟩ := consCells_reads k hfz a as vs hl hr h1 (fun i sl hm => hus i sl (List.mem_append_left _ hm))
    obtain ⟨ds, vs'', f1, f2, f3, f4⟩ := consCells_reads k hfz b q.2 vs' e3 e4 h3 (fun i sl hm => hus i sl (List.mem_append_right _ hm))
    exact ⟨cs ++ ds, vs'', by rw [e1, f1, List.append_assoc], ⟨cs, ds, rfl, e2, f2⟩, f3, f4⟩
  | .arr _ _, as, vs, hl, hr, p, rd, h, hus => by cases as <;> cases h
  | .int k, [], vs, hl, hr, p, rd, h, hus => by cases h
  | .bool, [], vs, hl, hr, p, rd, h, hus => by cases h
  | .str, [], vs, hl, hr, p, rd, h, hus => by cases h
  | .slice e, [], vs, hl, hr, p, rd, h, hus => by cases h
  | .int _, a :: as, vs, hl, hr, p, rd, h, hus => consCells_one k hfz rfl hl hr h hus
  | .bool, a :: as, vs, hl, hr, p, rd, h, hus => consCells_one k hfz rfl hl hr h hus
  | .str, a :: as, vs, hl, hr, p, rd, h, hus => consCells_one k hfz rfl hl hr h hus
  | .slice e, a :: as, vs, hl, hr, p, rd, h, hus => consCells_one k hfz rfl hl hr h hus

/-- What goes into memory is data from then on. -/
theorem cons_ok (hh : HeapR X H os w) {t : Ty} {y : TV} {v : Value} (hy : TVR w (okOf X w H os) H os y v) {x : t.den} {us : Upds} {rd : List Nat} (h : (cons t y).run (fun i => os[i]?) = some ((x, us), rd)) :
    FrzU os us ∧ ∀ {H' os'}, Kept X H os w H' os' w → (∀ i sl, (i, sl) ∈ us → os'[i]? = some sl) → (∀ (i : Nat) ver t xs, os[i]? = some (ver, Obj.froz t xs) → os'[i]? = some (ver, .froz t xs)) → ∃ cs, RO w (okOf X w H' os') t x cs ∧ v = valOf t cs := by
  unfold cons at h
  split at h
  · exact ⟨consA_frz h, fun k hus hfz => consA_reads k (hy _ rfl) h hus hfz⟩
  · rename_i as
    obtain ⟨hag, h⟩ := Prog.run_chk h
    obtain ⟨p, _, _, h1, h2, _⟩ := Prog.run_bind _ _ h
    split at h2
    · rename_i hp
      have e := Prog.run_ret h2
      have eu : p.1.2 = us := by rw [e]
      have ex : p.1.1 = x := by rw [e]
      refine ⟨eu ▸ consCells_frz t as h1, fun {H' os'} k hus hfz => ?_⟩
      obtain ⟨vs, e1, e2, e3⟩ := hy
      obtain ⟨cs, vs', f1, f2, f3, f4⟩ := consCells_reads k hfz t as vs.toList (by simpa using e2.symm) (fun k a ha => by
        obtain ⟨v, q1, q2, _⟩ := e3 k a ha; exact ⟨v, by simpa using q1, q2⟩) h1 (by rw [eu]; exact hus)
      rw [hp] at f3
      have : vs' = [] := List.eq_nil_of_length_eq_zero f3.symm
      subst this
      refine ⟨cs, by rw [← ex]; exact f2, ?_⟩
      rw [e1]; unfold valOf; rw [hag, if_pos rfl, ← List.append_nil cs, ← f1]
    · cases h2
  · cases h

/-- The same, all at once. -/
theorem cons_kept (hh : HeapR X H os w) {t : Ty} {y : TV} {v : Value} (hy : TVR w (okOf X w H os) H os y v) {x : t.den} {us : Upds} {rd : List Nat} (h : (cons t y).run (fun i => os[i]?) = some ((x, us), rd)) :
    ∃ H', Kept X H os w H' (setAll os us) w ∧ (∀ i, apart i us = true → H' i = H i ∧ (setAll os us)[i]? = os[i]?) ∧ ∃ cs, RO w (okOf X w H' (setAll os us)) t x cs ∧ v = valOf t cs := by
  obtain ⟨h1, h2⟩ := cons_ok hh hy h
  obtain ⟨H', k1, k2, k3, k4⟩ := frz_all us hh h1.v
  exact ⟨H', k1, fun i hi => ⟨k2 i hi, setAll_other us hi os⟩, h2 k1 k3 k4⟩

/-! ### Parts of data -/
theorem get_append_right {α : Type} {a b : List α} {n : Nat} (h : a.length = n) (j : Nat) : (a ++ b)[n + j]? = b[j]? := by
  rw [List.getElem?_append_right (by omega), show n + j - a.length = j by omega]

theorem here_ok {ok : Nat → Prop} {u t : Ty} {x : t.den} {off : Nat} {els : Option u.den} {y : u.den} {cs : List Value} (hx : RO w ok t x cs) (h : here u t x off els = some y) (he : els = some y → ∃ ds, RO w ok u y ds ∧ ∀ (j : Nat) v, ds[j]? = some v → cs[off + j]? = some v) : ∃ ds, RO w ok u y ds ∧ ∀ (j : Nat) v, ds[j]? = some v → cs[off + j]? = some v := by
  unfold here at h
  split at h
  · rename_i h0
    split at h
    · rename_i e _
      subst e
      cases h
      have : off = 0 := beq_of h0
      subst this
      exact ⟨cs, hx, fun j v hv => by rw [Nat.zero_add]; exact hv⟩
    · exact he h
  · exact he h

theorem blt_true {a b : Nat} (h : Nat.blt a b = true) : a < b := by rw [Nat.blt_eq] at h; exact h
theorem blt_false {a b : Nat} (h : Nat.blt a b = false) : b ≤ a := by
  rcases Nat.lt_or_ge a b with hlt | hge
  · rw [← Nat.blt_eq, h] at hlt; cases hlt
  · exact hge

theorem projAt_ok {ok : Nat → Prop} {u : Ty} : ∀ (t : Ty) (x : t.den) (off : Nat) {y : u.den} {cs : List Value}, RO w ok t x cs → projAt u t x off = some y → ∃ ds, RO w ok u y ds ∧ ∀ (j : Nat) v, ds[j]? = some v → cs[off + j]? = some v
  | .pair a b, x, off, y, cs, hx, h => by
    simp only [projAt] at h
    refine here_ok hx h (fun h => ?_)
    obtain ⟨c, d, e1, e2, e3⟩ := hx
    have hl := RO_len e2
    split at h
    · obtain ⟨ds, g1, g2⟩ := projAt_ok a x.1 off e2 h
      refine ⟨ds, g1, fun j v hv => ?_⟩
      have := g2 j v hv
      rw [e1, List.getElem?_append_left (List.getElem?_eq_some_iff.1 this).1]; exact this
    · rename_i hb
      obtain ⟨ds, g1, g2⟩ := projAt_ok b x.2 (off - a.sz) e3 h
      refine ⟨ds, g1, fun j v hv => ?_⟩
      have hge := blt_false hb
      rw [e1, show off + j = a.sz + (off - a.sz + j) by omega, get_append_right hl]
      exact g2 j v hv
  | .arr n e, x, off, y, cs, hx, h => by
    simp only [projAt] at h
    refine here_ok hx h (fun h => ?_)
    obtain ⟨e1, e2⟩ := hx
    split at h
    · rename_i hb
      have hlt := blt_true hb
      have hlt' : off / e.sz < List.length x := by rw [e1]; exact hlt
      obtain ⟨es, f1, f2⟩ := ROL_get (fun _ _ h => RO_len h) e2 (off / e.sz) hlt'
      have hg : List.getD x (off / e.sz) e.zero = x[off / e.sz] := by simp [List.getD_eq_getElem?_getD, hlt']
      rw [hg] at h
      obtain ⟨ds, g1, g2⟩ := projAt_ok e _ (off % e.sz) f1 h
      refine ⟨ds, g1, fun j v hv => ?_⟩
      have h1 := f2 _ v (g2 j v hv)
      have h2 : off / e.sz * e.sz + (off % e.sz + j) = off + j := by
        have := Nat.div_add_mod off e.sz
        rw [Nat.mul_comm] at this
        omega
      rw [h2] at h1
      exact h1
    · cases h
  | .int k, x, off, y, cs, hx, h => here_ok hx h (fun h => by cases h)
  | .bool, x, off, y, cs, hx, h => here_ok hx h (fun h => by cases h)
  | .str, x, off, y, cs, hx, h => here_ok hx h (fun h => by cases h)
  | .slice e, x, off, y, cs, hx, h => here_ok hx h (fun h => by cases h)
  | .unit, x, off, y, cs, hx, h => here_ok hx h (fun h => by cases h)

theorem hereSet_ok {ok : Nat → Prop} {u t : Ty} {y : u.den} {off : Nat} {els : Option t.den} {z : t.den} {cs ds : List Value} (hl : cs.length = t.sz) (hy : RO w ok u y ds) (h : hereSet u y t off els = some z) (he : els = some z → RO w ok t z (cs.take off ++ ds ++ cs.drop (off + ds.length)) ∧ off + ds.length ≤ cs.length) : RO w ok t z (cs.take off ++ ds ++ cs.drop (off + ds.length)) ∧ off + ds.length ≤ cs.length := by
  unfold hereSet at h
  split at h
  · rename_i h0
    split at h
    · rename_i e _
      subst e
      cases h
      have : off = 0 := beq_of h0
      subst this
      have hd := RO_len hy
      refine ⟨?_, by omega⟩
      rw [List.take_zero, List.nil_append, List.drop_of_length_le (by omega), List.append_nil]
      exact hy
    · exact he h
  · exact he h

theorem setAt_ok {ok : Nat → Prop} {u : Ty} {y : u.den} {ds : List Value} (hy : RO w ok u y ds) : ∀ (t : Ty) (x : t.den) (off : Nat) {z : t.den} {cs : List Value}, RO w ok t x cs → setAt u y t x off = some z → RO w ok t z (cs.take off ++ ds ++ cs.drop (off + ds.length)) ∧ off + ds.length ≤ cs.length
  | .pair a b, x, off, z, cs, hx, h => by
    simp only [setAt] at h
    refine hereSet_ok (RO_len hx) hy h (fun h => ?_)
    obtain ⟨c, d, e1, e2, e3⟩ := hx
    have hl := RO_len e2
    split at h
    · obtain ⟨z', g1, g2⟩ := Option.map_eq_some_iff.1 h
      subst g2
      obtain ⟨k1, k2⟩ := setAt_ok hy a x.1 off e2 g1
      rw [e1]
      refine ⟨⟨c.take off ++ ds ++ c.drop (off + ds.length), d, ?_, k1, e3⟩, by rw [List.length_append]; omega⟩
      rw [List.take_append_of_le_length (by omega), List.drop_append_of_le_length k2, List.append_assoc, List.append_assoc, List.append_assoc]
    · rename_i hb
      have hge := blt_false hb
      obtain ⟨z', g1, g2⟩ := Option.map_eq_some_iff.1 h
      subst g2
      obtain ⟨k1, k2⟩ := setAt_ok hy b x.2 (off - a.sz) e3 g1
      rw [e1]
      refine ⟨⟨c, d.take (off - a.sz) ++ ds ++ d.drop (off - a.sz + ds.length), ?_, e2, k1⟩, by rw [List.length_append]; omega⟩
      rw [List.take_append, List.drop_append, List.take_of_length_le (by omega), List.drop_of_length_le (by omega : c.length ≤ off + ds.length), hl, show off + ds.length - a.sz = off - a.sz + ds.length by omega]
      simp [List.append_assoc]
  | .arr n e, x, off, z, cs, hx, h => by
    simp only [setAt] at h
    refine hereSet_ok (RO_len hx) hy h (fun h => ?_)
    obtain ⟨e1, e2⟩ := hx
    split at h
    · rename_i hb
      have hlt := blt_true hb
      have hlt' : off / e.sz < List.length x := by rw [e1]; exact hlt
      have hg : List.getD x (off / e.sz) e.zero = x[off / e.sz] := by simp [List.getD_eq_getElem?_getD, hlt']
      rw [hg] at h
      obtain ⟨z', g1, g2⟩ := Option.map_eq_some_iff.1 h
      subst g2
      have hlen := ROL_len (fun _ _ h => RO_len h) e2
      -- the element's own cells
      have hsplit : ∀ {xs : List e.den} {cs : List Value} (hr : ROL (RO w ok e) xs cs) (i : Nat) (hi : i < xs.length), RO w ok e xs[i] ((cs.drop (i * e.sz)).take e.sz) := by
        intro xs
        induction xs with
        | nil => intro cs _ i hi; cases hi
        | cons a as ih =>
          intro cs hr i hi
          obtain ⟨p, q, r1, r2, r3⟩ := hr
          have hp := RO_len r2
          cases i with
          | zero => simp only [Nat.zero_mul, List.drop_zero, List.getElem_cons_zero]; rw [r1, List.take_append_of_le_length (by omega), List.take_of_length_le (by omega)]; exact r2
          | succ i =>
            simp only [List.getElem_cons_succ]
            rw [r1, List.drop_append, List.drop_of_length_le (by rw [hp, Nat.add_mul]; omega), hp, show (i + 1) * e.sz - e.sz = i * e.sz by rw [Nat.add_mul]; omega, List.nil_append]
            exact ih r3 i (by simpa using hi)
      have hes := hsplit e2 (off / e.sz) hlt'
      obtain ⟨k1, k2⟩ := setAt_ok hy e _ (off % e.sz) hes g1
      have hdm := Nat.div_add_mod off e.sz
      have hmul : off / e.sz * e.sz + e.sz ≤ cs.length := by
        rw [hlen, ← Nat.succ_mul]
        exact Nat.mul_le_mul_right _ hlt'
      have hel : ((cs.drop (off / e.sz * e.sz)).take e.sz).length = e.sz := RO_len hes
      rw [hel] at k2
      rw [Nat.mul_comm] at hdm
      refine ⟨⟨by simpa using e1, ?_⟩, by omega⟩
      have hset := ROL_set (R := RO w ok e) (fun _ _ h => RO_len h) k1 e2 (off / e.sz) hlt'
      have he : cs.take off ++ ds ++ cs.drop (off + ds.length) = cs.take (off / e.sz * e.sz) ++ (((cs.drop (off / e.sz * e.sz)).take e.sz).take (off % e.sz) ++ ds ++ ((cs.drop (off / e.sz * e.sz)).take e.sz).drop (off % e.sz + ds.length)) ++ cs.drop (off / e.sz * e.sz + e.sz) := by
        generalize hq : off / e.sz * e.sz = q at *
        have h1 : cs.take (q + off % e.sz) = cs.take q ++ (cs.drop q).take (off % e.sz) := List.take_add
        rw [hdm] at h1
        have h2 : (cs.drop (off + ds.length)) = ((cs.drop q).take e.sz).drop (off % e.sz + ds.length) ++ cs.drop (q + e.sz) := by
          rw [List.drop_take, List.drop_drop]
          have : cs.drop (q + e.sz) = (cs.drop (q + (off % e.sz + ds.length))).drop (e.sz - (off % e.sz + ds.length)) := by
            rw [List.drop_drop]; congr 1; omega
          rw [this, List.take_append_drop]; congr 1; omega
        rw [h1, h2, List.take_take, Nat.min_eq_left (by omega)]
        simp [List.append_assoc]
      rw [he]
      exact hset
    · cases h
  | .int k, x, off, z, cs, hx, h => hereSet_ok (RO_len hx) hy h (fun h => by cases h)
  | .bool, x, off, z, cs, hx, h => hereSet_ok (RO_len hx) hy h (fun h => by cases h)
  | .str, x, off, z, cs, hx, h => hereSet_ok (RO_len hx) hy h (fun h => by cases h)
  | .slice e, x, off, z, cs, hx, h => hereSet_ok (RO_len hx) hy h (fun h => by cases h)
  | .unit, x, off, z, cs, hx, h => hereSet_ok (RO_len hx) hy h (fun h => by cases h)

end
end Go.Proofs.Yteblfhhhbfodgaa.Sim
/- The operations one by one: those that read. -/
set_option linter.unusedVariables false
set_option linter.unusedSimpArgs false
set_option linter.unusedSectionVars false
namespace Go.Proofs.Yteblfhhhbfodgaa.Sim
open Go Go.RowKit

def OpOut (P : Program) (X : Ctx) (H : Nat → Wit) (st : St) (a : Act) (w : World) (o : Oper) (res : Res) : Prop :=
  ∃ v w', ((execOp a.eval o).run P w = .ok (.value v) w' ∨ ((execOp a.eval o).run P w = .ok .skip w' ∧ v = undef)) ∧ Out X H st.objs w (setAll st.objs res.upds) res.val v w'

theorem OpOut.wp {P : Program} {X : Ctx} {H : Nat → Wit} {st : St} {a : Act} {w : World} {o : Oper} {res : Res} {N : Act → World → Prop} {Q : Exit → Act → World → Prop} (hR : RelH X H st a w) (h : OpOut P X H st a w o res)
    (hN : ∀ a' w', Rel X (st.app o.dst res) a' w' → N a' w') : o.wp P a w N Q := by
  obtain ⟨v, w', h1, h2⟩ := h
  have := hN _ _ (hR.app (d := o.dst) h2)
  unfold Oper.wp
  rcases h1 with h1 | ⟨h1, rfl⟩
  · rw [h1]; exact this
  · rw [h1]; exact this

section
variable {X : Ctx} {H H' : Nat → Wit} {os os' : List Slot} {w w' : World} {ok : Nat → Prop}

theorem int_of {t : TV} {k : IntKind} {n : Int} {v : Value} (h : t.int? = some (k, n)) (hv : TVR w ok H os t v) : v = .int k n := by
  unfold TV.int? at h
  split at h
  · split at h
    · cases h
      obtain ⟨cs, h1, h2⟩ := hv _ rfl
      cases h1
      exact h2
    · cases h
  · cases h
theorem bool_of {t : TV} {b : Bool} {v : Value} (h : t.bool? = some b) (hv : TVR w ok H os t v) : v = .bool b := by
  unfold TV.bool? at h
  split at h
  · split at h
    · cases h
      obtain ⟨cs, h1, h2⟩ := hv _ rfl
      cases h1
      exact h2
    · cases h
  · cases h
theorem str_of {t : TV} {s : ByteArray} {v : Value} (h : t.str? = some s) (hv : TVR w ok H os t v) : v = .string s := by
  unfold TV.str? at h
  split at h
  · split at h
    · cases h
      obtain ⟨cs, h1, h2⟩ := hv _ rfl
      cases h1
      exact h2
    · cases h
  · cases h
theorem tv_int (k : IntKind) (n : Int) : TVR w ok H os (.one (.ro (.int k) n)) (.int k n) := fun a e => by cases e; exact ⟨_, rfl, rfl⟩
theorem tv_bool (b : Bool) : TVR w ok H os (.one (.ro .bool b)) (.bool b) := fun a e => by cases e; exact ⟨_, rfl, rfl⟩
theorem tv_str (s : ByteArray) : TVR w ok H os (.one (.ro .str s)) (.string s) := fun a e => by cases e; exact ⟨_, rfl, rfl⟩
theorem tv_ro {t : Ty} {x : t.den} {cs : List Value} (h : RO w ok t x cs) : TVR w ok H os (.one (.ro t x)) (valOf t cs) := fun a e => by cases e; exact ⟨_, h, rfl⟩
theorem tv_one {x : AV} {v : Value} (h : AVR w ok H os x v) : TVR w ok H os (.one x) v := fun a e => by cases e; exact h
theorem tv_junk {v : Value} : TVR w ok H os .junk v := fun a e => by cases e; trivial

/-- The head of a row that is an object's. -/
theorem slice_hdr {e : TypeId} {size n : Nat} {v : Value} {xs : List Value} (h : w.ownsRow 0 e size v n xs) : ∃ A c, v = .slice A n c ∧ n ≤ c := by
  rcases h.2 with ⟨e1, e2⟩ | ⟨g, cap, cur, e1, h3, h4, h5, h6⟩
  · exact ⟨none, 0, by rw [e1, e2], by omega⟩
  · exact ⟨_, cap, e1, h5⟩

/-- Of an object's handle in a slot: the object. -/
theorem own_of {i ver : Nat} {v : Value} (h : AVR w ok H os (.own i ver) v) {s : Slot} (hs : os[i]? = some s) (hv : Nat.beq s.1 ver = true) : s.2.live = true ∧ v = (H i).hdr := by
  obtain ⟨_, s0, g1, _, g3⟩ := h
  have : s0 = s := Option.some.inj (g1.symm.trans hs)
  subst this
  exact g3 (beq_of hv)
theorem rows_len {t : Ty} {xss : List (List t.den)} {W : Wit} {rv : Nat} {e e2 : TypeId} (h : ObjR w ok H os W (.rows rv e e2 t xss)) : ∃ A c, W.hdr = .slice A xss.length c := by
  obtain ⟨_, _, h3, _⟩ := h
  obtain ⟨A, c, e, _⟩ := slice_hdr h3
  exact ⟨A, c, e⟩
theorem arr_len {t : Ty} {xs : List t.den} {W : Wit} {e : TypeId} (h : ObjR w ok H os W (.arr e t xs)) : ∃ A c, W.hdr = .slice A xs.length c := by
  obtain ⟨_, ⟨fl, _, h3⟩, _⟩ := h
  obtain ⟨A, c, e, _⟩ := slice_hdr h3
  exact ⟨A, c, e⟩
theorem froz_len {t : Ty} {xs : List t.den} {W : Wit} (h : ObjR w ok H os W (.froz t xs)) : ∃ A c, W.hdr = .slice A xs.length c := by
  obtain ⟨_, A, c, e, _⟩ := h
  exact ⟨A, c, by injection e⟩
/-- Of a row among rows: its head. -/
theorem row_of (hh : HeapR X H os w) {i ver rv rv' j : Nat} {v : Value} (h : AVR w (okOf X w H os) H os (.row i ver rv j) v) {n : Nat} {e e2 : TypeId} {t : Ty} {xss : List (List t.den)} (hs : os[i]? = some (n, .rows rv' e e2 t xss)) (hv : Nat.beq n ver = true) (hr : Nat.beq rv' rv = true) :
    ∃ hj : j < xss.length, (H i).rw[j]? = some v ∧ xss.getD j [] = xss[j] ∧ RowR w (okOf X w H os) e2 t xss[j] v ∧ (xss[j] = [] → v = .slice none 0 0) ∧ ObjR w (okOf X w H os) H os (H i) (.rows rv' e e2 t xss) := by
  obtain ⟨_, s0, g1, _, g3⟩ := h
  have : s0 = (n, .rows rv' e e2 t xss) := Option.some.inj (g1.symm.trans hs)
  subst this
  obtain ⟨_, hv2⟩ := g3 (beq_of hv)
  have ho := hh.obj i _ g1
  obtain ⟨q1, q2⟩ := hv2 (rv', xss.map List.length, t.sz) rfl
  obtain ⟨q3, q4⟩ := q2 (beq_of hr)
  have hj : j < xss.length := by simpa using q3
  obtain ⟨k1, k2, k3, k4, k5⟩ := ho
  obtain ⟨r1, r2⟩ := k4 j _ v (List.getElem?_eq_getElem hj) q4
  exact ⟨hj, q4, by simp [List.getD_eq_getElem?_getD, hj], r1, r2, ⟨k1, k2, k3, k4, k5⟩⟩

section ops
variable {P : Program} {E : Env} (hT : TabOk P E)
include hT

theorem prim_str {t : TypeId} (h : (E.info t).shp = .prim) (h1 : (E.info t).ty = some .str) : P.underlying t = some .string := by
  obtain ⟨ty', e1, e2⟩ := (hT t).prim h
  rw [h1] at e1; cases e1
  rcases e2 with ⟨k, e, _⟩ | ⟨e, _⟩ | ⟨_, e3⟩
  · cases e
  · cases e
  · exact e3
theorem prim_int {t : TypeId} {k : IntKind} (h : (E.info t).shp = .prim) (h1 : (E.info t).ty = some (.int k)) : P.underlying t = some (.int k) := by
  obtain ⟨ty', e1, e2⟩ := (hT t).prim h
  rw [h1] at e1; cases e1
  rcases e2 with ⟨k, e, e3⟩ | ⟨e, _⟩ | ⟨e, e3⟩
  · cases e; exact e3
  · cases e
  · cases e

variable (hh : HeapR X H os w)
include hh

theorem lenP_ok {t : TypeId} {y : TV} {v : Value} (hy : TVR w (okOf X w H os) H os y v) {res : Res} {rd : List Nat} (h : (lenP E t y).run (fun i => os[i]?) = some (res, rd)) (ty : TypeId) :
    ∃ n : Nat, (Builtin.len_ #[t] ty #[v]).run P w = .ok (.int .i64 n) w ∧ res = ⟨.one (.ro (.int .i64) (n : Int)), []⟩ := by
  have hsl : ∀ {e : TypeId}, (E.info t).shp = .slice e → ∀ A n c, (Builtin.len_ #[t] ty #[.slice A n c]).run P w = .ok (.int .i64 n) w := by
    intro e he A n c
    simp [Builtin.len_, run_underlying ((hT t).slice e he).1, goInt]
  unfold lenP at h
  split at h
  · rename_i hs
    obtain ⟨hty, h⟩ := Prog.run_chk h
    obtain ⟨s, h1, h2⟩ := Prog.run_opt h
    cases Prog.run_ret h2
    have hv := str_of h1 hy
    subst hv
    exact ⟨s.size, by simp [Builtin.len_, run_underlying (prim_str hT hs (of_decide_eq_true hty)), goInt], rfl⟩
  · rename_i e i ver hs
    obtain ⟨s, rd', hsl', h⟩ := Prog.run_look h
    obtain ⟨hv, h⟩ := Prog.run_chk h
    obtain ⟨_, e1⟩ := own_of (hy _ rfl) hsl' hv
    have ho := hh.obj _ s hsl'
    obtain ⟨n, o⟩ := s
    cases o with
    | arr e0 t' xs => cases Prog.run_ret h; obtain ⟨A, c, e2⟩ := arr_len ho; exact ⟨xs.length, by rw [e1, e2]; exact hsl hs _ _ _, rfl⟩
    | rows rv e0 e2 t' xs => cases Prog.run_ret h; obtain ⟨A, c, e2⟩ := rows_len ho; exact ⟨xs.length, by rw [e1, e2]; exact hsl hs _ _ _, rfl⟩
    | froz t' xs => cases Prog.run_ret h; obtain ⟨A, c, e2⟩ := froz_len ho; exact ⟨xs.length, by rw [e1, e2]; exact hsl hs _ _ _, rfl⟩
    | _ => cases h
  · rename_i hs
    cases Prog.run_ret h
    obtain ⟨cs, h1, h2⟩ := hy _ rfl
    obtain ⟨A, c, e1, _⟩ := h1
    refine ⟨_, ?_, rfl⟩
    rw [h2, e1]
    exact hsl hs _ _ _
  · rename_i i ver rv j hs
    obtain ⟨s, rd', hsl', h⟩ := Prog.run_look h
    obtain ⟨hv, h⟩ := Prog.run_chk h
    obtain ⟨n, o⟩ := s
    cases o with
    | rows rv' e0 e2 t' xss =>
      obtain ⟨hr, h⟩ := Prog.run_chk h
      cases Prog.run_ret h
      obtain ⟨hj, e1, e2, ⟨fl, e3, e4⟩, e5, e6⟩ := row_of hh (hy _ rfl) hsl' hv hr
      obtain ⟨A, c, e7, _⟩ := slice_hdr e4
      exact ⟨_, by rw [e2, e7]; exact hsl hs _ _ _, rfl⟩
    | _ => cases h
  · rename_i hs
    cases Prog.run_ret h
    have hv : v = .slice none 0 0 := hy _ rfl
    subst hv
    exact ⟨0, hsl hs _ _ _, rfl⟩
  · rename_i k u i hs
    obtain ⟨s, rd', hsl', h⟩ := Prog.run_look h
    have ho := hh.obj _ s hsl'
    obtain ⟨n, o⟩ := s
    cases o with
    | map mt kt vt es =>
      cases Prog.run_ret h
      obtain ⟨_, s0, g1, g2, g3⟩ := hy _ rfl
      obtain ⟨g, ms, e1, e2, e3, e4⟩ := ho
      refine ⟨es.length, ?_, rfl⟩
      rw [g3, e1]
      have := ((hT t).map _ _ hs).1
      have hel : ∀ (l : List (kt.den × Value)) (b : Nat), (entsM (keyV kt) id b l).length = l.length := by
        intro l; induction l with
        | nil => intro b; rfl
        | cons p l ih => intro b; simp only [entsM, List.length_cons, ih (b + 1)]
      simp [Builtin.len_, run_underlying this, getObj, Sem.run, e3, goInt, mobj, hel, MapR_len e4]
    | _ => cases h
  · cases h

/-- An element's address. -/
theorem elt_addr {e : TypeId} {size n : Nat} {hd : Value} {xs : List Value} (hw : w.ownsRow 0 e size hd n xs) (hn : 0 < n) : ∃ g c, hd = .slice (some ⟨g, 0, none⟩) n c := by
  rcases hw.2 with ⟨e1, e2⟩ | ⟨g, cap, cur, e1, _⟩
  · omega
  · exact ⟨g, cap, e1⟩

theorem atOff_add (g k : Nat) : (⟨g, 0, none⟩ : Addr).add k = ⟨g, k, none⟩ := by unfold Addr.add; split <;> simp_all

theorem index_slice {t e : TypeId} {ty : Ty} (hs : (E.info t).shp = .slice e) (he : (E.info e).ty = some ty) {ad : Addr} {n c : Nat} {k : IntKind} {j : Int} (h0 : 0 ≤ j) (h1 : j < (n : Int)) :
    (Instr.indexAt t (.slice (some ad) n c) (.int k j)).run P w = .ok (.pointer (some (ad.add (j.toNat * ty.sz)))) w := by
  obtain ⟨hu, _, _⟩ := (hT t).slice e hs
  obtain ⟨i, hi, hsz, _, hz, _⟩ := (hT e).info ((hT e).tyo _ he)
  have := (hz _ he).1
  simp [Instr.indexAt, asIntOf, run_underlying hu, h0, h1, sizeOf, typeInfo, hi, hsz, this]

end ops
end
end Go.Proofs.Yteblfhhhbfodgaa.Sim
/- The operations one by one: addresses and loads. -/
set_option linter.unusedVariables false
set_option linter.unusedSimpArgs false
set_option linter.unusedSectionVars false
namespace Go.Proofs.Yteblfhhhbfodgaa.Sim
open Go Go.RowKit

theorem add_block (a : Addr) (n : Nat) : (a.add n).block = a.block := by unfold Addr.add; split <;> rfl
theorem add_add (a : Addr) (m n : Nat) : (a.add m).add n = a.add (m + n) := by
  unfold Addr.add
  by_cases hm : m = 0
  · subst hm; simp
  · by_cases hn : n = 0
    · subst hn; simp [hm]
    · have : m + n ≠ 0 := by omega
      simp [hm, hn, this, Nat.add_assoc]

section
variable {X : Ctx} {H H' : Nat → Wit} {os os' : List Slot} {w w' : World} {ok : Nat → Prop}

theorem mem_part {t u : Ty} {x : t.den} {y : u.den} {ad : Addr} {cs ds : List Value} {off : Nat} (hm : Mem w ok ad cs) (hd : ∀ (j : Nat) v, ds[j]? = some v → cs[off + j]? = some v) : Mem w ok (ad.add off) ds :=
  ⟨by rw [add_block]; exact hm.1, fun j u hu => by rw [add_add]; exact hm.2 _ u (hd j u hu)⟩

variable {P : Program} {E : Env} (hT : TabOk P E)
include hT

theorem load_mem {t : TypeId} {v : Ty} (ht : (E.info t).ty = some v) {z : v.den} {ds : List Value} {ad : Addr} (hr : RO w ok v z ds) (hm : ∀ (j : Nat) u, ds[j]? = some u → w.cell? (ad.add j) = some u) :
    (loadVar t ad).run P w = .ok (valOf v ds) w := by
  obtain ⟨i, hi, hsz, _, hz, _⟩ := (hT t).info ((hT t).tyo _ ht)
  have hsz' : i.size = v.sz := by rw [hsz]; exact (hz _ ht).1.symm
  have hl := RO_len hr
  have hcells := run_loadCells_list (P := P) w ad ds hm
  have agg : ∀ d, P.underlying t = some d → (match d with | .struct _ | .array _ _ => true | _ => false) = true → v.isAgg = true → (loadVar t ad).run P w = .ok (valOf v ds) w := by
    intro d hd h1 h2
    have hagg : (isAgg t).run P w = .ok true w := by
      unfold isAgg
      rw [Sem.run_bind, run_underlying hd w]
      cases d <;> simp_all
    rw [hl] at hcells
    simp [loadVar, hagg, sizeOf, typeInfo, hi, hsz', hcells, valOf, h2]
  have one : ∀ d, P.underlying t = some d → (match d with | .struct _ | .array _ _ => true | _ => false) = false → v.isAgg = false → (loadVar t ad).run P w = .ok (valOf v ds) w := by
    intro d hd h1 h2
    have hagg : (isAgg t).run P w = .ok false w := by
      unfold isAgg
      rw [Sem.run_bind, run_underlying hd w]
      cases d <;> simp_all
    have hs : v.sz = 1 := by cases v <;> first | rfl | cases h2
    rw [hs] at hl
    obtain ⟨u, rfl⟩ := List.length_eq_one_iff.1 hl
    have := hm 0 u rfl
    have e0 : ad.add 0 = ad := by unfold Addr.add; simp
    rw [e0] at this
    simp [loadVar, hagg, this, valOf, h2]
  cases hs : (E.info t).shp with
  | prim =>
    obtain ⟨ty', e1, e2⟩ := (hT t).prim hs
    rw [ht] at e1; cases e1
    rcases e2 with ⟨k, rfl, e3⟩ | ⟨rfl, e3⟩ | ⟨rfl, e3⟩
    · exact one _ e3 rfl rfl
    · exact one _ e3 rfl rfl
    · exact one _ e3 rfl rfl
  | slice e =>
    obtain ⟨h1, _, h3⟩ := (hT t).slice e hs
    obtain ⟨u, rfl, _⟩ := h3 v ht
    exact one _ h1 rfl rfl
  | struct fs =>
    obtain ⟨F, h1, _, h3⟩ := (hT t).struct fs hs
    have := h3 v ht
    refine agg _ h1 rfl ?_
    cases fs with
    | nil => cases (show v = .unit from this); rfl
    | cons f fs => obtain ⟨a, b, rfl, _⟩ := this; rfl
  | array n e =>
    obtain ⟨h1, h2⟩ := (hT t).array n e hs
    obtain ⟨u, rfl, _⟩ := h2 v ht
    exact agg _ h1 rfl rfl
  | map k v' => have := ((hT t).map _ _ hs).2; rw [ht] at this; cases this
  | other => exact absurd hs ((hT t).tyo _ ht)

variable (hh : HeapR X H os w)
include hh

theorem ro_elt {t : Ty} {xs : List t.den} {A : Option Addr} {n c : Nat} {j : Nat} {ok : Nat → Prop} (h : RO w ok (.slice t) xs [.slice A n c]) (hj : j < xs.length) :
    ∃ ad es, A = some ad ∧ n = xs.length ∧ RO w ok t (xs.getD j t.zero) es ∧ Mem w ok (ad.add (j * t.sz)) es := by
  obtain ⟨A', c', e1, e2, e3, e4⟩ := h
  injection e1 with e1
  injection e1 with e5 e6 e7
  obtain ⟨ad, fl, f1, f2, f3⟩ := e4 (by show 0 < xs.length; omega)
  obtain ⟨es, g1, g2⟩ := ROL_get (fun _ _ h => RO_len h) f2 j hj
  have hg : xs.getD j t.zero = xs[j] := by simp [List.getD_eq_getElem?_getD, hj]
  exact ⟨ad, es, e5.trans f1, e6, by rw [hg]; exact g1, mem_part (t := t) (u := t) (x := xs[j]) (y := xs[j]) f3 g2⟩

theorem nat_lt {j : Int} {n : Nat} (h0 : 0 ≤ j) (h1 : j < (n : Int)) : j.toNat < n := by omega

theorem idxP_ok {t : TypeId} {y : TV} {v : Value} (hy : TVR w (okOf X w H os) H os y v) {k : IntKind} {j : Int} {res : Res} {rd : List Nat} (h : (idxP E t y j).run (fun i => os[i]?) = some (res, rd)) :
    ∃ u x, (Instr.indexAt t v (.int k j)).run P w = .ok u w ∧ res = ⟨.one x, []⟩ ∧ AVR w (okOf X w H os) H os x u := by
  unfold idxP at h
  split at h
  · -- a row of one's own
    rename_i e i ver hs
    obtain ⟨s, rd', hsl, h⟩ := Prog.run_look h
    obtain ⟨hv, h⟩ := Prog.run_chk h
    obtain ⟨hlive, e1⟩ := own_of (hy _ rfl) hsl hv
    have ho := hh.obj _ s hsl
    obtain ⟨n, o⟩ := s
    have hver : n = ver := beq_of hv
    cases o with
    | arr e0 t' xs =>
      obtain ⟨hty, h⟩ := Prog.run_chk h
      obtain ⟨h0, h⟩ := Prog.run_grd h
      obtain ⟨h1, h⟩ := Prog.run_grd h
      cases Prog.run_ret h
      obtain ⟨q1, ⟨fl, q2, q3⟩, q4⟩ := ho
      obtain ⟨g, c, e2⟩ := elt_addr hT hh q3 (by omega)
      refine ⟨_, _, by rw [e1, e2]; exact index_slice hT hh hs (of_decide_eq_true hty) h0 h1, rfl, rfl, (n, .arr e0 t' xs), hsl, by omega, fun _ => ⟨rfl, fun d hd => ?_⟩⟩
      cases hd
      exact ⟨nat_lt hT hh h0 h1, by rw [e2, atOff_add hT hh]; rfl⟩
    | rows rv e0 e2' t' xss =>
      obtain ⟨hty, h⟩ := Prog.run_chk h
      obtain ⟨h0, h⟩ := Prog.run_grd h
      obtain ⟨h1, h⟩ := Prog.run_grd h
      cases Prog.run_ret h
      obtain ⟨q1, q2, q3, q4, q5⟩ := ho
      obtain ⟨g, c, e2⟩ := elt_addr hT hh q3 (by omega)
      refine ⟨_, _, by rw [e1, e2]; exact index_slice hT hh hs (of_decide_eq_true hty) h0 h1, rfl, rfl, (n, .rows rv e0 e2' t' xss), hsl, by omega, fun _ => ⟨rfl, fun d hd => ?_⟩⟩
      cases hd
      exact ⟨nat_lt hT hh h0 h1, by rw [e2, atOff_add hT hh]; rfl⟩
    | froz t' xs =>
      obtain ⟨hty, h⟩ := Prog.run_chk h
      obtain ⟨h0, h⟩ := Prog.run_grd h
      obtain ⟨h1, h⟩ := Prog.run_grd h
      cases Prog.run_ret h
      obtain ⟨A, c, e2⟩ := froz_len ho
      obtain ⟨q1, q2⟩ := ho
      rw [e2] at q2
      obtain ⟨ad, es, f1, f2, f3, f4⟩ := ro_elt hT hh (j := j.toNat) q2 (nat_lt hT hh h0 h1)
      subst f1
      exact ⟨_, _, by rw [e1, e2]; exact index_slice hT hh hs (of_decide_eq_true hty) h0 h1, rfl, _, es, rfl, f3, f4⟩
    | _ => cases h
  · -- data
    rename_i e t' xs hs
    obtain ⟨hty, h⟩ := Prog.run_chk h
    obtain ⟨h0, h⟩ := Prog.run_grd h
    obtain ⟨h1, h⟩ := Prog.run_grd h
    cases Prog.run_ret h
    obtain ⟨cs, g1, g2⟩ := hy _ rfl
    have g1' := g1
    obtain ⟨A, c, e2, _⟩ := g1
    rw [e2] at g1'
    obtain ⟨ad, es, f1, f2, f3, f4⟩ := ro_elt hT hh (j := j.toNat) g1' (nat_lt hT hh h0 h1)
    subst f1
    exact ⟨_, _, by rw [g2, e2]; exact index_slice hT hh hs (of_decide_eq_true hty) h0 h1, rfl, _, es, rfl, f3, f4⟩
  · -- a row among rows
    rename_i e i ver rv r hs
    obtain ⟨s, rd', hsl, h⟩ := Prog.run_look h
    obtain ⟨hv, h⟩ := Prog.run_chk h
    obtain ⟨n, o⟩ := s
    have hver : n = ver := beq_of hv
    cases o with
    | rows rv' e0 e2' t' xss =>
      obtain ⟨hrt, h⟩ := Prog.run_chk h
      rw [Bool.and_eq_true] at hrt
      obtain ⟨hr, hty⟩ := hrt
      obtain ⟨h0, h⟩ := Prog.run_grd h
      obtain ⟨h1, h⟩ := Prog.run_grd h
      cases Prog.run_ret h
      obtain ⟨hj, e1, e2, ⟨fl, e3, e4⟩, e5, e6⟩ := row_of hh (hy _ rfl) hsl hv hr
      rw [e2] at h1
      obtain ⟨g, c, e7⟩ := elt_addr hT hh e4 (by omega)
      have hrv : rv' = rv := beq_of hr
      refine ⟨_, _, by rw [e7]; exact index_slice hT hh hs (of_decide_eq_true hty) h0 h1, rfl, rfl, (n, .rows rv' e0 e2' t' xss), hsl, by omega, fun _ => ⟨rfl, fun d hd => ?_⟩⟩
      cases hd
      refine ⟨by simp only; omega, fun _ => ⟨xss[r].length, v, ?_, nat_lt hT hh h0 h1, e1, by rw [e7, atOff_add hT hh]; rfl⟩⟩
      simp [hj]
    | _ => cases h
  · -- an array's variable
    rename_i n' e i off hs
    obtain ⟨s, rd', hsl, h⟩ := Prog.run_look h
    have ho := hh.obj _ s hsl
    obtain ⟨n, o⟩ := s
    cases o with
    | vec ty nn t' xs =>
      obtain ⟨hc, h⟩ := Prog.run_chk h
      simp only [Bool.and_eq_true] at hc
      obtain ⟨⟨hty, hn⟩, hoff⟩ := hc
      obtain ⟨h0, h⟩ := Prog.run_grd h
      obtain ⟨h1, h⟩ := Prog.run_grd h
      cases Prog.run_ret h
      obtain ⟨⟨q0, q1⟩, g, fl, q2, q3, q4, q5⟩ := ho
      obtain ⟨_, s0, g1, g2, g3⟩ := hy _ rfl
      have hnn : n' = nn := beq_of hn
      have ho0 : off = 0 := beq_of hoff
      subst ho0
      obtain ⟨hu, _⟩ := (hT t).array _ _ hs
      obtain ⟨ii, hi, hsz, _, hz, _⟩ := (hT e).info ((hT e).tyo _ (of_decide_eq_true hty))
      have hsz' := (hz _ (of_decide_eq_true hty)).1
      have hv : v = .pointer (some ⟨g, 0, none⟩) := by rw [g3, q2]; rfl
      refine ⟨.pointer (some ⟨g, j.toNat * t'.sz, none⟩), _, ?_, rfl, rfl, (n, .vec ty nn t' xs), hsl, Nat.le_refl _, fun _ => ⟨rfl, fun d hd => ?_⟩⟩
      · rw [hv]
        simp [Instr.indexAt, asIntOf, run_underlying hu, Instr.sureAddr, h0, h1, sizeOf, typeInfo, hi, hsz, ← hsz', atOff_add hT hh]
      · cases hd
        exact ⟨by simp only; omega, by rw [q2]; rfl⟩
    | _ => cases h
  · -- an array that is an element: a constant index
    rename_i n' e i ver r off hs
    split at h
    · rename_i m
      obtain ⟨s, rd', hsl, h⟩ := Prog.run_look h
      obtain ⟨hc, h⟩ := Prog.run_chk h
      cases Prog.run_ret h
      simp only [Bool.and_eq_true] at hc
      obtain ⟨⟨⟨hv, hrow⟩, hm⟩, hkn⟩ := hc
      have hlt := blt_true hm
      obtain ⟨_, s0, g1, g2, g3⟩ := hy _ rfl
      have : s0 = s := Option.some.inj (g1.symm.trans hsl)
      subst this
      obtain ⟨k1, k2⟩ := g3 (beq_of hv)
      obtain ⟨d, hd⟩ : ∃ d, s0.2.dim = some d := by
        cases hs2 : s0.2 <;> rw [hs2] at hrow <;> first | exact ⟨_, rfl⟩ | cases hrow
      obtain ⟨m1, m2⟩ := k2 d hd
      obtain ⟨hu, _⟩ := (hT t).array _ _ hs
      obtain ⟨ii, hi, hsz, _⟩ := (hT e).info (fun he => by rw [he] at hkn; cases hkn)
      obtain ⟨g, hg⟩ : ∃ g, ∀ q, atOff (H i).hdr q = .pointer (some ⟨g, q, none⟩) := by
        have ho := hh.obj _ s0 g1
        cases hs2 : s0.2 <;> rw [hs2] at hrow ho hd <;> try cases hrow
        · obtain ⟨_, ⟨fl, _, q3⟩, _⟩ := ho
          cases hd
          obtain ⟨g, c, e2⟩ := elt_addr hT hh q3 (by simp only at m1; omega)
          exact ⟨g, fun q => by rw [e2]; rfl⟩
        · obtain ⟨_, g, fl, q2, _⟩ := ho
          exact ⟨g, fun q => by rw [q2]; rfl⟩
      refine ⟨.pointer (some ⟨g, r * d.2 + (off + m * (E.info e).size), none⟩), _, ?_, rfl, rfl, s0, g1, g2, fun hq => ⟨(g3 hq).1, fun d' hd' => ?_⟩⟩
      · rw [m2, hg]
        have e0 : ((⟨g, r * d.2 + off, none⟩ : Addr).add (m * (E.info e).size)) = ⟨g, r * d.2 + (off + m * (E.info e).size), none⟩ := by
          unfold Addr.add; split
          · rename_i hz; rw [hz]; rfl
          · simp [Nat.add_assoc]
        simp [Instr.indexAt, asIntOf, run_underlying hu, Instr.sureAddr, hlt, sizeOf, typeInfo, hi, hsz, e0]
        try omega
      · rw [hd] at hd'; cases hd'
        exact ⟨m1, (hg _).symm⟩
    · cases h
  · rename_i n' e n'' t' xs hs
    obtain ⟨hc, h⟩ := Prog.run_chk h
    rw [Bool.and_eq_true] at hc
    obtain ⟨hn, hty⟩ := hc
    obtain ⟨h0, h⟩ := Prog.run_grd h
    obtain ⟨h1, h⟩ := Prog.run_grd h
    cases Prog.run_ret h
    obtain ⟨ad, cs, g1, ⟨g2, g3⟩, g4⟩ := hy _ rfl
    have hnn : n' = n'' := beq_of hn
    obtain ⟨hu, _⟩ := (hT t).array _ _ hs
    obtain ⟨ii, hi, hsz, _, hz, _⟩ := (hT e).info ((hT e).tyo _ (of_decide_eq_true hty))
    have hsz' := (hz _ (of_decide_eq_true hty)).1
    have hj : j.toNat < List.length xs := by rw [g2, ← hnn]; omega
    obtain ⟨es, f1, f2⟩ := ROL_get (fun _ _ h => RO_len h) g3 j.toNat hj
    have hg : List.getD xs j.toNat t'.zero = xs[j.toNat] := by simp [List.getD_eq_getElem?_getD, hj]
    refine ⟨.pointer (some (ad.add (j.toNat * t'.sz))), _, ?_, rfl, _, es, rfl, by rw [hg]; exact f1, mem_part (t := t') (u := t') (x := t'.zero) (y := t'.zero) g4 f2⟩
    rw [g1]
    simp [Instr.indexAt, asIntOf, run_underlying hu, Instr.sureAddr, h0, h1, sizeOf, typeInfo, hi, hsz, ← hsz']
  · cases h
end
end Go.Proofs.Yteblfhhhbfodgaa.Sim
/- The operations one by one: fields, loads, plain values. -/
set_option linter.unusedVariables false
set_option linter.unusedSimpArgs false
set_option linter.unusedSectionVars false
namespace Go.Proofs.Yteblfhhhbfodgaa.Sim
open Go Go.RowKit

section
variable {X : Ctx} {H H' : Nat → Wit} {os os' : List Slot} {w w' : World} {ok : Nat → Prop}
variable {P : Program} {E : Env} (hT : TabOk P E) (hh : HeapR X H os w)
include hT hh

/-- An element's address that is in order. -/
theorem elt_of {i ver j off : Nat} {v : Value} (h : AVR w (okOf X w H os) H os (.elt i ver j off) v) {s : Slot} (hsl : os[i]? = some s) (hv : Nat.beq s.1 ver = true) (hrow : s.2.isRow = true) :
    ∃ d g, s.2.dim = some d ∧ j < d.1 ∧ v = .pointer (some ⟨g, j * d.2 + off, none⟩) ∧ (∀ q, atOff (H i).hdr q = .pointer (some ⟨g, q, none⟩)) ∧ s.2.live = true ∧ s.1 = ver := by
  obtain ⟨_, s0, g1, g2, g3⟩ := h
  have : s0 = s := Option.some.inj (g1.symm.trans hsl)
  subst this
  obtain ⟨k1, k2⟩ := g3 (beq_of hv)
  obtain ⟨d, hd⟩ : ∃ d, s0.2.dim = some d := by
    cases hs2 : s0.2 <;> rw [hs2] at hrow <;> first | exact ⟨_, rfl⟩ | cases hrow
  obtain ⟨m1, m2⟩ := k2 d hd
  obtain ⟨g, hg⟩ : ∃ g, ∀ q, atOff (H i).hdr q = .pointer (some ⟨g, q, none⟩) := by
    have ho := hh.obj _ s0 g1
    cases hs2 : s0.2 <;> rw [hs2] at hrow ho hd <;> try cases hrow
    · obtain ⟨_, ⟨fl, _, q3⟩, _⟩ := ho
      cases hd
      obtain ⟨g, c, e2⟩ := elt_addr hT hh q3 (by simp only at m1; omega)
      exact ⟨g, fun q => by rw [e2]; rfl⟩
    · obtain ⟨_, g, fl, q2, _⟩ := ho
      exact ⟨g, fun q => by rw [q2]; rfl⟩
  exact ⟨d, g, hd, m1, by rw [m2, hg], hg, k1, beq_of hv⟩

/-- A variable's address. -/
theorem ptr_of {i off : Nat} {v : Value} (h : AVR w (okOf X w H os) H os (.ptr i off) v) : ∃ s g, os[i]? = some s ∧ s.2.isVar = true ∧ (H i).hdr = .pointer (some ⟨g, 0, none⟩) ∧ v = .pointer (some ⟨g, off, none⟩) := by
  obtain ⟨_, s, g1, g2, g3⟩ := h
  have ho := hh.obj _ s g1
  obtain ⟨n, o⟩ := s
  cases o <;> try cases g2
  · obtain ⟨g, vs, e1, _⟩ := ho
    exact ⟨_, g, g1, rfl, e1, by rw [g3, e1]; rfl⟩
  · obtain ⟨_, g, fl, e1, _⟩ := ho
    exact ⟨_, g, g1, rfl, e1, by rw [g3, e1]; rfl⟩

theorem fieldP_ok {t : TypeId} {y : TV} {v : Value} {f : Nat} (hy : TVR w (okOf X w H os) H os y v) {res : Res} {rd : List Nat} (h : (fieldP E t y f).run (fun i => os[i]?) = some (res, rd)) :
    ∃ u x, (Instr.fieldAt t v f).run P w = .ok u w ∧ res = ⟨.one x, []⟩ ∧ AVR w (okOf X w H os) H os x u := by
  unfold fieldP at h
  split at h
  · rename_i fs hs
    obtain ⟨F, hu, hF, hch⟩ := (hT t).struct fs hs
    split at h
    · cases h
    · rename_i ft fo hf
      replace h := Prog.run_chk h
      obtain ⟨hc, h⟩ := h
      rw [Bool.and_eq_true] at hc
      obtain ⟨hsz, hkn⟩ := hc
      -- the field itself
      obtain ⟨fl, e1, e2⟩ : ∃ fl, F[f]? = some fl ∧ (fl.type, fl.offset) = (ft, fo) := by
        rw [← hF, List.getElem?_map, Option.map_eq_some_iff] at hf
        obtain ⟨fl, g1, g2⟩ := hf
        exact ⟨fl, by simpa using g1, g2⟩
      simp only [Prod.mk.injEq] at e2
      obtain ⟨ii, hi, hsz', _⟩ := (hT ft).info (fun he => by rw [he] at hkn; cases hkn)
      have hne : ii.size ≠ 0 := by rw [hsz']; simpa using hsz
      have run : ∀ ad : Addr, (Instr.fieldAt t (.pointer (some ad)) f).run P w = .ok (.pointer (some (ad.add fo))) w := by
        intro ad
        simp [Instr.fieldAt, run_underlying hu, e1, Instr.sureAddr, fieldPlace, sizeOf, typeInfo, e2.1, e2.2, hi, hne]
      split at h
      · rename_i i off
        cases Prog.run_ret h
        obtain ⟨s, g, g1, g2, g3, g4⟩ := ptr_of hT hh (hy _ rfl)
        refine ⟨.pointer (some ⟨g, off + fo, none⟩), _, ?_, rfl, rfl, s, g1, g2, by rw [g3]; rfl⟩
        rw [g4, run]
        have : (⟨g, off, none⟩ : Addr).add fo = ⟨g, off + fo, none⟩ := by unfold Addr.add; split <;> simp_all
        rw [this]
      · rename_i i ver j off
        obtain ⟨s, rd', hsl, h⟩ := Prog.run_look h
        obtain ⟨hc, h⟩ := Prog.run_chk h
        rw [Bool.and_eq_true] at hc
        cases Prog.run_ret h
        obtain ⟨d, g, k1, k2, k3, k4, k5, k6⟩ := elt_of hT hh (hy _ rfl) hsl hc.1 hc.2
        refine ⟨.pointer (some ⟨g, j * d.2 + (off + fo), none⟩), _, ?_, rfl, rfl, s, hsl, by omega, fun hq => ⟨k5, fun d' hd' => ?_⟩⟩
        · rw [k3, run]
          have : (⟨g, j * d.2 + off, none⟩ : Addr).add fo = ⟨g, j * d.2 + (off + fo), none⟩ := by unfold Addr.add; split <;> simp_all [Nat.add_assoc]
          rw [this]
        · rw [k1] at hd'; cases hd'
          exact ⟨k2, (k4 _).symm⟩
      · rename_i u' y'
        obtain ⟨v', h1, h⟩ := Prog.run_opt h
        obtain ⟨z, h2, h⟩ := Prog.run_opt h
        cases Prog.run_ret h
        obtain ⟨ad, cs, g1, g2, g3⟩ := hy _ rfl
        obtain ⟨ds, q1, q2⟩ := projAt_ok _ _ _ g2 h2
        exact ⟨.pointer (some (ad.add fo)), _, by rw [g1, run], rfl, _, ds, rfl, q1, mem_part (t := u') (u := v') (x := y') (y := z) g3 q2⟩
      · cases h
  · cases h

theorem loadP_ok {t : TypeId} {y : TV} {v : Value} (hy : TVR w (okOf X w H os) H os y v) {res : Res} {rd : List Nat} (h : (loadP E t y).run (fun i => os[i]?) = some (res, rd)) :
    ∃ u, (Instr.loadAt t v).run P w = .ok u w ∧ res.upds = [] ∧ TVR w (okOf X w H os) H os res.val u := by
  have run : ∀ ad : Addr, (Instr.loadAt t (.pointer (some ad))).run P w = (loadVar t ad).run P w := by
    intro ad; simp [Instr.loadAt, Instr.sureAddr]
  unfold loadP at h
  split at h
  · -- a variable
    rename_i i off
    replace h := Prog.run_look h
    obtain ⟨s, rd', hsl, h⟩ := h
    obtain ⟨s0, g, g1, g2, g3, g4⟩ := ptr_of hT hh (hy _ rfl)
    have : s0 = s := Option.some.inj (g1.symm.trans hsl)
    subst this
    have ho := hh.obj _ s0 g1
    clear hsl
    obtain ⟨n, o⟩ := s0
    cases o <;> try cases g2
    · rename_i ty cells
      dsimp only at h
      obtain ⟨g', vs, e1, e2, e3, e4, e5⟩ := ho
      have hgg : g' = g := by rw [g3] at e1; injection e1 with e1; injection e1 with e1; injection e1 with e1; exact e1.symm
      subst hgg
      have hcell : ∀ q, w.cell? ⟨g', q, none⟩ = vs[q]? := fun q => cell_of_row w g' q vs ty (0, 0) e3
      split at h
      · -- a struct
        rename_i fs hs
        obtain ⟨hc, h⟩ := Prog.run_chk h
        cases Prog.run_ret h
        have hle : off + (E.info t).size ≤ cells.length := Nat.le_of_ble_eq_true hc
        obtain ⟨F, hu, _, _⟩ := (hT t).struct fs hs
        obtain ⟨ii, hi, hsz', _⟩ := (hT t).info (by rw [hs]; intro e; cases e)
        have hlen : ((vs.toList.drop off).take (E.info t).size).length = (E.info t).size := by
          rw [List.length_take, List.length_drop, Array.length_toList, e4]; omega
        have hl := run_loadCells_list (P := P) w ⟨g', off, none⟩ ((vs.toList.drop off).take (E.info t).size) (fun j u hu => by
          have e0 : (⟨g', off, none⟩ : Addr).add j = ⟨g', off + j, none⟩ := by unfold Addr.add; split <;> simp_all
          rw [e0, hcell]
          rw [List.getElem?_take] at hu
          split at hu
          · rw [List.getElem?_drop] at hu; simpa using hu
          · cases hu)
        rw [hlen] at hl
        have hagg : (isAgg t).run P w = .ok true w := by
          unfold isAgg
          rw [Sem.run_bind, run_underlying hu w]
          rfl
        refine ⟨.agg ((vs.toList.drop off).take (E.info t).size).toArray, ?_, rfl, _, rfl, ?_, fun k a ha => ?_⟩
        · rw [g4, run]
          simp [loadVar, hagg, sizeOf, typeInfo, hi, hsz', hl]
        · rw [List.size_toArray, hlen, List.length_take, List.length_drop]; omega
        · rw [List.getElem?_take] at ha
          split at ha
          · rename_i hk
            rw [List.getElem?_drop] at ha
            obtain ⟨u, q1, q2, q3⟩ := e5 _ _ ha
            refine ⟨u, ?_, q2, q3⟩
            rw [List.getElem?_toArray, List.getElem?_take, if_pos hk, List.getElem?_drop]
            simpa using q1
          · cases ha
      · cases h
      · cases h
      · rename_i hs1 hs2 hs3
        obtain ⟨x, hx, h⟩ := Prog.run_opt h
        cases Prog.run_ret h
        obtain ⟨u, q1, q2, q3⟩ := e5 _ _ hx
        refine ⟨u, ?_, rfl, tv_one q2⟩
        rw [g4, run]
        have hagg : (isAgg t).run P w = .ok false w ∨ (loadVar t ⟨g', off, none⟩).run P w = .ok u w := by
          cases hsh : (E.info t).shp with
          | prim =>
            obtain ⟨ty', _, e2⟩ := (hT t).prim hsh
            left
            rcases e2 with ⟨k, _, e3⟩ | ⟨_, e3⟩ | ⟨_, e3⟩ <;> simp [isAgg, run_underlying e3]
          | slice e => left; simp [isAgg, run_underlying ((hT t).slice e hsh).1]
          | struct fs => exact absurd hsh (hs1 fs)
          | array n e => exact absurd hsh (hs2 n e)
          | map k v' => left; simp [isAgg, run_underlying ((hT t).map _ _ hsh).1]
          | other => exact absurd hsh hs3
        rcases hagg with hagg | hagg
        · simp [loadVar, hagg, hcell, q1]
        · exact hagg
    · rename_i ty nn u' xs
      dsimp only at h
      obtain ⟨⟨h0, h1⟩, g', fl, e1, e2, e3, e4⟩ := ho
      have hgg : g' = g := by rw [g3] at e1; injection e1 with e1; injection e1 with e1; injection e1 with e1; exact e1.symm
      subst hgg
      split at h
      · rename_i n' u'' hty
        obtain ⟨hc, h⟩ := Prog.run_chk h
        rw [Bool.and_eq_true] at hc
        obtain ⟨e, h⟩ := Prog.run_cast h
        subst e
        cases Prog.run_ret h
        have ho0 : off = 0 := beq_of hc.1
        have hnn : n' = nn := beq_of hc.2
        subst ho0; subst hnn
        have hro : RO w (okOf X w H os) (.arr n' u') xs fl := ⟨h1, e3⟩
        refine ⟨_, ?_, rfl, tv_ro hro⟩
        rw [g4, run]
        exact load_mem hT hty hro (fun j u hu => by
          rw [atOff_add hT hh, cell_of_row w g' j _ ty (0, 0) e4]; simpa using hu)
      · cases h
  · -- an element
    rename_i i ver j off
    obtain ⟨s, rd', hsl, h⟩ := Prog.run_look h
    obtain ⟨hv, h⟩ := Prog.run_chk h
    obtain ⟨n, o⟩ := s
    have ho := hh.obj _ _ hsl
    cases o with
    | arr e0 u xs =>
      obtain ⟨v', h1, h⟩ := Prog.run_opt h
      obtain ⟨z, h2, h⟩ := Prog.run_opt h
      cases Prog.run_ret h
      obtain ⟨d, g, k1, k2, k3, k4, k5, k6⟩ := elt_of hT hh (hy _ rfl) hsl hv rfl
      cases k1
      obtain ⟨q0, ⟨fl, q1, q2⟩, q3⟩ := ho
      obtain ⟨es, f1, f2⟩ := ROL_get (fun _ _ h => RO_len h) q1 j k2
      have hg : xs.getD j u.zero = xs[j] := by simp only at k2; simp [List.getD_eq_getElem?_getD, k2]
      rw [hg] at h2
      obtain ⟨ds, r1, r2⟩ := projAt_ok _ _ _ f1 h2
      have hb : (H i).hdr.ownBlock = some g := by
        have := k4 0
        obtain ⟨gg, c, e2⟩ := elt_addr hT hh q2 (by simp only at k2; omega)
        rw [e2] at this ⊢
        injection this with this; injection this with this; injection this with this
        exact congrArg some this
      refine ⟨_, ?_, rfl, tv_ro r1⟩
      rw [k3, run]
      refine load_mem hT h1 r1 (fun jj uu hu => ?_)
      have := q2.cells hb _ uu (f2 _ uu (r2 jj uu hu))
      rw [atOff_add hT hh] at this
      have e0 : (⟨g, j * u.sz + off, none⟩ : Addr).add jj = ⟨g, j * u.sz + (off + jj), none⟩ := by unfold Addr.add; split <;> simp_all [Nat.add_assoc]
      rw [e0]; exact this
    | vec ty nn u xs =>
      obtain ⟨v', h1, h⟩ := Prog.run_opt h
      obtain ⟨z, h2, h⟩ := Prog.run_opt h
      cases Prog.run_ret h
      obtain ⟨d, g, k1, k2, k3, k4, k5, k6⟩ := elt_of hT hh (hy _ rfl) hsl hv rfl
      cases k1
      obtain ⟨⟨q0, q00⟩, g', fl, q1, q2, q3, q4⟩ := ho
      obtain ⟨es, f1, f2⟩ := ROL_get (fun _ _ h => RO_len h) q3 j k2
      have hg : xs.getD j u.zero = xs[j] := by simp only at k2; simp [List.getD_eq_getElem?_getD, k2]
      rw [hg] at h2
      obtain ⟨ds, r1, r2⟩ := projAt_ok _ _ _ f1 h2
      have hgg : g' = g := by have := k4 0; rw [q1] at this; injection this with this; injection this with this; injection this with this
      subst hgg
      refine ⟨_, ?_, rfl, tv_ro r1⟩
      rw [k3, run]
      refine load_mem hT h1 r1 (fun jj uu hu => ?_)
      have e0 : (⟨g', j * u.sz + off, none⟩ : Addr).add jj = ⟨g', j * u.sz + (off + jj), none⟩ := by unfold Addr.add; split <;> simp_all [Nat.add_assoc]
      rw [e0, cell_of_row w g' _ _ ty (0, 0) q4]
      have := f2 _ uu (r2 jj uu hu)
      simpa using this
    | rows rv e0 e2 u xss =>
      obtain ⟨hc, h⟩ := Prog.run_chk h
      rw [Bool.and_eq_true] at hc
      cases Prog.run_ret h
      have ho0 : off = 0 := beq_of hc.1
      subst ho0
      have hty : (E.info t).ty = some (.slice u) := of_decide_eq_true hc.2
      obtain ⟨_, s0, g1, g2, g3⟩ := hy _ rfl
      have : s0 = (n, .rows rv e0 e2 u xss) := Option.some.inj (g1.symm.trans hsl)
      subst this
      obtain ⟨k1, k2⟩ := g3 (beq_of hv)
      obtain ⟨m1, m2⟩ := k2 (xss.length, 1) rfl
      obtain ⟨q1, q2, q3, q4, q5⟩ := ho
      simp only at m1 m2
      obtain ⟨g, c, e3⟩ := elt_addr hT hh q3 (by omega)
      have hj : j < (H i).rw.length := by omega
      have hcell := q3.cells (g := g) (by rw [e3]; rfl) j (H i).rw[j] (List.getElem?_eq_getElem hj)
      rw [atOff_add hT hh] at hcell
      obtain ⟨⟨fl, r1, r2⟩, r3⟩ := q4 j _ _ (List.getElem?_eq_getElem m1) (List.getElem?_eq_getElem hj)
      obtain ⟨A, cc, e4, _⟩ := slice_hdr r2
      refine ⟨(H i).rw[j], ?_, rfl, tv_one ⟨by rw [e4]; rfl, (n, .rows rv e0 e2 u xss), hsl, g2, fun _ => ⟨rfl, fun r hr => ?_⟩⟩⟩
      · rw [m2, e3, Nat.mul_one, Nat.add_zero]
        show (Instr.loadAt t (.pointer (some ⟨g, j, none⟩))).run P w = _
        rw [run]
        have hagg : (isAgg t).run P w = .ok false w := by
          have hk := (hT t).tyo _ hty
          cases hsh : (E.info t).shp with
          | slice e => simp [isAgg, run_underlying ((hT t).slice e hsh).1]
          | prim =>
            obtain ⟨ty', e1, e2⟩ := (hT t).prim hsh
            rw [hty] at e1; cases e1
            rcases e2 with ⟨k, e, _⟩ | ⟨e, _⟩ | ⟨e, _⟩ <;> cases e
          | struct fs =>
            obtain ⟨F, _, _, hch⟩ := (hT t).struct fs hsh
            have := hch _ hty
            cases fs with
            | nil => cases this
            | cons f fs => obtain ⟨a, b, e, _⟩ := this; cases e
          | array n e => obtain ⟨_, h2⟩ := (hT t).array n e hsh; obtain ⟨u', e, _⟩ := h2 _ hty; cases e
          | map k v' => have := ((hT t).map _ _ hsh).2; rw [hty] at this; cases this
          | other => exact absurd hsh hk
        simp [loadVar, hagg, hcell]
      · cases hr
        exact ⟨Nat.le_refl _, fun _ => ⟨by simpa using m1, List.getElem?_eq_getElem hj⟩⟩
    | _ => cases h
  · -- an element of a row
    rename_i i ver rv r j off
    obtain ⟨s, rd', hsl, h⟩ := Prog.run_look h
    obtain ⟨hv, h⟩ := Prog.run_chk h
    obtain ⟨n, o⟩ := s
    have ho := hh.obj _ _ hsl
    cases o with
    | rows rv' e0 e2 u xss =>
      obtain ⟨hrv, h⟩ := Prog.run_chk h
      obtain ⟨v', h1, h⟩ := Prog.run_opt h
      obtain ⟨z, h2, h⟩ := Prog.run_opt h
      cases Prog.run_ret h
      obtain ⟨_, s0, g1, g2, g3⟩ := hy _ rfl
      have : s0 = (n, .rows rv' e0 e2 u xss) := Option.some.inj (g1.symm.trans hsl)
      subst this
      obtain ⟨k1, k2⟩ := g3 (beq_of hv)
      obtain ⟨m1, m2⟩ := k2 _ rfl
      obtain ⟨nn, hd, p1, p2, p3, p4⟩ := m2 (beq_of hrv)
      obtain ⟨q1, q2, q3, q4, q5⟩ := ho
      simp only [List.getElem?_map, Option.map_eq_some_iff] at p1
      obtain ⟨xs, x1, x2⟩ := p1
      obtain ⟨⟨fl, r1, r2⟩, r3⟩ := q4 r xs hd x1 p3
      have hgr : xss.getD r [] = xs := by simp [List.getD_eq_getElem?_getD, x1]
      rw [hgr] at h2
      have hjl : j < xs.length := by omega
      obtain ⟨es, f1, f2⟩ := ROL_get (fun _ _ h => RO_len h) r1 j hjl
      have hg : xs.getD j u.zero = xs[j] := by simp [List.getD_eq_getElem?_getD, hjl]
      rw [hg] at h2
      obtain ⟨ds, t1, t2⟩ := projAt_ok _ _ _ f1 h2
      obtain ⟨g, c, e3⟩ := elt_addr hT hh r2 (by omega)
      refine ⟨_, ?_, rfl, tv_ro t1⟩
      rw [p4, e3]
      show (Instr.loadAt t (.pointer (some ⟨g, j * u.sz + off, none⟩))).run P w = _
      rw [run]
      refine load_mem hT h1 t1 (fun jj uu hu => ?_)
      have := r2.cells (g := g) (by rw [e3]; rfl) _ uu (f2 _ uu (t2 jj uu hu))
      rw [atOff_add hT hh] at this
      have e0 : (⟨g, j * u.sz + off, none⟩ : Addr).add jj = ⟨g, j * u.sz + (off + jj), none⟩ := by unfold Addr.add; split <;> simp_all [Nat.add_assoc]
      rw [e0]; exact this
    | _ => cases h
  · -- an element of data
    rename_i u' y'
    obtain ⟨hty, h⟩ := Prog.run_chk h
    cases Prog.run_ret h
    obtain ⟨ad, cs, g1, g2, g3⟩ := hy _ rfl
    exact ⟨_, by rw [g1, run]; exact load_mem hT (of_decide_eq_true hty) g2 g3.2, rfl, tv_ro g2⟩
  · cases h
end
end Go.Proofs.Yteblfhhhbfodgaa.Sim
/- The operations one by one: plain values. -/
set_option linter.unusedVariables false
set_option linter.unusedSimpArgs false
set_option linter.unusedSectionVars false
namespace Go.Proofs.Yteblfhhhbfodgaa.Sim
open Go Go.RowKit

theorem prim_of {s : Shp} (h : s.isPrim = true) : s = .prim := by cases s <;> first | rfl | cases h
theorem slice_of {s : Shp} (h : s.isSlice = true) : ∃ e, s = .slice e := by cases s <;> first | exact ⟨_, rfl⟩ | cases h

section
variable {X : Ctx} {H H' : Nat → Wit} {os os' : List Slot} {w w' : World} {ok : Nat → Prop}
variable {P : Program} {E : Env} (hT : TabOk P E) (hh : HeapR X H os w)
include hT hh

theorem binP_ok {t : TypeId} {op : BinOp} {x y : TV} {u v : Value} (hx : TVR w (okOf X w H os) H os x u) (hy : TVR w (okOf X w H os) H os y v) {res : Res} {rd : List Nat} (h : (binP E t op x y).run (fun i => os[i]?) = some (res, rd)) (ox oy : Operand) :
    ∃ z, (do eqGuard op t ox oy u v; binOp op t u v : Sem Value).run P w = .ok z w ∧ res.upds = [] ∧ TVR w (okOf X w H os) H os res.val z := by
  unfold binP at h
  split at h
  · -- whole numbers
    rename_i k a k' b hx1 hy1
    have e1 := int_of hx1 hx
    have e2 := int_of hy1 hy
    subst e1; subst e2
    obtain ⟨hk, h⟩ := Prog.run_chk h
    have hk' : k = k' := of_decide_eq_true hk
    subst hk'
    have hg : (eqGuard op t ox oy (.int k a) (.int k b)).run P w = .ok () w := by cases op <;> simp [eqGuard]
    cases op <;> simp only at h <;> first
      | (cases Prog.run_ret h; refine ⟨_, ?_, rfl, tv_int _ _⟩; simp [hg, binOp, Op.intArith, Op.intBits]; done)
      | (cases Prog.run_ret h; refine ⟨_, ?_, rfl, tv_bool _⟩; simp [hg, binOp, Op.intCmp]; done)
      | (obtain ⟨h0, h⟩ := Prog.run_grd h; cases Prog.run_ret h; refine ⟨_, ?_, rfl, tv_int _ _⟩; simp [hg, binOp, Op.intDiv, h0]; done)
      | (cases h; done)
  · rename_i a b hx1 hy1 hn
    have e1 := bool_of hx1 hx
    have e2 := bool_of hy1 hy
    subst e1; subst e2
    obtain ⟨hc, h⟩ := Prog.run_chk h
    rw [Bool.and_eq_true] at hc
    have hu : P.underlying t = some .bool := by
      obtain ⟨ty', e1, e2⟩ := (hT t).prim (prim_of hc.2)
      rw [of_decide_eq_true hc.1] at e1; cases e1
      rcases e2 with ⟨k, e, _⟩ | ⟨_, e3⟩ | ⟨e, _⟩
      · cases e
      · exact e3
      · cases e
    have hg : (eqGuard op t ox oy (.bool a) (.bool b)).run P w = .ok () w := by cases op <;> simp [eqGuard]
    cases op <;> simp only at h <;> first
      | (cases Prog.run_ret h; refine ⟨_, ?_, rfl, tv_bool _⟩; simp [hg, run_eql_bool w t a b hu, run_neq_bool w t a b hu]; done)
      | (cases h; done)
  · rename_i a b hx1 hy1 hn1 hn2
    have e1 := str_of hx1 hx
    have e2 := str_of hy1 hy
    subst e1; subst e2
    have hg : (eqGuard op t ox oy (.string a) (.string b)).run P w = .ok () w := by cases op <;> simp [eqGuard]
    cases op <;> simp only at h <;> first
      | (cases Prog.run_ret h; refine ⟨_, ?_, rfl, tv_bool _⟩; simp [hg, binOp, Op.stringOp]; done)
      | (obtain ⟨h0, h⟩ := Prog.run_grd h; cases Prog.run_ret h; refine ⟨_, ?_, rfl, tv_str _⟩; simp only [Sem.run_bind, hg, Result.andThen_ok, binOp]; exact run_string_add_sum (P := P) w a b (by omega); done)
      | (cases h; done)
  · split at h
    · rename_i i ver rv j _ _ _
      obtain ⟨s, rd', hsl, h⟩ := Prog.run_look h
      obtain ⟨hv, h⟩ := Prog.run_chk h
      obtain ⟨n, o⟩ := s
      cases o with
      | rows rv' e0 e2 t' xss =>
        obtain ⟨hr, h⟩ := Prog.run_chk h
        rw [Bool.and_eq_true] at hr
        cases Prog.run_ret h
        obtain ⟨hj, e1, e2, ⟨fl, e3, e4⟩, e5, e6⟩ := row_of hh (hx _ rfl) hsl hv hr.1
        have hv2 : v = .slice none 0 0 := hy _ rfl
        subst hv2
        obtain ⟨e, he⟩ := slice_of hr.2
        have hu := ((hT t).slice e he).1
        rw [e2]
        by_cases hz : xss[j] = []
        · have := e5 hz
          subst this
          refine ⟨.bool false, ?_, rfl, by rw [hz]; exact tv_bool _⟩
          simp [eqGuard, run_neq_slice_nil w t e none 0 0 hu]
        · have hpos : 0 < xss[j].length := List.length_pos_iff.2 hz
          obtain ⟨g, c, e7⟩ := elt_addr hT hh e4 hpos
          refine ⟨.bool true, ?_, rfl, by rw [show decide (0 < xss[j].length) = true from decide_eq_true hpos]; exact tv_bool _⟩
          rw [e7]
          simp [eqGuard, run_neq_slice_nil w t e _ _ _ hu]
      | _ => cases h
    · cases h

theorem convP_ok {src dst : TypeId} {y : TV} {v : Value} {fr : Nat} (hy : TVR w (okOf X w H os) H os y v) {res : Res} {rd : List Nat} (h : (convP E src dst y fr).run (fun i => os[i]?) = some (res, rd)) :
    ∃ z, (convert src dst v).run P w = .ok z w ∧ res.upds = [] ∧ TVR w (okOf X w H os) H os res.val z := by
  have shpo : ∀ {t : TypeId} {ty : Ty}, (E.info t).ty = some ty → (∃ k, ty = .int k) ∨ ty = .str → (E.info t).shp = .prim := by
    intro t ty ht hty
    have hk := (hT t).tyo _ ht
    cases hsh : (E.info t).shp with
    | prim => rfl
    | slice e => obtain ⟨_, _, h3⟩ := (hT t).slice e hsh; obtain ⟨u, rfl, _⟩ := h3 _ ht; rcases hty with ⟨k, e⟩ | e <;> cases e
    | struct fs =>
      obtain ⟨F, _, _, hch⟩ := (hT t).struct fs hsh
      have := hch _ ht
      cases fs with
      | nil => cases (show ty = .unit from this); rcases hty with ⟨k, e⟩ | e <;> cases e
      | cons f fs => obtain ⟨a, b, rfl, _⟩ := this; rcases hty with ⟨k, e⟩ | e <;> cases e
    | array n e => obtain ⟨_, h2⟩ := (hT t).array n e hsh; obtain ⟨u, rfl, _⟩ := h2 _ ht; rcases hty with ⟨k, e⟩ | e <;> cases e
    | map k v' => have := ((hT t).map _ _ hsh).2; rw [ht] at this; cases this
    | other => exact absurd hsh hk
  unfold convP at h
  split at h
  · rename_i k k' hs1 hs2 hs3
    obtain ⟨n, h1, h⟩ := Prog.run_opt h
    cases Prog.run_ret h
    have e1 := int_of (k := n.1) (n := n.2) h1 hy
    subst e1
    refine ⟨_, ?_, rfl, tv_int _ _⟩
    simp [convert, run_underlying (prim_int hT hs1 hs2), run_underlying (prim_int hT (shpo hs3 (.inl ⟨_, rfl⟩)) hs3), Conv.intToInt]
  · rename_i k' hs1 hs2 hs3
    obtain ⟨n, h1, h⟩ := Prog.run_opt h
    cases Prog.run_ret h
    have e1 := int_of (k := n.1) (n := n.2) h1 hy
    subst e1
    refine ⟨_, ?_, rfl, tv_str _⟩
    simp [convert, run_underlying (prim_str hT hs1 hs2), run_underlying (prim_int hT (shpo hs3 (.inl ⟨_, rfl⟩)) hs3), Conv.intToString]
  · rename_i hs1 hs2 hs3
    obtain ⟨n, h1, h⟩ := Prog.run_opt h
    cases Prog.run_ret h
    have e1 := str_of h1 hy
    subst e1
    refine ⟨_, ?_, rfl, tv_str _⟩
    simp [convert, run_underlying (prim_str hT hs1 hs2), run_underlying (prim_str hT (shpo hs3 (.inr rfl)) hs3)]
  · rename_i hs1 hs2 hs3
    obtain ⟨xs, _, _, h1, h2, _⟩ := Prog.run_bind _ _ h
    cases Prog.run_ret h2
    obtain ⟨cs, ⟨A, c, e1, e2, e3, e4⟩, e5⟩ := view_ok hh hy h1
    refine ⟨.string (strOf xs), ?_, rfl, tv_str _⟩
    have hv : v = .slice A (List.length xs) c := by rw [e5, e1]; rfl
    have hshape : ∃ e, (E.info src).shp = .slice e ∧ (E.info e).ty = some (.int .u8) := by
      have hk := (hT src).tyo _ hs3
      cases hsh : (E.info src).shp with
      | prim =>
        obtain ⟨ty', g1, g2⟩ := (hT src).prim hsh
        rw [hs3] at g1; cases g1
        rcases g2 with ⟨k, e, _⟩ | ⟨e, _⟩ | ⟨e, _⟩ <;> cases e
      | slice e => obtain ⟨_, _, h3⟩ := (hT src).slice e hsh; obtain ⟨u, e6, e7⟩ := h3 _ hs3; cases e6; exact ⟨e, rfl, e7⟩
      | struct fs =>
        obtain ⟨F, _, _, hch⟩ := (hT src).struct fs hsh
        have := hch _ hs3
        cases fs with
        | nil => cases this
        | cons f fs => obtain ⟨a, b, e, _⟩ := this; cases e
      | array n e => obtain ⟨_, h2⟩ := (hT src).array n e hsh; obtain ⟨u, e, _⟩ := h2 _ hs3; cases e
      | map k v' => have := ((hT src).map _ _ hsh).2; rw [hs3] at this; cases this
      | other => exact absurd hsh hk
    obtain ⟨e, he1, he2⟩ := hshape
    have hue := ((hT src).slice e he1).1
    have hu8 := prim_int hT (shpo he2 (.inl ⟨_, rfl⟩)) he2
    have hud := prim_str hT hs1 hs2
    rw [hv]
    cases A with
    | none =>
      have hc := e3 rfl
      have hx0 : xs = [] := by
        cases xs with
        | nil => rfl
        | cons a as => simp at e2; omega
      subst hx0; subst hc
      simp [convert, run_underlying hue, run_underlying hud, run_underlying hu8, Conv.bytesToString]
      rfl
    | some ad =>
      have hl : (loadCells ad (List.length xs)).run P w = .ok (xs.map (Value.int .u8)).toArray w := by
        by_cases hz : xs = []
        · subst hz; simp [loadCells, loadCellsFrom]
        · obtain ⟨ad', fl, f1, f2, f3⟩ := e4 (List.length_pos_iff.2 hz)
          cases f1
          have hfl : ∀ {ys : List Int} {fl : List Value}, ROL (RO w (allOk w) (.int .u8)) ys fl → fl = ys.map (Value.int .u8) := by
            intro ys
            induction ys with
            | nil => intro fl h; exact h
            | cons a as ih => intro fl h; obtain ⟨p, q, r1, r2, r3⟩ := h; cases r2; rw [r1, ih r3]; rfl
          have := hfl f2
          subst this
          have := run_loadCells_list (P := P) w ad (xs.map (Value.int .u8)) f3.2
          simpa using this
      have hb := run_bytesToString (P := P) w ad (List.length xs) c xs hl
      have hres : xs.foldl (fun r n => r.push (UInt8.ofNat n.toNat)) ByteArray.empty = strOf xs := by
        rw [foldl_push_bytes]
        simp [strOf, ByteArray.empty, ByteArray.emptyWithCapacity]
        rfl
      rw [hres] at hb
      simp [convert, run_underlying hue, run_underlying hud, run_underlying hu8, hb]
  · cases h

end
end Go.Proofs.Yteblfhhhbfodgaa.Sim
/- The operations one by one: what is made. -/
set_option linter.unusedVariables false
set_option linter.unusedSimpArgs false
set_option linter.unusedSectionVars false
namespace Go.Proofs.Yteblfhhhbfodgaa.Sim
open Go Go.RowKit

section
variable {X : Ctx} {H H' : Nat → Wit} {os os' : List Slot} {w w' : World} {ok : Nat → Prop}

theorem cellsOf_ok : ∀ (t : Ty) (x : t.den) {cs : List AV} {ds : List Value}, cellsOf t x = some cs → RO w ok t x ds → cs.length = ds.length ∧ ∀ (k : Nat) a, cs[k]? = some a → ∃ v, ds[k]? = some v ∧ AVR w ok H os a v ∧ v.oneCell' = true
  | .unit, x, cs, ds, h, hr => by cases h; cases hr; exact ⟨rfl, fun k a ha => by simp at ha⟩
  | .pair a b, x, cs, ds, h, hr => by
    simp only [cellsOf, Option.bind_eq_some_iff, Option.map_eq_some_iff] at h
    obtain ⟨p, h1, q, h2, rfl⟩ := h
    obtain ⟨c, d, e1, e2, e3⟩ := hr
    obtain ⟨g1, g2⟩ := cellsOf_ok a x.1 h1 e2
    obtain ⟨f1, f2⟩ := cellsOf_ok b x.2 h2 e3
    subst e1
    refine ⟨by simp [g1, f1], fun k u hu => ?_⟩
    rw [List.getElem?_append] at hu ⊢
    rw [g1] at hu
    split at hu
    · rename_i hk; rw [if_pos hk]; exact g2 k u hu
    · rename_i hk; rw [if_neg hk]; exact f2 _ u hu
  | .arr _ _, x, cs, ds, h, hr => by cases h
  | .int k, x, cs, ds, h, hr => by
    cases h; cases hr
    exact ⟨rfl, fun k a ha => by cases k with
      | zero => cases ha; exact ⟨_, rfl, ⟨_, rfl, rfl⟩, rfl⟩
      | succ k => simp at ha⟩
  | .bool, x, cs, ds, h, hr => by
    cases h; cases hr
    exact ⟨rfl, fun k a ha => by cases k with
      | zero => cases ha; exact ⟨_, rfl, ⟨_, rfl, rfl⟩, rfl⟩
      | succ k => simp at ha⟩
  | .str, x, cs, ds, h, hr => by
    cases h; cases hr
    exact ⟨rfl, fun k a ha => by cases k with
      | zero => cases ha; exact ⟨_, rfl, ⟨_, rfl, rfl⟩, rfl⟩
      | succ k => simp at ha⟩
  | .slice e, x, cs, ds, h, hr => by
    cases h
    have hr' := hr
    obtain ⟨A, c, e1, _⟩ := hr
    subst e1
    exact ⟨rfl, fun k a ha => by cases k with
      | zero => cases ha; exact ⟨_, rfl, ⟨_, hr', rfl⟩, rfl⟩
      | succ k => simp at ha⟩

theorem flat_ok {y : TV} {v : Value} (hy : TVR w ok H os y v) {cs : List AV} (h : flat y = some cs) : CellsR w ok H os cs v.cells := by
  have single : ∀ {a : AV} {v : Value}, AVR w ok H os a v → v.oneCell' = true → CellsR w ok H os [a] v.cells := by
    intro a v ha h1
    have hc : v.cells = #[v] := by cases v <;> first | rfl | cases h1
    rw [hc]
    refine ⟨rfl, fun k b hb => ?_⟩
    cases k with
    | zero => cases hb; exact ⟨v, rfl, ha, h1⟩
    | succ k => simp at hb
  unfold flat at h
  split at h
  · rename_i a
    split at h
    · rename_i t x
      obtain ⟨ds, h1, h2⟩ := hy _ rfl
      obtain ⟨g1, g2⟩ := cellsOf_ok (H := H) (os := os) t x h h1
      have hv : v.cells.toList = ds := by rw [h2]; exact valOf_cells (RO_len h1) (RO_one h1)
      refine ⟨by rw [g1, ← hv]; simp, fun k a ha => ?_⟩
      obtain ⟨u, q1, q2⟩ := g2 k a ha
      exact ⟨u, by rw [← hv] at q1; simpa using q1, q2⟩
    · cases h; exact single (hy _ rfl) (hy _ rfl).1
    · cases h; exact single (hy _ rfl) (hy _ rfl).1
    · cases h; exact single (hy _ rfl) (hy _ rfl).1
    · cases h; have : v = .map none := hy _ rfl; subst this; exact single (hy _ rfl) rfl
    · cases h; have : v = .slice none 0 0 := hy _ rfl; subst this; exact single (hy _ rfl) rfl
    · cases h
  · cases h
    obtain ⟨vs, e1, e2⟩ := hy
    rw [e1]; exact e2
  · cases h

/-! ### Nil rows -/
def nilWit : Wit := ⟨.slice none 0 0, [], []⟩
theorem nil_one (h : HeapR X H os w) {fr : Nat} (hs : os[fr]? = some (0, .dead)) (e : TypeId) {te : Ty} (hz : 0 < te.sz) : Kept X H os w (updH H fr nilWit) (os.set fr (0, .arr e te [])) w :=
  h.one hs nilWit (Bel.refl _ _) (Nat.le_refl _) (fun _ _ _ => rfl) (fun b hb => by cases hb) List.nodup_nil (.inl rfl)
    (fun _ _ _ => ⟨hz, ⟨[], rfl, World.ownsRow_nil _ _ _ _⟩, rfl⟩)

def NilU : Upds → Nat → Prop
  | [], _ => True
  | u :: us, fr => u.1 = fr ∧ (∃ e te, u.2 = (0, .arr e te []) ∧ 0 < te.sz) ∧ NilU us (fr + 1)
theorem NilU.append : ∀ {us vs : Upds} {fr : Nat}, NilU us fr → NilU vs (fr + us.length) → NilU (us ++ vs) fr
  | [], vs, fr, _, h => h
  | u :: us, vs, fr, ⟨h1, h2, h3⟩, h => ⟨h1, h2, NilU.append h3 (by rw [List.length_cons] at h; rw [show fr + 1 + us.length = fr + (us.length + 1) by omega]; exact h)⟩

theorem nils_all : ∀ (us : Upds) (fr : Nat) {H : Nat → Wit} {os : List Slot}, HeapR X H os w → NilU us fr → (∀ k, k < us.length → os[fr + k]? = some (0, .dead)) →
    ∃ H', Kept X H os w H' (setAll os us) w ∧ (∀ i sl, (i, sl) ∈ us → (setAll os us)[i]? = some sl ∧ (H' i).hdr = .slice none 0 0) ∧ (∀ i, i < fr ∨ fr + us.length ≤ i → (setAll os us)[i]? = os[i]? ∧ H' i = H i)
  | [], fr, H, os, h, _, _ => ⟨H, Kept.refl h, (fun i sl hm => by cases hm), fun _ _ => ⟨rfl, rfl⟩⟩
  | (i, sl) :: us, fr, H, os, h, ⟨h1, ⟨e, te, h2, hz⟩, h3⟩, hd => by
    simp only at h1 h2
    subst h1; subst h2
    have hs := hd 0 (by simp)
    rw [Nat.add_zero] at hs
    have hlen : i < os.length := (List.getElem?_eq_some_iff.1 hs).1
    have k1 := nil_one h hs e hz
    obtain ⟨H2, k2, k3, k4⟩ := nils_all us (i + 1) k1.1 h3 (fun k hk => by
      rw [List.getElem?_set_ne (by omega), show i + 1 + k = i + (k + 1) by omega]; exact hd (k + 1) (by simpa using hk))
    refine ⟨H2, k1.trans k2, fun j sl hm => ?_, fun j hj => ?_⟩
    · rcases List.mem_cons.1 hm with e1 | hm
      · cases e1
        obtain ⟨q1, q2⟩ := k4 i (.inl (by omega))
        exact ⟨by rw [setAll, q1, List.getElem?_set_self hlen], by rw [q2, updH_same]; rfl⟩
      · exact k3 j sl hm
    · obtain ⟨q1, q2⟩ := k4 j (by rw [List.length_cons] at hj; omega)
      have hne : j ≠ i := by rw [List.length_cons] at hj; omega
      exact ⟨by rw [setAll, q1, List.getElem?_set_ne (Ne.symm hne)], by rw [q2, updH_other H _ hne]⟩

theorem below_alloc' (h : HeapR X H os w) (o : Go.Obj) : Bel X w (w.alloc o) := Below.bel ((Below.refl _ _).alloc h.below.size o)

theorem zeroCells_len {E : Env} : ∀ (d : Nat) (t : TypeId) (fr fr' : Nat) {r : List AV × Upds}, zeroCells E d t fr = some r → ∃ r', zeroCells E d t fr' = some r' ∧ r'.2.length = r.2.length
  | 0, t, fr, fr', r, h => by cases h
  | d + 1, t, fr, fr', r, h => by
    simp only [zeroCells] at h ⊢
    split at h
    · cases h; exact ⟨_, rfl, rfl⟩
    · rename_i fs ty hs hty
      have key : ∀ (fs : List (TypeId × Nat)) (fr fr' : Nat) {r : List AV × Upds}, zeroFs (zeroCells E d) fs fr = some r → ∃ r', zeroFs (zeroCells E d) fs fr' = some r' ∧ r'.2.length = r.2.length := by
        intro fs
        induction fs with
        | nil => intro fr fr' r h; cases h; exact ⟨_, rfl, rfl⟩
        | cons f fs ih =>
          intro fr fr' r h
          simp only [zeroFs, Option.bind_eq_some_iff, Option.map_eq_some_iff] at h
          obtain ⟨p, h1, q, h2, h3⟩ := h
          obtain ⟨p', g1, g2⟩ := zeroCells_len d f.1 fr fr' h1
          obtain ⟨q', g3, g4⟩ := ih _ (fr' + p'.2.length) h2
          refine ⟨(p'.1 ++ q'.1, p'.2 ++ q'.2), by simp [zeroFs, g1, g3], ?_⟩
          rw [← h3]; simp [g2, g4]
      exact key fs fr fr' h
    · obtain ⟨cs, h1, h2⟩ := Option.map_eq_some_iff.1 h
      cases h2
      exact ⟨_, by rw [h1]; rfl, rfl⟩
    · cases h

section types
variable {P : Program} {E : Env} (hT : TabOk P E)
include hT

def ZeroAt (cs : List AV) (us : Upds) (zs : List Value) : Prop := cs.length = zs.length ∧
  ∀ {w : World} {ok : Nat → Prop} {H : Nat → Wit} {os : List Slot}, (∀ i sl, (i, sl) ∈ us → os[i]? = some sl ∧ (H i).hdr = .slice none 0 0) → ∀ (k : Nat) a, cs[k]? = some a → ∃ v, zs[k]? = some v ∧ AVR w ok H os a v ∧ v.oneCell' = true

theorem zcells_len (t : Ty) : t.zcells.length = t.sz := RO_len (RO_zero (default : World) (fun _ => True) t)

theorem zeroCells_ok : ∀ (d : Nat) (t : TypeId) (fr : Nat) {cs : List AV} {us : Upds} {T : Ty}, zeroCells E d t fr = some (cs, us) → (E.info t).ty = some T → NilU us fr ∧ ZeroAt cs us T.zcells
  | 0, t, fr, cs, us, T, h, _ => by cases h
  | d + 1, t, fr, cs, us, T, h, ht => by
    simp only [zeroCells] at h
    split at h
    · rename_i e te hs hty
      rw [hty] at ht; cases ht
      cases h
      obtain ⟨_, h2, h3⟩ := (hT t).slice e hs
      obtain ⟨u, e1, e2⟩ := h3 _ hty
      cases e1
      refine ⟨⟨rfl, ⟨e, te, rfl, (h2 _ e2).2.1⟩, trivial⟩, rfl, fun hus k a ha => ?_⟩
      cases k with
      | zero =>
        cases ha
        obtain ⟨q1, q2⟩ := hus fr _ (List.mem_singleton.2 rfl)
        exact ⟨_, rfl, ⟨rfl, _, q1, Nat.le_refl _, fun _ => ⟨rfl, q2.symm⟩⟩, rfl⟩
      | succ k => simp at ha
    · rename_i fs ty hs hty
      rw [hty] at ht; cases ht
      obtain ⟨F, _, _, hch⟩ := (hT t).struct fs hs
      have hc := hch _ hty
      clear hch hs hty
      -- field by field
      have key : ∀ (fs : List (TypeId × Nat)) (off fr : Nat) (T : Ty) {cs : List AV} {us : Upds}, Chain E fs off T → zeroFs (zeroCells E d) fs fr = some (cs, us) → NilU us fr ∧ ZeroAt cs us T.zcells := by
        intro fs
        induction fs with
        | nil => intro off fr T cs us hc h; cases h; cases (show T = .unit from hc); exact ⟨trivial, rfl, fun _ k a ha => by simp at ha⟩
        | cons f fs ih =>
          intro off fr T cs us hc h
          obtain ⟨a, b, rfl, e1, e2, e3⟩ := hc
          simp only [zeroFs, Option.bind_eq_some_iff, Option.map_eq_some_iff] at h
          obtain ⟨p, h1, q, h2, h3⟩ := h
          cases h3
          obtain ⟨n1, z1, z2⟩ := zeroCells_ok d f.1 fr h1 e1
          obtain ⟨n2, y1, y2⟩ := ih (off + a.sz) (fr + p.2.length) b e3 h2
          refine ⟨n1.append n2, by simp [Ty.zcells, z1, y1], fun hus k u hu => ?_⟩
          simp only [Ty.zcells]
          rw [List.getElem?_append] at hu ⊢
          rw [z1] at hu
          split at hu
          · rename_i hk; rw [if_pos hk]; exact z2 (fun i sl hm => hus i sl (List.mem_append_left _ hm)) k u hu
          · rename_i hk; rw [if_neg hk]; exact y2 (fun i sl hm => hus i sl (List.mem_append_right _ hm)) _ u hu
      exact key fs 0 fr T hc h
    · rename_i ty hs hty
      rw [hty] at ht; cases ht
      obtain ⟨cs', h1, h2⟩ := Option.map_eq_some_iff.1 h
      cases h2
      have hl := (cellsOf_ok (w := (default : World)) (ok := fun _ => True) (H := fun _ => nilWit) (os := []) T T.zero h1 (RO_zero _ _ T)).1
      exact ⟨trivial, hl, fun {w ok H os} _ k a ha => (cellsOf_ok (w := w) (ok := ok) (H := H) (os := os) T T.zero h1 (RO_zero w ok T)).2 k a ha⟩
    · cases h

variable (hh : HeapR X H os w)
include hh

theorem mat_ok {t : TypeId} {y : TV} {v : Value} {fr : Nat} (hy : TVR w (okOf X w H os) H os y v) (hf : os[fr]? = some (0, .dead)) {res : Res} {rd : List Nat} (h : (mat E t y fr).run (fun i => os[i]?) = some (res, rd)) : Out X H os w (setAll os res.upds) res.val v w := by
  unfold mat at h
  split at h
  · split at h
    · rename_i e te hs hty
      cases Prog.run_ret h
      obtain ⟨_, h2, h3⟩ := (hT t).slice e hs
      obtain ⟨u, e1, e2⟩ := h3 _ hty
      cases e1
      have hv : v = .slice none 0 0 := hy _ rfl
      subst hv
      have hlen : fr < os.length := (List.getElem?_eq_some_iff.1 hf).1
      refine (nil_one hh hf e (h2 _ e2).2.1).out (tv_one ⟨rfl, (0, .arr e te []), ?_, Nat.le_refl _, fun _ => ⟨rfl, ?_⟩⟩)
      · exact List.getElem?_set_self hlen
      · rw [updH_same]; rfl
    · cases Prog.run_ret h; exact Out.pure hh hy
  · cases Prog.run_ret h; exact Out.pure hh hy

/-! ### Variables -/
theorem box_new {fr : Nat} (hf : os[fr]? = some (0, .dead)) {ty : TypeId} {cs : List AV} {vs : Array Value} (hc : CellsR w (okOf X w H os) H os cs vs) :
    ∃ H', Kept X H os w H' (os.set fr (0, .box ty cs)) (w.alloc (.cells vs ty)) ∧ TVR (w.alloc (.cells vs ty)) (okOf X (w.alloc (.cells vs ty)) H' (os.set fr (0, .box ty cs))) H' (os.set fr (0, .box ty cs)) (.one (.ptr fr 0)) (.pointer (some ⟨w.heap.size, 0, none⟩)) := by
  have hlen : fr < os.length := (List.getElem?_eq_some_iff.1 hf).1
  refine ⟨_, hh.one hf ⟨.pointer (some ⟨w.heap.size, 0, none⟩), [w.heap.size], []⟩ (below_alloc' hh _) (by simp) (fun b hb _ => heap_alloc_old w _ b hb)
    (fun b hb => by cases List.mem_singleton.1 hb; exact ⟨.inr (Nat.le_refl _), by simp⟩) (by simp) (.inl rfl) (fun hok hun hev => ⟨_, vs, rfl, rfl, heap_alloc_new w _, hc.mono hun hok hev⟩), ?_⟩
  exact tv_one ⟨rfl, _, List.getElem?_set_self hlen, rfl, by rw [updH_same]; rfl⟩

theorem vec_new {fr : Nat} (hf : os[fr]? = some (0, .dead)) {ty : TypeId} {n : Nat} {t : Ty} {xs : List t.den} {fl : List Value} (hz : 0 < t.sz) (hn : xs.length = n) (hr : ROL (RO w (okOf X w H os) t) xs fl) :
    ∃ H', Kept X H os w H' (os.set fr (0, .vec ty n t xs)) (w.alloc (.cells fl.toArray ty)) ∧ TVR (w.alloc (.cells fl.toArray ty)) (okOf X (w.alloc (.cells fl.toArray ty)) H' (os.set fr (0, .vec ty n t xs))) H' (os.set fr (0, .vec ty n t xs)) (.one (.ptr fr 0)) (.pointer (some ⟨w.heap.size, 0, none⟩)) := by
  have hlen : fr < os.length := (List.getElem?_eq_some_iff.1 hf).1
  refine ⟨_, hh.one hf ⟨.pointer (some ⟨w.heap.size, 0, none⟩), [w.heap.size], []⟩ (below_alloc' hh _) (by simp) (fun b hb _ => heap_alloc_old w _ b hb)
    (fun b hb => by cases List.mem_singleton.1 hb; exact ⟨.inr (Nat.le_refl _), by simp⟩) (by simp) (.inl rfl) (fun hok hun hev => ⟨⟨hz, hn⟩, _, fl, rfl, rfl, ROL_imp (fun _ _ h => h.mono hun hok) hr, heap_alloc_new w _⟩), ?_⟩
  exact tv_one ⟨rfl, _, List.getElem?_set_self hlen, rfl, by rw [updH_same]; rfl⟩

theorem run_box (t : TypeId) (v : Value) : (Instr.box t v).run P w = .ok (.pointer (some ⟨w.heap.size, 0, none⟩)) (w.alloc (.cells v.cells t)) := by
  simp [Instr.box, newVar, newRow]

theorem boxP_ok {t : TypeId} {y : TV} {v : Value} {fr : Nat} (hy : TVR w (okOf X w H os) H os y v) (hf : os[fr]? = some (0, .dead)) {res : Res} {rd : List Nat} (h : (boxP E t y fr).run (fun i => os[i]?) = some (res, rd)) :
    ∃ u w', (Instr.box t v).run P w = .ok u w' ∧ Out X H os w (setAll os res.upds) res.val u w' := by
  refine ⟨_, _, run_box hT hh t v, ?_⟩
  unfold boxP at h
  split at h
  · rename_i n u hty
    obtain ⟨hz, h⟩ := Prog.run_chk h
    obtain ⟨p, _, _, h1, h2, _⟩ := Prog.run_bind _ _ h
    obtain ⟨ha, h2⟩ := Prog.run_chk h2
    cases Prog.run_ret h2
    obtain ⟨H1, k1, k2, cs, ⟨e1, e2⟩, e3⟩ := cons_kept hh hy h1
    obtain ⟨q1, q2⟩ := k2 fr ha
    obtain ⟨H2, k3, k4⟩ := vec_new hT k1.1 (fr := fr) (by rw [q2]; exact hf) (ty := t) (n := n) (by simpa [Nat.pos_iff_ne_zero] using hz) e1 e2
    have hv : v.cells = cs.toArray := by rw [e3]; rfl
    rw [hv]
    have := (k1.trans k3).out k4
    rwa [← show setAll os (p.2 ++ [(fr, (0, .vec t n u p.1))]) = (setAll os p.2).set fr (0, .vec t n u p.1) by rw [setAll_append]; rfl] at this
  · obtain ⟨cs, h1, h⟩ := Prog.run_opt h
    obtain ⟨hc, h⟩ := Prog.run_chk h
    cases Prog.run_ret h
    obtain ⟨H2, k3, k4⟩ := box_new hT hh hf (ty := t) (flat_ok hy h1)
    exact k3.out k4

theorem allocP_ok {t : TypeId} {fr : Nat} (hf : ∀ k, k < ((zeroCells E 9 t 0).map (·.2.length)).getD 0 + 1 → os[fr + k]? = some (0, .dead)) {res : Res} {rd : List Nat} (h : (allocP E t fr).run (fun i => os[i]?) = some (res, rd)) :
    ∃ u w', (Instr.alloc t true (.tuple #[])).run P w = .ok u w' ∧ Out X H os w (setAll os res.upds) res.val u w' := by
  unfold allocP at h
  split at h
  · rename_i n u hty
    obtain ⟨hz, h⟩ := Prog.run_chk h
    cases Prog.run_ret h
    obtain ⟨i, hi, _, _, hzz, _⟩ := (hT t).info ((hT t).tyo _ hty)
    have hcells := valOf_cells (t := .arr n u) (zcells_len hT _) (RO_one (RO_zero w (okOf X w H os) (.arr n u)))
    obtain ⟨H2, k3, k4⟩ := vec_new hT hh (hf 0 (by omega)) (ty := t) (n := n) (t := u) (xs := List.replicate n u.zero) (fl := (Ty.arr n u).zcells) (by simpa [Nat.pos_iff_ne_zero] using hz) List.length_replicate (RO_zero w (okOf X w H os) (.arr n u)).2
    refine ⟨_, _, ?_, k3.out k4⟩
    have : (valOf (.arr n u) (Ty.arr n u).zcells).cells = (Ty.arr n u).zcells.toArray := by have := congrArg List.toArray hcells; simpa using this
    simp [Instr.alloc, zeroValue, typeInfo, hi, (hzz _ hty).2, newVar, newRow, this]
  · rename_i T hna hty
    obtain ⟨p, h1, h⟩ := Prog.run_opt h
    cases Prog.run_ret h
    obtain ⟨i, hi, _, _, hzz, _⟩ := (hT t).info ((hT t).tyo _ hty)
    have hcells := valOf_cells (t := T) (zcells_len hT _) (RO_one (RO_zero w (okOf X w H os) T))
    obtain ⟨n1, z1, z2⟩ := zeroCells_ok hT 9 t (fr + 1) h1 hty
    have hlen : p.2.length = ((zeroCells E 9 t 0).map (·.2.length)).getD 0 := by
      obtain ⟨r', g1, g2⟩ := zeroCells_len 9 t (fr + 1) 0 h1
      rw [g1]; simp [g2]
    obtain ⟨H1, k1, k2, k3⟩ := nils_all p.2 (fr + 1) hh n1 (fun k hk => by rw [Nat.add_assoc]; exact hf (1 + k) (by omega))
    obtain ⟨q1, q2⟩ := k3 fr (.inl (by omega))
    obtain ⟨H2, k4, k5⟩ := box_new hT k1.1 (fr := fr) (by rw [q1]; exact hf 0 (by omega)) (ty := t) (cs := p.1) (vs := T.zcells.toArray) ⟨by simp [z1], fun k a ha => by
      obtain ⟨v, r1, r2, r3⟩ := z2 k2 k a ha
      exact ⟨v, by simpa using r1, r2, r3⟩⟩
    refine ⟨.pointer (some ⟨w.heap.size, 0, none⟩), w.alloc (.cells T.zcells.toArray t), ?_, ?_⟩
    · have : (valOf T T.zcells).cells = T.zcells.toArray := by have := congrArg List.toArray hcells; simpa using this
      simp [Instr.alloc, zeroValue, typeInfo, hi, (hzz _ hty).2, newVar, newRow, this]
    · have := (k1.trans k4).out k5
      rwa [← show setAll os (p.2 ++ [(fr, (0, .box t p.1))]) = (setAll os p.2).set fr (0, .box t p.1) by rw [setAll_append]; rfl] at this
  · cases h
end types
end
end Go.Proofs.Yteblfhhhbfodgaa.Sim
/- The operations one by one: literals, rows that are made or lengthened. -/
set_option linter.unusedVariables false
set_option linter.unusedSimpArgs false
set_option linter.unusedSectionVars false
namespace Go.Proofs.Yteblfhhhbfodgaa.Sim
open Go Go.RowKit

/-- A run of cells laid over an array's. -/
theorem lay_get (off : Nat) : ∀ (l : List Value) (k : Nat) (cells : Array Value), off + k + l.length ≤ cells.size →
    (l.zipIdx k).foldl (fun cs (p : Value × Nat) => cs.setIfInBounds (off + p.2) p.1) cells = (cells.toList.take (off + k) ++ l ++ cells.toList.drop (off + k + l.length)).toArray
  | [], k, cells, _ => by simp [← Array.toList_inj]
  | v :: l, k, cells, h => by
    simp only [List.zipIdx_cons, List.foldl_cons]
    rw [lay_get off l (k + 1) (cells.setIfInBounds (off + k) v) (by simp only [Array.size_setIfInBounds]; simp only [List.length_cons] at h; omega)]
    congr 1
    rw [Array.toList_setIfInBounds]
    have hlt : off + k < cells.toList.length := by simp only [List.length_cons] at h; simp; omega
    have e1 : (cells.toList.set (off + k) v).take (off + (k + 1)) = cells.toList.take (off + k) ++ [v] := by
      rw [← Nat.add_assoc, List.take_set, List.take_succ_eq_append_getElem hlt, List.set_append]
      have hm : (cells.toList.take (off + k)).length = off + k := by rw [List.length_take]; omega
      rw [if_neg (by omega), hm]; simp
    have e2 : (cells.toList.set (off + k) v).drop (off + (k + 1) + l.length) = cells.toList.drop (off + k + (v :: l).length) := by
      rw [List.drop_set, if_pos (by omega)]
      congr 1
      simp only [List.length_cons]; omega
    rw [e1, e2]
    simp

theorem zipIdx_foldl (v : Array Value) (off : Nat) (cells : Array Value) (h : off + v.size ≤ cells.size) :
    v.zipIdx.foldl (fun cs (x : Value × Nat) => match x with | (c, j) => cs.setIfInBounds (off + j) c) cells = (cells.toList.take off ++ v.toList ++ cells.toList.drop (off + v.size)).toArray := by
  rw [← Array.foldl_toList, Array.toList_zipIdx]
  have := lay_get off v.toList 0 cells (by simpa using h)
  simpa using this

theorem fill_cons (place : Nat → Option (Nat × Nat)) (cells : Array Value) (i : Nat) (v : Value) (rest : List (Nat × Value)) {off size : Nat} (hp : place i = some (off, size)) (hs : v.cells.size = size) (hb : off + size ≤ cells.size) :
    Instr.fill place cells ((i, v) :: rest) = Instr.fill place (cells.toList.take off ++ v.cells.toList ++ cells.toList.drop (off + size)).toArray rest := by
  have := zipIdx_foldl v.cells off cells (by omega)
  simp only [Instr.fill, hp]
  rw [if_neg (by simp [hs]; omega), this, hs]

theorem run_mapM {α β : Type} {P : Program} {w : World} (g : α → Sem β) (h : α → β) : ∀ (l : List α), (∀ x ∈ l, (g x).run P w = .ok (h x) w) → (l.mapM g).run P w = .ok (l.map h) w
  | [], _ => by simp
  | x :: l, hx => by
    rw [List.mapM_cons]
    simp [hx x (by simp), run_mapM g h l (fun y hy => hx y (by simp [hy]))]

section
variable {X : Ctx} {H H' : Nat → Wit} {os os' : List Slot} {w w' : World} {ok : Nat → Prop}

theorem CellsR.lay {cs ds : List AV} {vs us : Array Value} {off : Nat} (h : CellsR w ok H os cs vs) (k : CellsR w ok H os ds us) (hb : off + ds.length ≤ cs.length) :
    CellsR w ok H os (cs.take off ++ ds ++ cs.drop (off + ds.length)) (vs.toList.take off ++ us.toList ++ vs.toList.drop (off + ds.length)).toArray := by
  have hv : vs.toList.length = cs.length := by simpa using h.1
  have hu : us.toList.length = ds.length := by simpa using k.1
  refine ⟨by simp only [List.size_toArray, List.length_append, List.length_take, List.length_drop]; omega, fun q a ha => ?_⟩
  rw [List.getElem?_toArray]
  rw [List.getElem?_append, List.getElem?_append] at ha
  rw [List.getElem?_append, List.getElem?_append]
  simp only [List.length_append, List.length_take] at ha ⊢
  rw [hv, hu]
  have em : min off cs.length = off := by omega
  rw [em] at ha ⊢
  split at ha
  · rename_i h1
    rw [if_pos h1]
    split at ha
    · rename_i h2
      rw [if_pos h2]
      rw [List.getElem?_take, if_pos h2] at ha ⊢
      obtain ⟨v, r1, r2⟩ := h.2 q a ha
      exact ⟨v, by simpa using r1, r2⟩
    · rename_i h2
      rw [if_neg h2]
      obtain ⟨v, r1, r2⟩ := k.2 _ a ha
      exact ⟨v, by simpa using r1, r2⟩
  · rename_i h1
    rw [if_neg h1]
    rw [List.getElem?_drop] at ha ⊢
    obtain ⟨v, r1, r2⟩ := h.2 _ a ha
    exact ⟨v, by simpa using r1, r2⟩

theorem chain_ty {E : Env} : ∀ (fs : List (TypeId × Nat)) (off : Nat) (T : Ty), Chain E fs off T → ∀ f ∈ fs, ∃ a, (E.info f.1).ty = some a
  | [], _, _, _, f, hf => by cases hf
  | g :: fs, off, T, ⟨a, b, _, e1, _, e3⟩, f, hf => by
    rcases List.mem_cons.1 hf with rfl | hf
    · exact ⟨a, e1⟩
    · exact chain_ty fs _ b e3 f hf

theorem layParts_ok {E : Env} {fs : List (TypeId × Nat)} {ρ : Operand → TV} {ρ' : Operand → Value} (hρ : ∀ x, TVR w ok H os (ρ x) (ρ' x)) {place : Nat → Option (Nat × Nat)} (hp : ∀ (i : Nat) f, fs[i]? = some f → place i = some (f.2, (E.info f.1).size)) :
    ∀ (ps : List (Nat × Operand)) (cells : List AV) (vs : Array Value) {cs : List AV}, CellsR w ok H os cells vs → layParts E fs ρ ps cells = some cs → ∃ us, Instr.fill place vs (ps.map fun p => (p.1, ρ' p.2)) = some us ∧ CellsR w ok H os cs us
  | [], cells, vs, cs, hc, h => by cases h; exact ⟨vs, rfl, hc⟩
  | (i, x) :: ps, cells, vs, cs, hc, h => by
    simp only [layParts, Option.bind_eq_some_iff] at h
    obtain ⟨f, h1, ds, h2, h3⟩ := h
    split at h3
    · rename_i hb
      rw [Bool.and_eq_true] at hb
      have hl : ds.length = (E.info f.1).size := beq_of hb.1
      have hle : f.2 + ds.length ≤ cells.length := Nat.le_of_ble_eq_true hb.2
      have hd := flat_ok (hρ x) h2
      have hd1 := hd.1
      have hc1 := hc.1
      obtain ⟨us, g1, g2⟩ := layParts_ok hρ hp ps _ _ (hc.lay hd hle) h3
      refine ⟨us, ?_, g2⟩
      rw [List.map_cons, fill_cons place vs i (ρ' x) _ (hp i f h1) (by omega) (by omega), ← hl]
      exact g1
    · cases h3

section types
variable {P : Program} {E : Env} (hT : TabOk P E)
include hT

theorem consParts_ok {t : Ty} {ρ : Operand → TV} {ρ' : Operand → Value} (hh : HeapR X H os w) (hρ : ∀ x, TVR w (okOf X w H os) H os (ρ x) (ρ' x)) :
    ∀ (ps : List (Nat × Operand)) (xs : List t.den) {r : List t.den × Upds} {rd : List Nat}, (consParts t ρ ps xs).run (fun i => os[i]?) = some (r, rd) →
      FrzU os r.2 ∧ r.1.length = xs.length ∧ ∀ {H' os'}, Kept X H os w H' os' w → (∀ i sl, (i, sl) ∈ r.2 → os'[i]? = some sl) → (∀ (i : Nat) ver t xs, os[i]? = some (ver, Obj.froz t xs) → os'[i]? = some (ver, .froz t xs)) →
        ∀ fl, ROL (RO w (okOf X w H' os') t) xs fl → ∃ us, Instr.fill (fun i => some (i * t.sz, t.sz)) fl.toArray (ps.map fun p => (p.1, ρ' p.2)) = some us ∧ ROL (RO w (okOf X w H' os') t) r.1 us.toList
  | [], xs, r, rd, h => by
    cases Prog.run_ret h
    exact ⟨(fun i sl hm => by cases hm), rfl, fun _ _ _ fl hfl => ⟨_, rfl, by simpa using hfl⟩⟩
  | (i, x) :: ps, xs, r, rd, h => by
    simp only [consParts] at h
    obtain ⟨hi, h⟩ := Prog.run_chk h
    obtain ⟨p, _, _, h1, h2, _⟩ := Prog.run_bind _ _ h
    obtain ⟨q, _, _, h3, h4, _⟩ := Prog.run_bind _ _ h2
    cases Prog.run_ret h4
    have hlt := blt_true hi
    obtain ⟨c1, c2⟩ := cons_ok hh (hρ x) h1
    obtain ⟨d1, d2, d3⟩ := consParts_ok hh hρ ps _ h3
    refine ⟨c1.append d1, by simpa using d2, fun k hus hfz fl hfl => ?_⟩
    obtain ⟨es, e1, e2⟩ := c2 k (fun i sl hm => hus i sl (List.mem_append_left _ hm)) hfz
    have hset := ROL_set (R := RO w _ t) (fun _ _ h => RO_len h) e1 hfl i hlt
    obtain ⟨us, g1, g2⟩ := d3 k (fun i sl hm => hus i sl (List.mem_append_right _ hm)) hfz _ hset
    have hlen := ROL_len (fun _ _ h => RO_len h) hfl
    have hv : (ρ' x).cells.toList = es := by rw [e2]; exact valOf_cells (RO_len e1) (RO_one e1)
    have hmul : i * t.sz + t.sz ≤ xs.length * t.sz := by rw [← Nat.succ_mul]; exact Nat.mul_le_mul_right _ hlt
    refine ⟨us, ?_, g2⟩
    rw [List.map_cons, fill_cons _ fl.toArray i (ρ' x) _ rfl (by rw [← Array.length_toList, hv]; exact RO_len e1) (by simp only [List.size_toArray]; omega)]
    rw [hv]
    exact g1

variable (hh : HeapR X H os w)
include hh

theorem buildP_ok {t : TypeId} {ps : List (Nat × Operand)} {ρ : Operand → TV} {ρ' : Operand → Value} {fr : Nat} (hρ : ∀ x, TVR w (okOf X w H os) H os (ρ x) (ρ' x)) (hf : ∀ k, k < ((zeroCells E 9 t 0).map (·.2.length)).getD 0 + 1 → os[fr + k]? = some (0, .dead)) {res : Res} {rd : List Nat} (h : (buildP E t ps ρ fr).run (fun i => os[i]?) = some (res, rd)) :
    ∃ u, (Instr.build t (ps.map fun p => (p.1, ρ' p.2)).toArray).run P w = .ok u w ∧ Out X H os w (setAll os res.upds) res.val u w := by
  unfold buildP at h
  split at h
  · rename_i fs hs
    obtain ⟨p, h1, h⟩ := Prog.run_opt h
    obtain ⟨cs, h2, h⟩ := Prog.run_opt h
    cases Prog.run_ret h
    obtain ⟨F, hu, hF, hch⟩ := (hT t).struct fs hs
    -- the struct is data
    obtain ⟨T, hty⟩ : ∃ T, (E.info t).ty = some T := by
      cases hT' : (E.info t).ty with
      | some T => exact ⟨T, rfl⟩
      | none => simp only [zeroCells, hs, hT'] at h1; cases h1
    have hc := hch _ hty
    obtain ⟨i, hi, hsz, _, hzz, _⟩ := (hT t).info ((hT t).tyo _ hty)
    have hcells := valOf_cells (t := T) (zcells_len hT _) (RO_one (RO_zero w (okOf X w H os) T))
    obtain ⟨n1, z1, z2⟩ := zeroCells_ok hT 9 t fr h1 hty
    have hlen : p.2.length = ((zeroCells E 9 t 0).map (·.2.length)).getD 0 := by
      obtain ⟨r', g1, g2⟩ := zeroCells_len 9 t fr 0 h1
      rw [g1]; simp [g2]
    obtain ⟨H1, k1, k2, k3⟩ := nils_all p.2 fr hh n1 (fun k hk => hf k (by omega))
    have hz : CellsR w (okOf X w H1 (setAll os p.2)) H1 (setAll os p.2) p.1 T.zcells.toArray := ⟨by simp [z1], fun k a ha => by
      obtain ⟨v, r1, r2, r3⟩ := z2 k2 k a ha
      exact ⟨v, by simpa using r1, r2, r3⟩⟩
    let pl : Field → Nat × Nat := fun f => (f.offset, (E.info f.type).size)
    obtain ⟨us, g1, g2⟩ := layParts_ok (E := E) (fs := fs) (ρ := ρ) (ρ' := ρ') (fun x => k1.tv (hρ x)) (place := fun i => ((F.toList.map pl).toArray)[i]?) (fun i f hfi => by
      rw [← hF, List.getElem?_map, Option.map_eq_some_iff] at hfi
      obtain ⟨fl, q1, q2⟩ := hfi
      rw [List.getElem?_toArray, List.getElem?_map, q1, ← q2]; rfl) ps p.1 _ hz h2
    refine ⟨.agg us, ?_, k1.out ⟨us, rfl, g2⟩⟩
    have hpl : (F.mapM fun f => (do pure (f.offset, ← sizeOf f.type) : Sem (Nat × Nat))).run P w = .ok (F.toList.map pl).toArray w := by
      rw [Array.mapM_eq_mapM_toList]
      have := run_mapM (P := P) (w := w) (fun f => (do pure (f.offset, ← sizeOf f.type) : Sem (Nat × Nat))) pl F.toList (fun f hfm => by
        obtain ⟨a, ha⟩ := chain_ty fs 0 T hc (f.type, f.offset) (by rw [← hF]; exact List.mem_map.2 ⟨f, hfm, rfl⟩)
        obtain ⟨ii, hii, hisz, _⟩ := (hT f.type).info ((hT f.type).tyo _ ha)
        simp [sizeOf, typeInfo, hii, hisz, pl])
      rw [Sem.run_map, this]; rfl
    have hzc : (valOf T T.zcells).cells = T.zcells.toArray := by have := congrArg List.toArray hcells; simpa using this
    simp only [Instr.build, Sem.run_bind, zeroValue, typeInfo, run_program, Result.andThen_ok, hi, Sem.run_pure, (hzz _ hty).2, run_underlying hu, hpl, hzc]
    rw [g1]
    rfl
  · rename_i n e n2 u hs hty
    obtain ⟨hz, h⟩ := Prog.run_chk h
    obtain ⟨q, _, _, h1, h2, _⟩ := Prog.run_bind _ _ h
    cases Prog.run_ret h2
    obtain ⟨c1, c2, c3⟩ := consParts_ok hT hh hρ ps _ h1
    obtain ⟨H1, k1, k2, k3, k4⟩ := frz_all q.2 hh c1.v
    obtain ⟨hu, ha⟩ := (hT t).array _ _ hs
    obtain ⟨u', e1, e2, e3⟩ := ha _ hty
    cases e1
    obtain ⟨i, hi, hsz, _, hzz, _⟩ := (hT t).info ((hT t).tyo _ hty)
    obtain ⟨ii, hii, hisz, _, hizz, _⟩ := (hT e).info ((hT e).tyo _ e2)
    have hcells := valOf_cells (t := .arr n u) (zcells_len hT _) (RO_one (RO_zero w (okOf X w H os) (.arr n u)))
    obtain ⟨us, g1, g2⟩ := c3 k1 k3 k4 _ (RO_zero w _ (.arr n u)).2
    refine ⟨.agg us, ?_, k1.out (fun a ha => by cases ha; exact ⟨us.toList, ⟨by simpa using c2, g2⟩, by simp [valOf, Ty.isAgg]⟩)⟩
    have hzc : (valOf (.arr n u) (Ty.arr n u).zcells).cells = (Ty.arr n u).zcells.toArray := by have := congrArg List.toArray hcells; simpa using this
    have hsu : ii.size = u.sz := by rw [hisz]; exact (hizz _ e2).1.symm
    simp only [Instr.build, Sem.run_bind, zeroValue, typeInfo, run_program, Result.andThen_ok, hi, Sem.run_pure, (hzz _ hty).2, run_underlying hu, hzc, sizeOf, hii, hsu]
    rw [g1]
    rfl
  · cases h

theorem row_new {fr : Nat} (hf : os[fr]? = some (0, .dead)) {e : TypeId} {t : Ty} {xs : List t.den} {cs : Array Value} {n c : Nat} (hz : 0 < t.sz) {fl : List Value} (hr : ROL (RO w (okOf X w H os) t) xs fl) (ho : (w.alloc (.cells cs e)).ownsRow 0 e t.sz (.slice (some ⟨w.heap.size, 0, none⟩) n c) xs.length fl) :
    ∃ H', Kept X H os w H' (os.set fr (0, .arr e t xs)) (w.alloc (.cells cs e)) ∧ TVR (w.alloc (.cells cs e)) (okOf X (w.alloc (.cells cs e)) H' (os.set fr (0, .arr e t xs))) H' (os.set fr (0, .arr e t xs)) (.one (.own fr 0)) (.slice (some ⟨w.heap.size, 0, none⟩) n c) := by
  have hlen : fr < os.length := (List.getElem?_eq_some_iff.1 hf).1
  refine ⟨_, hh.one hf ⟨.slice (some ⟨w.heap.size, 0, none⟩) n c, [w.heap.size], []⟩ (below_alloc' hh _) (by simp) (fun b hb _ => heap_alloc_old w _ b hb)
    (fun b hb => by cases List.mem_singleton.1 hb; exact ⟨.inr (Nat.le_refl _), by simp⟩) (by simp) (.inl rfl) (fun hok hun hev => ⟨hz, ⟨fl, ROL_imp (fun _ _ h => h.mono hun hok) hr, ho⟩, rfl⟩), ?_⟩
  exact tv_one ⟨rfl, _, List.getElem?_set_self hlen, Nat.le_refl _, fun _ => ⟨rfl, by rw [updH_same]⟩⟩

theorem flatten_rep {z : List Value} (hz : 0 < z.length) : ∀ (n : Nat), (List.replicate n z).flatten = ((List.range (n * z.length)).map fun i => z[i % z.length]!)
  | 0 => by simp
  | n + 1 => by
    rw [List.replicate_succ', List.flatten_append, flatten_rep hz n, Nat.add_mul, Nat.one_mul, List.range_add, List.map_append]
    congr 1
    simp only [List.flatten_cons, List.flatten_nil, List.append_nil, List.map_map]
    apply List.ext_getElem
    · simp
    · intro i h1 h2
      simp only [List.getElem_map, List.getElem_range, Function.comp]
      have : (n * z.length + i) % z.length = i := by rw [Nat.mul_comm, Nat.mul_add_mod]; exact Nat.mod_eq_of_lt h1
      rw [this]
      simp [h1]

theorem buildSliceP_ok {t : TypeId} {len : Nat} {ps : List (Nat × Operand)} {ρ : Operand → TV} {ρ' : Operand → Value} {fr : Nat} (hρ : ∀ x, TVR w (okOf X w H os) H os (ρ x) (ρ' x)) (hf : os[fr]? = some (0, .dead)) {res : Res} {rd : List Nat} (h : (buildSliceP E t len ps ρ fr).run (fun i => os[i]?) = some (res, rd)) :
    ∃ u w', (Instr.buildSlice t len (ps.map fun p => (p.1, ρ' p.2)).toArray).run P w = .ok u w' ∧ Out X H os w (setAll os res.upds) res.val u w' := by
  unfold buildSliceP at h
  split at h
  · rename_i e hs
    obtain ⟨u, he, h⟩ := Prog.run_opt h
    obtain ⟨hle, h⟩ := Prog.run_chk h
    obtain ⟨q, _, _, h1, h2, _⟩ := Prog.run_bind _ _ h
    cases Prog.run_ret h2
    obtain ⟨c1, c2, c3⟩ := consParts_ok hT hh hρ ps _ h1
    obtain ⟨H1, k1, k2, k3, k4⟩ := frz_all q.2 hh c1.v
    obtain ⟨hu, hb, _⟩ := (hT t).slice e hs
    obtain ⟨_, hpos, hby⟩ := hb _ he
    obtain ⟨i, hi, hsz, _, hzz, _⟩ := (hT e).info ((hT e).tyo _ he)
    have hsu : i.size = u.sz := by rw [hsz]; exact (hzz _ he).1.symm
    have hcells := valOf_cells (t := u) (zcells_len hT _) (RO_one (RO_zero w (okOf X w H os) u))
    have hzc : (valOf u u.zcells).cells = u.zcells.toArray := by have := congrArg List.toArray hcells; simpa using this
    have hrep := ROL_replicate (RO_zero w (okOf X w H1 (setAll os q.2)) u) len
    obtain ⟨us, g1, g2⟩ := c3 k1 k3 k4 _ hrep
    have hq : q.1.length = len := by simpa using c2
    have hul : us.size = len * u.sz := by
      have := ROL_len (fun _ _ h => RO_len h) g2
      rw [hq] at this; simpa using this
    have hap : apart fr q.2 = true := by
      unfold apart
      rw [List.all_eq_true]
      intro p hp
      obtain ⟨sl, pq, r1, r2, r3⟩ := c1 p.1 p.2 hp
      by_cases hpe : p.1 = fr
      · rw [hpe, hf] at r1; cases r1; cases r2
      · have : Nat.beq p.1 fr = false := by
          cases hb : Nat.beq p.1 fr with
          | false => rfl
          | true => exact absurd (beq_of hb) hpe
        simp [this]
    have hle' : len * u.sz ≤ 16777216 := Nat.le_of_ble_eq_true hle
    have hown := World.ownsRow_lit (e := e) (size := u.sz) (base := 0) w us len (Nat.zero_le _) (by
      have : len ≤ len * u.sz := Nat.le_mul_of_pos_right _ hpos
      simp only [maxLen]; omega) hul
    obtain ⟨H2, k5, k6⟩ := row_new hT k1.1 (fr := fr) (by rw [setAll_other _ hap]; exact hf) (e := e) (t := u) (xs := q.1) (cs := us) (n := len) (c := len) hpos g2 (by rw [hq]; exact hown)
    refine ⟨.slice (some ⟨w.heap.size, 0, none⟩) len len, w.alloc (.cells us e), ?_, ?_⟩
    · have hzero : (((Array.range (len * u.sz)).map fun i => u.zcells.toArray[i % u.zcells.toArray.size]!)) = (List.replicate len u.zcells).flatten.toArray := by
        rw [flatten_rep hT hh (by rw [zcells_len hT]; exact hpos), zcells_len hT]
        apply Array.ext'
        simp [zcells_len hT]
      have hgt : ¬ (len * i.size > 2 ^ 24) := by rw [hsu]; omega
      by_cases hn : len = 0
      · subst hn
        have hus : us = #[] := by apply Array.eq_empty_of_size_eq_zero; simpa using hul
        subst hus
        simp only [List.replicate_zero, List.flatten_nil] at g1
        simp only [Instr.buildSlice, Sem.run_bind, run_underlying hu, Result.andThen_ok, sizeOf, typeInfo, run_program, hi, Sem.run_pure, Nat.zero_mul]
        simp [hsu, g1, newRow, Array.range_zero']
      · have hne : ¬ (len * i.size = 0) := by rw [hsu]; have := Nat.mul_pos (Nat.pos_of_ne_zero hn) hpos; omega
        simp only [Instr.buildSlice, Sem.run_bind, run_underlying hu, Result.andThen_ok, sizeOf, typeInfo, run_program, hi, Sem.run_pure, if_neg hgt, if_neg hne, zeroValue, (hzz _ he).2, hzc, hsu, hzero]
        rw [if_neg (by rw [hsu] at hgt; exact hgt), if_neg (by rw [hsu] at hne; exact hne)]
        simp only [Sem.run_bind, Result.andThen_ok, Sem.run_pure, hzc, hzero, typeInfo, run_program, hi, (hzz _ he).2]
        rw [g1]
        simp [newRow]
    · have := (k1.trans k5).out k6
      rwa [← show setAll os (q.2 ++ [(fr, (0, .arr e u q.1))]) = (setAll os q.2).set fr (0, .arr e u q.1) by rw [setAll_append]; rfl] at this
  · cases h
end types
end
end Go.Proofs.Yteblfhhhbfodgaa.Sim
/- The operations one by one: rows made, lengthened, cut. -/
set_option linter.unusedVariables false
set_option linter.unusedSimpArgs false
set_option linter.unusedSectionVars false
namespace Go.Proofs.Yteblfhhhbfodgaa.Sim
open Go Go.RowKit

section
variable {X : Ctx} {H H' : Nat → Wit} {os os' : List Slot} {w w' : World} {ok : Nat → Prop}
variable {P : Program} {E : Env} (hT : TabOk P E) (hh : HeapR X H os w)
include hT hh

theorem flat_one {z : Value} : ∀ n, (List.replicate n [z]).flatten = List.replicate n z
  | 0 => rfl
  | n + 1 => by rw [List.replicate_succ, List.flatten_cons, flat_one n]; rfl

theorem makeP_ok {rw_ : Bool} {t : TypeId} {y1 y2 : TV} {v1 v2 : Value} {fr : Nat} (hy1 : TVR w (okOf X w H os) H os y1 v1) (hy2 : TVR w (okOf X w H os) H os y2 v2) (hf : os[fr]? = some (0, .dead)) {res : Res} {rd : List Nat} (h : (makeP E rw_ t y1 y2 fr).run (fun i => os[i]?) = some (res, rd)) :
    ∃ u w', (Instr.makeSlice t v1 v2).run P w = .ok u w' ∧ Out X H os w (setAll os res.upds) res.val u w' := by
  unfold makeP at h
  split at h
  · rename_i e hs
    replace h := Prog.run_opt h; obtain ⟨n, e1, h⟩ := h
    replace h := Prog.run_opt h; obtain ⟨m, e2, h⟩ := h
    replace h := Prog.run_opt h; obtain ⟨u, he, h⟩ := h
    replace h := Prog.run_chk h; obtain ⟨hsz1, h⟩ := h
    replace h := Prog.run_grd h; obtain ⟨h0, h⟩ := h
    replace h := Prog.run_grd h; obtain ⟨h1, h⟩ := h
    replace h := Prog.run_grd h; obtain ⟨h2, h⟩ := h
    have hv1 := int_of (k := n.1) (n := n.2) e1 hy1
    have hv2 := int_of (k := m.1) (n := m.2) e2 hy2
    subst hv1; subst hv2
    have hsz1' : u.sz = 1 := beq_of hsz1
    obtain ⟨hu, hb, _⟩ := (hT t).slice e hs
    obtain ⟨_, hpos, hby⟩ := hb _ he
    obtain ⟨i, hi, hisz, hiby, hzz, _⟩ := (hT e).info ((hT e).tyo _ he)
    have hsu : i.size = 1 := by rw [hisz, ← (hzz _ he).1, hsz1']
    have hcells := valOf_cells (t := u) (zcells_len hT _) (RO_one (RO_zero w (okOf X w H os) u))
    have hzl : u.zcells.length = 1 := by rw [zcells_len hT, hsz1']
    obtain ⟨z, hz⟩ := List.length_eq_one_iff.1 hzl
    have hzc : (valOf u u.zcells).cells = #[z] := by have := congrArg List.toArray hcells; rw [hz] at this ⊢; simpa using this
    have hm0 : m.2 ≤ 140737488355328 := by
      have hb1 : (1 : Int) ≤ ((E.info e).bytes : Int) := by omega
      have h3 : m.2 * 1 ≤ m.2 * ((E.info e).bytes : Int) := Int.mul_le_mul_of_nonneg_left hb1 (by omega)
      simp only [room] at h2
      omega
    have hbytes : (i.bytes : Int) * m.2 ≤ 281474976710656 := by rw [hiby, Int.mul_comm]; simp only [room] at h2; omega
    have hrun := run_make (P := P) w t e i _ hu hi (hzz _ he).2 n.1 m.1 n.2 m.2 h0 h1 hbytes (by omega)
    rw [hsu, Nat.mul_one, hzc] at hrun
    have hnm : n.2.toNat ≤ m.2.toNat := by omega
    have hown : ∀ fl : List Value, fl = List.replicate n.2.toNat z → (w.alloc (.cells (madeCells #[z] m.2.toNat) e)).ownsRow 0 e 1 (.slice (some ⟨w.heap.size, 0, none⟩) n.2.toNat m.2.toNat) n.2.toNat fl := by
      rintro fl rfl
      refine ⟨by simp, .inr ⟨w.heap.size, m.2.toNat, _, rfl, Nat.zero_le _, heap_alloc_new w _, hnm, by simp only [maxLen]; omega, by simp [size_madeCells], ?_⟩⟩
      rw [toList_madeCells_one, Nat.mul_one, List.take_replicate, Nat.min_eq_left hnm]
    cases rw_ with
    | false =>
      cases Prog.run_ret h
      obtain ⟨H2, k1, k2⟩ := row_new hT hh hf (e := e) (t := u) (xs := List.replicate n.2.toNat u.zero) (cs := madeCells #[z] m.2.toNat) (n := n.2.toNat) (c := m.2.toNat) hpos (ROL_replicate (RO_zero w (okOf X w H os) u) n.2.toNat) (by
        rw [List.length_replicate, hsz1', hz, flat_one hT hh]; exact hown _ rfl)
      exact ⟨_, _, hrun, k1.out k2⟩
    | true =>
      dsimp only at h
      split at h
      · -- rows that are written into
        rename_i u' e2 hsh _
        cases Prog.run_ret h
        have hz' : z = .slice none 0 0 := by simpa [Ty.zcells] using hz.symm
        subst hz'
        obtain ⟨_, hb2, hb3⟩ := (hT e).slice e2 hsh
        obtain ⟨uu, q1, q2⟩ := hb3 _ he
        cases q1
        have hpos2 := (hb2 _ q2).2.1
        have hlen : fr < os.length := (List.getElem?_eq_some_iff.1 hf).1
        refine ⟨_, _, hrun, ?_⟩
        refine (hh.one hf ⟨.slice (some ⟨w.heap.size, 0, none⟩) n.2.toNat m.2.toNat, [w.heap.size], List.replicate n.2.toNat (.slice none 0 0)⟩ (below_alloc' hh _) (by simp) (fun b hb _ => heap_alloc_old w _ b hb)
          (fun b hb => by cases List.mem_singleton.1 hb; exact ⟨.inr (Nat.le_refl _), by simp⟩) (by simp) (.inl rfl) (fun hok hun hev => ?_)).out (tv_one ⟨rfl, _, List.getElem?_set_self hlen, Nat.le_refl _, fun _ => ⟨rfl, by rw [updH_same]⟩⟩)
        refine ⟨hpos2, by simp, by rw [List.length_replicate]; exact hown _ rfl, fun j xs hd hx hr => ?_, ?_⟩
        · have hx' : xs = [] := by rw [List.getElem?_replicate] at hx; split at hx <;> cases hx; rfl
          have hr' : hd = .slice none 0 0 := by rw [List.getElem?_replicate] at hr; split at hr <;> cases hr; rfl
          subst hx'; subst hr'
          exact ⟨⟨[], rfl, World.ownsRow_nil _ _ _ _⟩, fun _ => rfl⟩
        · have : (List.replicate n.2.toNat (Value.slice none 0 0)).flatMap blockOf = [] := by
            rw [List.flatMap_eq_nil_iff]
            intro x hx
            rw [List.eq_of_mem_replicate hx]; rfl
          rw [this]; rfl
      · cases h
  · cases h

theorem newsP_ok {u : Ty} {y : TV} {v : Value} (hy : TVR w (okOf X w H os) H os y v) {ys : List u.den} {rd : List Nat} (h : (newsP u y).run (fun i => os[i]?) = some (ys, rd)) :
    ∃ A c fl, v = .slice A ys.length c ∧ (A = none → c = 0 ∧ ys = []) ∧ ROL (RO w (okOf X w H os) u) ys fl ∧ (∀ ad, A = some ad → ∀ (j : Nat) x, fl[j]? = some x → w.cell? (ad.add j) = some x) := by
  have ofRO : ∀ {xs : List u.den} {cs : List Value}, RO w (okOf X w H os) (.slice u) xs cs → v = valOf (.slice u) cs → ∃ A c fl, v = .slice A xs.length c ∧ (A = none → c = 0 ∧ xs = []) ∧ ROL (RO w (okOf X w H os) u) xs fl ∧ (∀ ad, A = some ad → ∀ (j : Nat) x, fl[j]? = some x → w.cell? (ad.add j) = some x) := by
    rintro xs cs ⟨A, c, e1, e2, e3, e4⟩ e5
    have hv : v = .slice A xs.length c := by rw [e5, e1]; rfl
    by_cases hz : xs = []
    · subst hz
      exact ⟨A, c, [], hv, fun h => ⟨e3 h, rfl⟩, rfl, fun ad _ j x hx => by simp at hx⟩
    · obtain ⟨ad, fl, f1, f2, f3⟩ := e4 (List.length_pos_iff.2 hz)
      exact ⟨A, c, fl, hv, (fun h => by rw [h] at f1; cases f1), f2, fun ad' h' => by rw [f1] at h'; cases h'; exact f3.2⟩
  unfold newsP at h
  split at h
  · replace h := Prog.run_cast h; obtain ⟨e, h⟩ := h
    subst e
    cases Prog.run_ret h
    obtain ⟨cs, g1, g2⟩ := hy _ rfl
    exact ofRO g1 g2
  · rename_i i ver
    replace h := Prog.run_look h; obtain ⟨s, rd', hsl, h⟩ := h
    replace h := Prog.run_chk h; obtain ⟨hv, h⟩ := h
    obtain ⟨_, e1⟩ := own_of (hy _ rfl) hsl hv
    have ho := hh.obj _ s hsl
    obtain ⟨n, o⟩ := s
    cases o with
    | arr e0 t' xs =>
      replace h := Prog.run_cast h; obtain ⟨e, h⟩ := h
      subst e
      cases Prog.run_ret h
      obtain ⟨q0, ⟨fl, q1, q2⟩, q3⟩ := ho
      rcases q2.2 with ⟨f1, f2⟩ | ⟨g, cap, cur, f1, _⟩
      · have hx : xs = [] := List.eq_nil_of_length_eq_zero f2
        subst hx
        exact ⟨none, 0, [], by rw [e1, f1]; rfl, fun _ => ⟨rfl, rfl⟩, rfl, fun ad h' => by cases h'⟩
      · exact ⟨_, cap, fl, by rw [e1, f1], (fun h => by cases h), q1, fun ad h' j x hx => by cases h'; exact q2.cells (g := g) (by rw [f1]; rfl) j x hx⟩
    | froz t' xs =>
      replace h := Prog.run_cast h; obtain ⟨e, h⟩ := h
      subst e
      cases Prog.run_ret h
      exact ofRO ho.2 (by rw [e1]; rfl)
    | _ => cases h
  · cases Prog.run_ret h
    have hv : v = .slice none 0 0 := hy _ rfl
    exact ⟨none, 0, [], hv, fun _ => ⟨rfl, rfl⟩, rfl, fun ad h' => by cases h'⟩
  · cases h

/-- A row of one's own turned: its new head, its new elements. -/
theorem row_turn {i ver ver' : Nat} {e : TypeId} {t : Ty} {xs ys : List t.den} (hs : os[i]? = some (ver, .arr e t xs)) {v' : Value} {w' : World} (hg : w.grownBy w' (H i).hdr.ownBlock) (hb : v'.ownBlock = (H i).hdr.ownBlock ∨ v'.ownBlock = some w.heap.size ∨ v'.ownBlock = none)
    (hver : ver < ver' ∨ (ver = ver' ∧ v' = (H i).hdr ∧ ys.length = xs.length)) {fl : List Value} (hr : ROL (RO w (okOf X w H os) t) ys fl) (ho : w'.ownsRow 0 e t.sz v' ys.length fl) :
    Kept X H os w (updH H i ⟨v', blockOf v', []⟩) (os.set i (ver', .arr e t ys)) w' := by
  have ho' := hh.obj i _ hs
  obtain ⟨q0, q1, q2⟩ := ho'
  have hi : i < os.length := (List.getElem?_eq_some_iff.1 hs).1
  have hlt : ∀ b ∈ blockOf v', b < w'.heap.size := by
    intro b hb
    have := ho.lt b (by simpa [blockOf] using hb)
    exact this.2
  refine hh.one hs _ ⟨hg.os, hg.tape, hg.output, hg.size, fun k hk hnm => hg.block k (Nat.lt_of_lt_of_le hk hh.below.size) (fun e => ?_)⟩ hg.size (fun b hb hn => hg.block b hb (fun e => hn ?_)) (fun b hm => ⟨?_, hlt b hm⟩) ?_ (.inr ⟨by omega, (fun h => by cases h), (fun h => by cases h), fun hq _ => ?_⟩) (fun hok hun hev => ⟨q0, ⟨fl, ROL_imp (fun _ _ h => h.mono hun hok) hr, ho⟩, rfl⟩)
  · have hm : k ∈ (H i).bs := by rw [q2]; simp [blockOf, ← e]
    exact ((hh.rng i k hi hm).1.elim (fun h => Nat.not_le.2 hk h) hnm).elim
  · rw [q2]; simp [blockOf, ← e]
  · have hm' : v'.ownBlock = some b := by simpa [blockOf] using hm
    rcases hb with h | h | h
    · left; rw [q2]; simp [blockOf, ← h, hm']
    · right; rw [h] at hm'; cases hm'; exact Nat.le_refl _
    · rw [h] at hm'; cases hm'
  · unfold blockOf
    cases v'.ownBlock <;> simp
  · rcases hver with hv | ⟨hv, hd, hl⟩
    · simp only at hq; omega
    · exact ⟨rfl, hd, fun d hd => by cases hd; simp only [Obj.dim, hl], fun r hr => by cases hr⟩

theorem appendP_ok {t ty : TypeId} {s x : TV} {v1 v2 : Value} {fr : Nat} (hs1 : TVR w (okOf X w H os) H os s v1) (hx1 : TVR w (okOf X w H os) H os x v2) {res : Res} {rd : List Nat} (h : (appendP E t s x fr).run (fun i => os[i]?) = some (res, rd)) :
    ∃ u w', (Builtin.append_ #[t, t] ty #[v1, v2]).run P w = .ok u w' ∧ Out X H os w (setAll os res.upds) res.val u w' := by
  unfold appendP at h
  split at h
  · rename_i e hs
    replace h := Prog.run_opt h; obtain ⟨u, he, h⟩ := h
    split at h
    · rename_i i ver
      replace h := Prog.run_look h; obtain ⟨sl, rd', hsl, h⟩ := h
      replace h := Prog.run_chk h; obtain ⟨hv, h⟩ := h
      obtain ⟨hlive, e1⟩ := own_of (hs1 _ rfl) hsl hv
      have ho := hh.obj _ sl hsl
      obtain ⟨n, o⟩ := sl
      have hn : n = ver := beq_of hv
      cases o with
      | arr e' u' xs =>
        replace h := Prog.run_chk h; obtain ⟨hee, h⟩ := h
        have hee' : e' = e := beq_of hee
        subst hee'
        replace h := Prog.run_cast h; obtain ⟨ec, h⟩ := h
        subst ec
        obtain ⟨ys, _, _, h1, h2, _⟩ := Prog.run_bind _ _ h
        obtain ⟨hb, h2⟩ := Prog.run_grd h2
        cases Prog.run_ret h2
        obtain ⟨A, c, fl', f1, f2, f3, f4⟩ := newsP_ok hT hh hx1 h1
        obtain ⟨q0, ⟨fl, q1, q2⟩, q3⟩ := ho
        obtain ⟨hu, hbb, _⟩ := (hT t).slice e' hs
        obtain ⟨_, hpos, hby⟩ := hbb _ he
        obtain ⟨ii, hi, hisz, hiby, hzz, _⟩ := (hT e').info ((hT e').tyo _ he)
        have hsu : ii.size = u'.sz := by rw [hisz, ← (hzz _ he).1]
        have hcells := valOf_cells (t := u') (zcells_len hT _) (RO_one (RO_zero w (okOf X w H os) u'))
        have hzs : (valOf u' u'.zcells).cells.size = u'.sz := by rw [← Array.length_toList, hcells, zcells_len hT]
        have hlen : i < os.length := (List.getElem?_eq_some_iff.1 hsl).1
        have h63 : xs.length + ys.length ≤ maxLen := by
          have := Nat.le_mul_of_pos_right (xs.length + ys.length) hby
          simp only [room] at hb; simp only [maxLen]; omega
        have fin : ∀ v' w', w'.ownsRow 0 e' u'.sz v' (xs.length + ys.length) (fl ++ fl') → w.grownBy w' v1.ownBlock → (v'.ownBlock = v1.ownBlock ∨ v'.ownBlock = some w.heap.size ∨ v'.ownBlock = none) → Out X H os w (os.set i (ver + 1, .arr e' u' (xs ++ ys))) (.one (.own i (ver + 1))) v' w' := by
          intro v' w' g1 g2 g3
          rw [e1] at g2 g3
          have k1 := row_turn hT hh hsl (ver' := ver + 1) (ys := xs ++ ys) g2 g3 (.inl (by omega)) (ROL_append q1 f3) (by rw [List.length_append]; exact g1)
          refine k1.out (tv_one ⟨?_, _, List.getElem?_set_self hlen, Nat.le_refl _, fun _ => ⟨rfl, by rw [updH_same]⟩⟩)
          obtain ⟨A', c', ev, _⟩ := slice_hdr g1
          rw [ev]; rfl
        cases A with
        | none =>
          obtain ⟨rfl, rfl⟩ := f2 rfl
          have hfl' : fl' = [] := f3
          subst hfl'
          refine ⟨v1, w, ?_, fin v1 w (by simpa [e1] using q2) ⟨rfl, rfl, rfl, Nat.le_refl _, fun _ _ _ => rfl⟩ (.inl rfl)⟩
          rw [f1, e1]
          exact run_append_owned_none (P := P) w 0 t ty e' ii u'.sz hu hi _ _ fl q2
        | some ad =>
          obtain ⟨v', w', g1, g2, g3, _, g5⟩ := run_append_own_at (P := P) w 0 t ty e' ii _ u'.sz (E.info e').bytes hu hi (hzz _ he).2 hsu hiby hzs hpos v1 xs.length fl (by rw [e1]; exact q2) ad ys.length c fl' (ROL_len (fun _ _ h => RO_len h) f3) (f4 ad rfl) (ROL_all (fun _ _ h => RO_one h) f3) h63 (by simpa [room] using hb) (Nat.zero_le _)
          exact ⟨v', w', by rw [f1]; exact g1, fin v' w' g2 g3 (g5.imp id .inl)⟩
      | _ => cases h
    · cases h
  · cases h

end
end Go.Proofs.Yteblfhhhbfodgaa.Sim
