/- How an argument of any plain type reads, as one value of a kind: ints, bools, strings, slices and structs of these. -/
import Derived.Test.YtimepajbnongoaaWMore
import Derived.Deep.Slices
import Derived.SizedLaws
import Derived.WideShapes
import Derived.ChangeArms
import Derived.DataReads
import Derived.DataElems
import Derived.ChangeSlices
namespace Go.Proofs.Ytimepajbnongoaa.Opens
open Go.ChangeShapes Go.WideShapes Go.Deep Go.Proofs.YtimepajbnongoaaW.PrintWords
variable {P : Program}
theorem cells_get {w : World} {base n : Nat} {a : Addr} {cs : List Value} (h : w.cells? base a n = some cs) : cs.length = n ∧ ∀ i u, cs[i]? = some u → w.cell? (a.add i) = some u := by
  unfold World.cells? at h
  split at h
  · have h1 := mapM_some_length h
    rw [List.length_range] at h1
    refine ⟨h1, fun i u hu => ?_⟩
    have hi : i < cs.length := (List.getElem?_eq_some_iff.1 hu).1
    have := mapM_some_get h i i (List.getElem?_range (by omega))
    rw [hu] at this
    exact this
  · cases h
/-- Whatever reads as data of type t has a value of this kind, and that value is fine. -/
def Opens (P : Program) (t : Nat) {α : Type} (d : Kd α) (ok : α → Prop) : Prop :=
  ∀ {H : Type} (enc : TypeId × Value → H) (W : World) (spare : Nat → Bool) (held : Bool) (fuel : Nat) (cs : List Value) (x : DataW H × List MemPlace),
    DataW.trod enc P W 0 spare held fuel t cs = some x → (x.1.weights P t).all (· ≤ reachBytes) = true → ∃ a, d.K W a cs ∧ ok a
theorem opens_int {t : Nat} {k : IntKind} (hu : P.underlying t = some (.int k)) : Opens P t (Kd.int k) (fun a => (Lit.int k a).wf = true) := by
  intro H enc W spare held fuel cs x h _
  obtain ⟨a, rfl, _, hw⟩ := DataW.trod_int hu h
  exact ⟨a, rfl, hw⟩
theorem opens_bool {t : Nat} (hu : P.underlying t = some .bool) : Opens P t Kd.bool (fun _ => True) := by
  intro H enc W spare held fuel cs x h _
  obtain ⟨a, rfl, _⟩ := DataW.trod_bool hu h
  exact ⟨a, rfl, trivial⟩
theorem opens_string {t : Nat} (hu : P.underlying t = some .string) : Opens P t Kd.string (fun a => a.size ≤ 140737488351232) := by
  intro H enc W spare held fuel cs x h hz
  obtain ⟨a, rfl, rfl, _⟩ := DataW.trod_string hu h
  refine ⟨a, rfl, ?_⟩
  have h2 := (List.all_eq_true.1 hz) a.data.toList.length (by simp [DataW.weights])
  have h3 := of_decide_eq_true h2
  rw [Array.length_toList] at h3
  exact h3
theorem opens_slice {t e : Nat} {α : Type} {d : Kd α} {ok : α → Prop} {B : Nat} (hu : P.underlying t = some (.slice e)) (hc : P.cellsOf e = d.sz) (hB : P.bytesOf e = B) (ho : Opens P e d ok) :
    Opens P t (Kd.slice e d) (fun l => l.length * B ≤ 140737488351232 ∧ ∀ a ∈ l, ok a) := by
  intro H enc W spare held fuel cs x h hz
  rcases open_slice hu h with ⟨rfl, rfl⟩ | ⟨a, len, cap, m, n, D, Pl, rfl, _, hl, hm, hmm, rfl, hx⟩
  · exact ⟨[], ⟨none, 0, rfl, Nat.le_refl _, Kd.C_nil _ _⟩, by simp, fun a ha => by cases ha⟩
  · simp only [DataW.weights, hu, List.all_cons, List.all_append, Bool.and_eq_true, decide_eq_true_eq, List.length_map, List.length_range, hB] at hz
    obtain ⟨hz0, hz1, _⟩ := hz
    have hlm : len ≤ m := by rw [hmm]; split <;> omega
    have key : ∀ i, i < len → ∃ b, (∃ c, c.length = d.sz ∧ d.K W b c ∧ ∀ j u, c[j]? = some u → W.cell? (a.add (i * d.sz + j)) = some u) ∧ ok b := by
      intro i hi
      obtain ⟨cs', h1, h2⟩ := hx i (by omega)
      rw [hc] at h1
      obtain ⟨hcl, hcc⟩ := cells_get h1
      have hw : ((D i).weights P e).all (· ≤ reachBytes) = true := by
        rw [List.all_eq_true] at hz1 ⊢
        intro q hq
        refine hz1 q ?_
        have : ∀ (l : List Nat), i ∈ l → q ∈ DataW.weightsAll P e (l.map D) := by
          intro l
          induction l with
          | nil => intro h; cases h
          | cons y l ih =>
            intro h
            simp only [List.map_cons, DataW.weightsAll, List.mem_append]
            rcases List.mem_cons.1 h with rfl | h
            · exact .inl hq
            · exact .inr (ih h)
        exact this _ (List.mem_range.2 hi)
      obtain ⟨b, hb, hok⟩ := ho enc W spare held n cs' (D i, Pl i) h2 hw
      refine ⟨b, ⟨cs', hcl, hb, fun j u hu => ?_⟩, hok⟩
      have := hcc j u hu
      rwa [Addr.add_add] at this
    obtain ⟨l, hll, hlk⟩ : ∃ l : List α, l.length = len ∧ ∀ i b, l[i]? = some b → (∃ c, c.length = d.sz ∧ d.K W b c ∧ ∀ j u, c[j]? = some u → W.cell? (a.add (i * d.sz + j)) = some u) ∧ ok b := by
      refine ⟨(List.range len).attach.map fun i => (key i.1 (List.mem_range.1 i.2)).choose, by simp, fun i b hb => ?_⟩
      rw [List.getElem?_eq_some_iff] at hb
      obtain ⟨hi, rfl⟩ := hb
      simp only [List.length_map, List.length_attach, List.length_range] at hi
      have := (key i hi).choose_spec
      simpa using this
    have hm2 : len ≤ 9223372036854775807 := by unfold maxLen at hm; omega
    refine ⟨l, ⟨some a, cap, by rw [hll], by omega, rfl, by rw [hll]; exact hm2, fun _ => ⟨a, rfl, fun j p hp => (hlk j p hp).1⟩⟩, ?_, ?_⟩
    · have h3 : len * B ≤ (len + (m - len)) * B := Nat.mul_le_mul_right _ (by omega)
      simp only [reachBytes] at hz0
      rw [hll]; omega
    · intro b hb
      obtain ⟨i, hi⟩ := List.mem_iff_getElem?.1 hb
      exact (hlk i b hi).2
/-- The fields of a struct, one behind the other from a place on. -/
def OpensF (P : Program) (fs : List Field) (off : Nat) {α : Type} (d : Kd α) (ok : α → Prop) : Prop :=
  ∀ {H : Type} (enc : TypeId × Value → H) (W : World) (spare : Nat → Bool) (held : Bool) (n : Nat) (cs : List Value) (xs : List (DataW H × List MemPlace)),
    xs.length = fs.length → (∀ (i : Nat) (f : Field), fs[i]? = some f → DataW.trod enc P W 0 spare held n f.type ((cs.drop f.offset).take (P.cellsOf f.type)) = xs[i]?) →
    (DataW.weightsEach P (fs.map (·.type)) (xs.map (·.1))).all (· ≤ reachBytes) = true → cs.length = off + d.sz → ∃ a, d.K W a (cs.drop off) ∧ ok a
theorem opensF_last {f : Field} {off : Nat} {α : Type} {d : Kd α} {ok : α → Prop} (hf : f.offset = off) (hc : P.cellsOf f.type = d.sz) (ho : Opens P f.type d ok) : OpensF P [f] off d ok := by
  intro H enc W spare held n cs xs hl hx hz hs
  match xs, hl with
  | [x], _ =>
    have h := hx 0 f rfl
    rw [hf, hc, List.take_of_length_le (by rw [List.length_drop]; omega)] at h
    exact ho enc W spare held n _ x h (by simpa [DataW.weightsEach] using hz)
theorem opensF_cons {f : Field} {fs : List Field} {off off' : Nat} {α β : Type} {d : Kd α} {d' : Kd β} {ok : α → Prop} {ok' : β → Prop} (hf : f.offset = off) (hc : P.cellsOf f.type = d.sz) (h2 : off' = off + d.sz)
    (ho : Opens P f.type d ok) (hr : OpensF P fs off' d' ok') : OpensF P (f :: fs) off (Kd.pair d d') (fun a => ok a.1 ∧ ok' a.2) := by
  subst h2
  intro H enc W spare held n cs xs hl hx hz hs
  match xs, hl with
  | x :: xs, hl =>
    have hs' : cs.length = off + (d.sz + d'.sz) := hs
    simp only [List.map_cons, DataW.weightsEach, List.all_append, Bool.and_eq_true] at hz
    have h := hx 0 f rfl
    rw [hf, hc] at h
    obtain ⟨a, ha, oka⟩ := ho enc W spare held n _ x h hz.1
    obtain ⟨b, hb, okb⟩ := hr enc W spare held n cs xs (by simpa using hl) (fun i g hg => hx (i + 1) g hg) hz.2 (by omega)
    refine ⟨(a, b), ⟨(cs.drop off).take d.sz, cs.drop (off + d.sz), ?_, ha, hb⟩, oka, okb⟩
    rw [← List.drop_drop, List.take_append_drop]
theorem opens_struct {t : Nat} {fs : Array Field} {α β : Type} {d : Kd α} {ok : α → Prop} {f : β → α} (inv : α → β) (hi : ∀ a, f (inv a) = a) (hu : P.underlying t = some (.struct fs)) (hc : P.cellsOf t = d.sz)
    (hF : OpensF P fs.toList 0 d ok) : Opens P t (Kd.iso d f) (fun x => ok (f x)) := by
  intro H enc W spare held fuel cs x h hz
  obtain ⟨xs, n, _, rfl, hl, hlen, hf⟩ := DataW.trod_struct hu h
  obtain ⟨a, ha, hok⟩ := hF enc W spare held n cs xs (by rw [hlen]; exact (Array.length_toList).symm) (fun i g hg => hf i g (by rw [← Array.getElem?_toList]; exact hg)) (by simpa [DataW.weights, hu] using hz) (by rw [hl, hc]; omega)
  refine ⟨inv a, ?_, ?_⟩
  · show d.K W (f (inv a)) cs
    rw [hi]; simpa using ha
  · show ok (f (inv a))
    rw [hi]; exact hok
/-- The weights of one argument. -/
theorem weigh {H : Type} {ts : List TypeId} {ds : List (DataW H)} {j : Nat} {t : TypeId} {d : DataW H} (hsz : (DataW.weightsEach P ts ds).all (· ≤ reachBytes) = true) (ht : ts[j]? = some t) (hd : ds[j]? = some d) : (d.weights P t).all (· ≤ reachBytes) = true := by
  rw [List.all_eq_true] at hsz ⊢
  exact fun n hn => hsz n (DataW.weights_mem_each ht hd n hn)
theorem slice_open {w : World} {e : Nat} {α : Type} {d : Kd α} {l : List α} {a : Option Addr} {len cap : Nat} (h : (Kd.slice e d).K w l [.slice a len cap]) : len = l.length ∧ l.length ≤ cap ∧ d.C w a l.length l := by
  obtain ⟨A, c, he, hl, hC⟩ := h
  injection he with he _
  injection he with h1 h2 h3
  subst h1 h2 h3
  exact ⟨rfl, hl, hC⟩

end Go.Proofs.Ytimepajbnongoaa.Opens
