-- Written by wip/sim/simlaw.py (a program of this repo) for this claim.
import Derived.Test.YteblfhhhbfodgaaRows
import Derived.Test.YteblfhhhbfodgaaF7
import Derived.Test.YteblfhhhbfodgaaSimC
import Derived.Test.YteblfhhhbfodgaaPureMinimizeMyhill
namespace Go.Proofs.Yteblfhhhbfodgaa.minimizeMyhill
open Go Go.ChangeShapes Go.WideShapes Go.ChangeAt Go.RowKit Go.Proofs.Yteblfhhhbfodgaa.Sim
open Go.ChangeMaps (open_string shut_string)
set_option linter.unusedVariables false
theorem own : ownKnob Go.Proofs.Try.prog.godebug = none := by kernel_rfl
theorem laidOut : laidOutB Go.Proofs.Try.prog = true := by kernel_rfl
theorem opensS25 : Opens Go.Proofs.Try.prog 25 (.pair (.int .i64) (.pair (.int .i64) (.pair (.slice (.bool)) (.pair (.slice (.slice (.int .i64))) (.unit))))) (fun x => ((Lit.int .i64 (x.1 : Int)).wf = true ∧ ((Lit.int .i64 (x.2.1 : Int)).wf = true ∧ ((List.length x.2.2.1 * 1 ≤ 140737488351232 ∧ ∀ y0_ ∈ x.2.2.1, True) ∧ ((List.length x.2.2.2.1 * 24 ≤ 140737488351232 ∧ ∀ y0_ ∈ x.2.2.2.1, (List.length y0_ * 8 ≤ 140737488351232 ∧ ∀ y1_ ∈ y0_, (Lit.int .i64 (y1_ : Int)).wf = true)) ∧ True))))) :=
  opens_struct Go.Proofs.Try.underlying25 (by kernel_rfl) (opensF_cons (off := 0) (off' := 1) rfl (by kernel_rfl) rfl (opens_int Go.Proofs.Try.underlying3) (opensF_cons (off := 1) (off' := 2) rfl (by kernel_rfl) rfl (opens_int Go.Proofs.Try.underlying3) (opensF_cons (off := 2) (off' := 3) rfl (by kernel_rfl) rfl (opens_slice Go.Proofs.Try.underlying22 (by decide) (by kernel_rfl) (B := 1) (by kernel_rfl) (opens_bool Go.Proofs.Try.underlying4)) (opensF_cons (off := 3) (off' := 4) rfl (by kernel_rfl) rfl (opens_slice Go.Proofs.Try.underlying23 (by decide) (by kernel_rfl) (B := 24) (by kernel_rfl) (opens_slice Go.Proofs.Try.underlying33 (by decide) (by kernel_rfl) (B := 8) (by kernel_rfl) (opens_int Go.Proofs.Try.underlying3))) opensF_nil))))
set_option maxRecDepth 100000 in
theorem lifted (os : Os) (started : os.Started) (H : Type) (enc : TypeId × Value → H) :
    ReturnsInHanded {} Go.Proofs.Try.checked os 8 .any (Rows.minimizeMyhillSpec.pre6 enc Go.Proofs.Try.prog Go.Proofs.Try.f8 Rows.minimizeMyhillRow.domain false) (Rows.minimizeMyhillSpec.post enc Go.Proofs.Try.prog Go.Proofs.Try.f8 false true false false) := by
  refine returnsInHanded_of_change_sized (C := Go.Proofs.Try.checked) own started (by kernel_rfl) Go.Proofs.Try.func8
    (ChangeSpec.witness6 (enc := enc) (C := Go.Proofs.Try.checked) false ⟨#[], #[.agg #[.int .i64 0, .int .i64 0, .slice none 0 0, .slice none 0 0], .string ByteArray.empty, .string ByteArray.empty, .string ByteArray.empty], []⟩ 16 (by kernel_rfl) (by kernel_rfl) (by kernel_rfl) (by kernel_rfl)) ?_
  intro W base args ds gs before hval0 hW hcnd hsz0 _
  have hsz : (DataW.weightsEach Go.Proofs.Try.prog (Go.Proofs.Try.f8.params.toList ++ Rows.minimizeMyhillSpec.plain.varTypes Go.Proofs.Try.prog) (ds ++ gs)).all (· ≤ reachBytes) = true := hsz0
  have hval : ∀ (j : Nat) t v, Go.Proofs.Try.f8.params[j]? = some t → args[j]? = some v → Value.okWide Go.Proofs.Try.prog W .any base t v := hval0
  have hW' := hW
  obtain ⟨p, q, hA0, hV, rfl, hfz, hnd⟩ := hW
  have hA : DataW.TrodAll enc Go.Proofs.Try.prog W 0 (fun _ => true) true Go.Proofs.Try.f8.params.toList args.toList ds p := hA0
  rw [Go.Proofs.Try.params8] at hA hval hsz
  obtain ⟨v0, vs0, d0, ds0, p0, q0, hargs, rfl, rfl, h0, r0⟩ := trodAll_cons hA
  obtain ⟨v1, vs1, d1, ds1, p1, q1, rfl, rfl, rfl, h1, r1⟩ := trodAll_cons r0
  obtain ⟨v2, vs2, d2, ds2, p2, q2, rfl, rfl, rfl, h2, r2⟩ := trodAll_cons r1
  obtain ⟨v3, vs3, d3, ds3, p3, q3, rfl, rfl, rfl, h3, r3⟩ := trodAll_cons r2
  obtain ⟨rfl, rfl, rfl⟩ := trodAll_nil r3
  obtain rfl : args = #[v0, v1, v2, v3] := by cases args; simp_all
  obtain ⟨rfl, rfl⟩ := trodVars_none hV
  obtain ⟨cs0, rfl, hs0⟩ := okWide_struct Go.Proofs.Try.underlying25 (hval 0 25 v0 rfl rfl)
  have k0_ := h0
  have lt0 : ∀ x ∈ p0, x.block < W.heap.size := by obtain ⟨m, hm⟩ := k0_; exact DataW.trod_lt m _ _ _ hm
  obtain ⟨fu0, hf0⟩ := h0
  obtain ⟨x0, hK0, ok0⟩ := opensS25 enc W _ _ fu0 _ _ hf0 (weigh hsz (j := 0) (t := 25) rfl rfl)
  obtain ⟨a1, rfl, rfl, rfl, y1⟩ := open_string Go.Proofs.Try.underlying9 (hval 1 9 v1 rfl rfl) h1
  have w1 : a1.size ≤ 140737488351232 := by
    have z := sized_string hsz (j := 1) (t := 9) rfl rfl
    rw [Array.length_toList] at z
    exact z
  obtain ⟨a2, rfl, rfl, rfl, y2⟩ := open_string Go.Proofs.Try.underlying9 (hval 2 9 v2 rfl rfl) h2
  have w2 : a2.size ≤ 140737488351232 := by
    have z := sized_string hsz (j := 2) (t := 9) rfl rfl
    rw [Array.length_toList] at z
    exact z
  obtain ⟨a3, rfl, rfl, rfl, y3⟩ := open_string Go.Proofs.Try.underlying9 (hval 3 9 v3 rfl rfl) h3
  have w3 : a3.size ≤ 140737488351232 := by
    have z := sized_string hsz (j := 3) (t := 9) rfl rfl
    rw [Array.length_toList] at z
    exact z
  obtain ⟨kk, hh⟩ := Pure.MinimizeMyhill (x0.1) (x0.2.1) (x0.2.2.1) (x0.2.2.2.1) a1 a2 a3 ok0 w1 w2 w3
  have hfn : ∀ x, (semigrouplaw08_MinimizeMyhill.ct kk).fn x = semigrouplaw08_MinimizeMyhill.f kk x.1.1 x.1.2.1 x.1.2.2.1 x.1.2.2.2.1 x.2.1 x.2.2.1 x.2.2.2.1 := by intro x; kernel_rfl
  have hfx : (semigrouplaw08_MinimizeMyhill.ct kk).fn (x0, (a1, (a2, (a3, ())))) = some true := (hfn (x0, (a1, (a2, (a3, ()))))).trans hh
  refine (law_calls (semigrouplaw08_MinimizeMyhill.holds kk) (x := (x0, (a1, (a2, (a3, ()))))) (r := true) (args_agg rfl hK0 (args_one (t := .str) rfl (show RO W (allOk W) .str a1 [.string a1] from rfl) (args_one (t := .str) rfl (show RO W (allOk W) .str a2 [.string a2] from rfl) (args_one (t := .str) rfl (show RO W (allOk W) .str a3 [.string a3] from rfl) (args_nil))))) hfx rfl).mono fun e W' hp_ => ?_
  obtain ⟨rfl, bel⟩ := hp_
  exact ⟨_, rfl, _, _, _, [], _, [], hW', trodAll_mk1 (shut_bool Go.Proofs.Try.underlying4 _), (trodAll_cons_mk (Below.trod laidOut (by kernel_rfl) (of_decide_eq_true (by kernel_rfl)) k0_ bel lt0) (trodAll_cons_mk (shut_string Go.Proofs.Try.underlying9 y1) (trodAll_cons_mk (shut_string Go.Proofs.Try.underlying9 y2) (trodAll_cons_mk (shut_string Go.Proofs.Try.underlying9 y3) trodAll_mk0)))), rfl, bel.frame _, fun h => by cases h⟩
theorem over : Rows.minimizeMyhillRow.holds Try.pinned (OpenSpec.ofChange Rows.minimizeMyhillSpec) :=
  OpenClaim.holds_of_wide 8 Go.Proofs.Try.f8 rfl rfl rfl rfl rfl rfl rfl ⟨rfl, rfl, rfl, rfl, rfl⟩ rfl rfl rfl rfl rfl (by kernel_rfl) Go.Proofs.Try.func8 (by kernel_rfl)
    (of_decide_eq_true (by kernel_rfl)) (by unfold Func.isWrapper; first | (rw [if_pos (by decide +kernel)]; kernel_rfl) | (rw [if_neg (by decide +kernel)]; exact ⟨rfl, rfl⟩))
    (fun os started H enc _ => lifted os started H enc)
theorem proved : Rows.MinimizeMyhillSaid := over
#print axioms proved
end Go.Proofs.Yteblfhhhbfodgaa.minimizeMyhill
namespace Go.Proofs.Yteblfhhhbfodgaa
/-- The row, under a short name, for the claim. -/
theorem minimizeMyhill_holds : Rows.MinimizeMyhillSaid := minimizeMyhill.proved
end Go.Proofs.Yteblfhhhbfodgaa
