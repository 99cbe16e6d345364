-- Written by wip/oprint.py (a program of this repo, over the kit's print) for this claim.
import Derived.Test.YtimepajbnongoaaRows
import Derived.Test.YtimepajbnongoaaPTransLettersx
import Derived.Test.YtimepajbnongoaaOpens
import Derived.Test.YtimepajbnongoaaPureTransLetters
import Derived.WalkKit
import Derived.ProofKit
import Derived.OpenShut
import Derived.ShutString
import Derived.ChangeOld
import Derived.Below
import Derived.SizedLaws
namespace Go.Proofs.Ytimepajbnongoaa.transLetters
open Go.ChangeShapes Go.WideShapes Go.ChangeAt Go.RowKit Go.Proofs.Ytimepajbnongoaa.Opens Go.Proofs.Ytimepajbnongoaa.PTransLetters Go.Proofs.YtimepajbnongoaaW.PrintWords
open Go.ChangeMaps (open_string shut_string)
set_option linter.unusedVariables false
theorem own : ownKnob Try.prog.godebug = none := by kernel_rfl
theorem laidOut : laidOutB Try.prog = true := by kernel_rfl
theorem opensS40 : Opens Try.prog 40 k40 (fun x => (Lit.int .i64 x.f0).wf = true ∧ (Lit.int .i64 x.f1).wf = true ∧ (x.f2.length * 1 ≤ 140737488351232 ∧ ∀ y0_ ∈ x.f2, True) ∧ (x.f3.length * 24 ≤ 140737488351232 ∧ ∀ y0_ ∈ x.f3, (y0_.length * 8 ≤ 140737488351232 ∧ ∀ y1_ ∈ y0_, (Lit.int .i64 y1_).wf = true))) :=
  opens_struct (fun a => ⟨a.1, a.2.1, a.2.2.1, a.2.2.2⟩) (fun _ => rfl) Try.underlying40 (by kernel_rfl) (opensF_cons (off := 0) (off' := 1) rfl (by kernel_rfl) rfl (opens_int Try.underlying3) (opensF_cons (off := 1) (off' := 2) rfl (by kernel_rfl) rfl (opens_int Try.underlying3) (opensF_cons (off := 2) (off' := 3) rfl (by kernel_rfl) rfl (opens_slice Try.underlying37 (by kernel_rfl) (by kernel_rfl) (opens_bool Try.underlying4)) (opensF_last rfl (by kernel_rfl) (opens_slice Try.underlying38 (by kernel_rfl) (by kernel_rfl) (opens_slice Try.underlying22 (by kernel_rfl) (by kernel_rfl) (opens_int Try.underlying3)))))))
set_option maxRecDepth 100000 in
theorem lifted (os : Os) (started : os.Started) (H : Type) (enc : TypeId × Value → H) :
    ReturnsInHanded {} Try.checked os 8 .any (Rows.transLettersSpec.pre6 enc Try.prog Try.f8 Rows.transLettersRow.domain false) (Rows.transLettersSpec.post enc Try.prog Try.f8 false true false false) := by
  refine returnsInHanded_of_change_sized (C := Try.checked) own started (by kernel_rfl) Try.func8
    (ChangeSpec.witness6 (enc := enc) (C := Try.checked) false ⟨#[], #[.agg #[.int .i64 0, .int .i64 0, .slice none 0 0, .slice none 0 0]], []⟩ 16 (by kernel_rfl) (by kernel_rfl) (by kernel_rfl) (by kernel_rfl)) ?_
  intro W base args ds gs before hval0 hW hcnd hsz0 _
  have hsz : (DataW.weightsEach Try.prog (Try.f8.params.toList ++ Rows.transLettersSpec.plain.varTypes Try.prog) (ds ++ gs)).all (· ≤ reachBytes) = true := hsz0
  have hval : ∀ (j : Nat) t v, Try.f8.params[j]? = some t → args[j]? = some v → Value.okWide Try.prog W .any base t v := hval0
  have hW' := hW
  obtain ⟨p, q, hA0, hV, rfl, hfz, hnd⟩ := hW
  have hA : DataW.TrodAll enc Try.prog W 0 (fun _ => true) true Try.f8.params.toList args.toList ds p := hA0
  rw [Try.params8] at hA hval hsz
  obtain ⟨v0, vs0, d0, ds0, p0, q0, hargs, rfl, rfl, h0, r0⟩ := trodAll_cons hA
  obtain ⟨rfl, rfl, rfl⟩ := trodAll_nil r0
  obtain rfl : args = #[v0] := by cases args; simp_all
  obtain ⟨rfl, rfl⟩ := trodVars_none hV
  obtain ⟨cs0, rfl, hs0⟩ := okWide_struct Try.underlying40 (hval 0 40 v0 rfl rfl)
  have k0_ := h0
  have lt0 : ∀ x ∈ p0, x.block < W.heap.size := by obtain ⟨m, hm⟩ := k0_; exact DataW.trod_lt m _ _ _ hm
  obtain ⟨fu0, hf0⟩ := h0
  obtain ⟨x0, hK0, ok0⟩ := opensS40 enc W _ _ fu0 _ _ hf0 (weigh hsz (j := 0) (t := 40) rfl rfl)
  obtain ⟨A0_2, c0_2, A0_3, c0_3, he0, hl0_2, hC0_2, hl0_3, hC0_3⟩ := k40_open hK0
  obtain rfl : cs0 = #[.int .i64 x0.f0, .int .i64 x0.f1, .slice A0_2 (x0.f2).length c0_2, .slice A0_3 (x0.f3).length c0_3] := Array.ext' he0
  obtain ⟨kk, hh⟩ := Pure.TransLetters x0.f0 x0.f1 x0.f2 x0.f3 ok0
  refine (semigrouplaw11_TransLetters.calls kk x0.f0 x0.f1 _ _ x0.f2 _ _ x0.f3 true W hC0_2 hl0_2 hC0_3 hl0_3 hh).mono fun e W' hp_ => ?_
  obtain ⟨rfl, bel⟩ := hp_
  exact ⟨_, rfl, _, _, _, [], _, [], hW', trodAll_mk1 (shut_bool Try.underlying4 _), (trodAll_cons_mk (Below.trod laidOut (by kernel_rfl) (of_decide_eq_true (by kernel_rfl)) k0_ bel lt0) trodAll_mk0), rfl, bel.frame _, fun h => by cases h⟩
theorem over : Rows.transLettersRow.holds Try.pinned (OpenSpec.ofChange Rows.transLettersSpec) :=
  OpenClaim.holds_of_wide 8 Try.f8 rfl rfl rfl rfl rfl rfl rfl ⟨rfl, rfl, rfl, rfl, rfl⟩ rfl rfl rfl rfl rfl (by kernel_rfl) Try.func8 (by kernel_rfl)
    (of_decide_eq_true (by kernel_rfl)) (by unfold Func.isWrapper; first | (rw [if_pos (by decide +kernel)]; kernel_rfl) | (rw [if_neg (by decide +kernel)]; exact ⟨rfl, rfl⟩))
    (fun os started H enc _ => lifted os started H enc)
theorem proved : Rows.TransLettersSaid := over
#print axioms proved
end Go.Proofs.Ytimepajbnongoaa.transLetters
namespace Go.Proofs.Ytimepajbnongoaa
/-- The row, under a short name, for the claim. -/
theorem transLetters_holds : Rows.TransLettersSaid := transLetters.proved
end Go.Proofs.Ytimepajbnongoaa
