-- Written by wip/oprint.py (a program of this repo, over the kit's print) for this claim.
import Derived.Test.YtimepajbnongoaaPTransWordsx0
import Derived.Test.YtimepajbnongoaaPTransWordsx3
namespace Go.Proofs.Ytimepajbnongoaa.PTransWords
open Go.RowKit Go.Proofs.YtimepajbnongoaaW.PrintWords Go.Proofs.YtimepajbnongoaaW.PrintLast Go.Proofs.YtimepajbnongoaaW.PrintMore
attribute [local go_sem] max2_int min2_int max_two min_two max_three min_three max_four min_four   -- for this text's walks alone
set_option linter.unusedVariables false
set_option linter.unusedSimpArgs false

/-! ### semigroupref11_MayGens: function 40 -/
mutual
def semigroupref11_MayGens.j0 : Nat → List (List Int) → Bool → Option (Bool)
  | 0, _, _ => none
  | k + 1, x0, x12 => if x12 = true then (some false) else (semigroupref11_MayGens.l0 k x0 x0 (x0.length : Int) 0)
def semigroupref11_MayGens.l0 : Nat → List (List Int) → List (List Int) → Int → Int → Option (Bool)
  | 0, _, _, _, _ => none
  | k + 1, x0, x13, x14, x15 => if x15 < x14 then (if 0 ≤ x15 then (if x15 < (x13.length : Int) then ((semigroupref11_Valid.f k (rd_L1 x13 x15)).bind fun t150 => (if t150 = true then (if 0 < (x0.length : Int) then (if ((rd_L1 x13 x15).length : Int) = ((rd_L1 x0 0).length : Int) then (semigroupref11_MayGens.l0 k x0 x13 x14 (wrap64 (x15 + 1))) else (some false)) else (none)) else (some false))) else (none)) else (none)) else (some true)
end
def semigroupref11_MayGens.f (k : Nat) (l0 : List (List Int)) : Option (Bool) := if (l0.length : Int) < 1 then (semigroupref11_MayGens.j0 k l0 true) else (semigroupref11_MayGens.j0 k l0 (decide ((l0.length : Int) > 6)))
theorem semigroupref11_MayGens.mono_l : ∀ k, (∀ y0 y1, LeO (semigroupref11_MayGens.j0 k y0 y1) (semigroupref11_MayGens.j0 (k + 1) y0 y1)) ∧ (∀ y0 y1 y2 y3, LeO (semigroupref11_MayGens.l0 k y0 y1 y2 y3) (semigroupref11_MayGens.l0 (k + 1) y0 y1 y2 y3))
  | 0 => ⟨fun _ _ r h => by simp [semigroupref11_MayGens.j0] at h, fun _ _ _ _ r h => by simp [semigroupref11_MayGens.l0] at h⟩
  | k + 1 => by
    obtain ⟨ih0, ih1⟩ := semigroupref11_MayGens.mono_l k
    refine ⟨?_, ?_⟩
    · intro y0 y1
      unfold semigroupref11_MayGens.j0
      repeat' first
      | (with_reducible exact ih0 _ _)
      | (with_reducible exact ih1 _ _ _ _)
      | (with_reducible exact semigroupref11_Valid.mono _ _)
      | (with_reducible exact LeO.refl _)
      | (with_reducible exact LeO.none _)
      | (with_reducible refine LeO.ite ?_ ?_)
      | (with_reducible refine LeO.bind ?_ (fun _ => ?_))
      | exact ih0 _ _
      | exact ih1 _ _ _ _
      | exact semigroupref11_Valid.mono _ _
      | exact LeO.none _
      | refine LeO.ite ?_ ?_
      | refine LeO.bind ?_ (fun _ => ?_)
    · intro y0 y1 y2 y3
      unfold semigroupref11_MayGens.l0
      repeat' first
      | (with_reducible exact ih0 _ _)
      | (with_reducible exact ih1 _ _ _ _)
      | (with_reducible exact semigroupref11_Valid.mono _ _)
      | (with_reducible exact LeO.refl _)
      | (with_reducible exact LeO.none _)
      | (with_reducible refine LeO.ite ?_ ?_)
      | (with_reducible refine LeO.bind ?_ (fun _ => ?_))
      | exact ih0 _ _
      | exact ih1 _ _ _ _
      | exact semigroupref11_Valid.mono _ _
      | exact LeO.none _
      | refine LeO.ite ?_ ?_
      | refine LeO.bind ?_ (fun _ => ?_)
theorem semigroupref11_MayGens.mono : ∀ a0 k, LeO (semigroupref11_MayGens.f k a0) (semigroupref11_MayGens.f (k + 1) a0) := by
  intro a0 k
  obtain ⟨ih0, ih1⟩ := semigroupref11_MayGens.mono_l k
  unfold semigroupref11_MayGens.f
  repeat' first
      | (with_reducible exact ih0 _ _)
      | (with_reducible exact ih1 _ _ _ _)
      | (with_reducible exact semigroupref11_Valid.mono _ _)
      | (with_reducible exact LeO.refl _)
      | (with_reducible exact LeO.none _)
      | (with_reducible refine LeO.ite ?_ ?_)
      | (with_reducible refine LeO.bind ?_ (fun _ => ?_))
      | exact ih0 _ _
      | exact ih1 _ _ _ _
      | exact semigroupref11_Valid.mono _ _
      | exact LeO.none _
      | refine LeO.ite ?_ ?_
      | refine LeO.bind ?_ (fun _ => ?_)
set_option maxHeartbeats 8000000 in
set_option maxRecDepth 100000 in
theorem semigroupref11_MayGens.calls (k : Nat) (A0 : Option Addr) (c0 : Nat) (l0 : List (List Int)) (r : Bool) (w : World) (hr0 : Kd.C (Kd.slice 3 (Kd.int .i64)) w A0 l0.length l0) (hc0 : l0.length ≤ c0) (h : semigroupref11_MayGens.f k l0 = some r) :
    Calls Try.prog 40 #[.slice A0 l0.length c0] w fun e w' => e = .returned (.bool r) ∧ Drawn0 w w' := by
  have HR0 := Aside0.mk hr0
  have HC0 := Aside0.mk hc0
  clear hr0 hc0
  have H : (if (l0.length : Int) < 1 then (semigroupref11_MayGens.j0 k l0 true) else (semigroupref11_MayGens.j0 k l0 (decide ((l0.length : Int) > 6)))) = some r := h
  clear h
  have HC2 := Aside0.mk H
  clear H
  go_enter Try.func40, Try.ntmps40
  go_upto_region 1 with (fail)
  go_cut [12] (fun v12 wc => ∃ (kq : Nat) (x12_1 : Bool), v12 = .bool x12_1 ∧ Aside0 (semigroupref11_MayGens.j0 kq l0 x12_1 = some r) ∧ Aside0 (kq ≤ k) ∧ Drawn0 w wc)
  case first =>
    have H := HC2.out
    clear HC2
    by_cases c3 : (l0.length : Int) < 1
    · rw [if_pos c3] at H
      have c3b0 : decide ((l0.length : Int) < 1) = true := decide_eq_true c3
      have c3b1 : decide (l0.length < 1) = true := decide_eq_true (by omega)
      clear c3
      (first | rw [c3b0] | (simp only [i64_w, i32_w]; rw [c3b0]) | skip)
      have H' := Aside0.mk H
      clear H
      go_wp2
      go_meet
      case rel => exact ⟨_, (true), (by first | rfl | (simp; done) | (simp [*]; done)), H', ⟨by first | omega | exact Nat.le_refl _⟩, by repeat (first | exact Drawn0.refl _ | apply Drawn0.step)⟩
    · rw [if_neg c3] at H
      have c3b0 : decide ((l0.length : Int) < 1) = false := decide_eq_false c3
      have c3b1 : decide (l0.length < 1) = false := decide_eq_false (by omega)
      clear c3
      (first | rw [c3b0] | (simp only [i64_w, i32_w]; rw [c3b0]) | skip)
      have H' := Aside0.mk H
      clear H
      go_wp2
      go_meet
      case rel => exact ⟨_, (decide ((l0.length : Int) > 6)), (by first | rfl | (simp; done) | (simp [*]; done)), H', ⟨by first | omega | exact Nat.le_refl _⟩, by repeat (first | exact Drawn0.refl _ | apply Drawn0.step)⟩
  case rest =>
    clear HC2
    try clear p2
    try clear c3
    try clear c3b0
    try clear c3b1
    obtain ⟨kq, x12_1, rfl, HA, HJ1, ⟨mc1, rfl⟩⟩ := hcut
    cases kq with
    | zero => exact absurd HA.out (by simp [semigroupref11_MayGens.j0])
    | succ kj1 =>
      have H := HA.out
      clear HA
      simp only [semigroupref11_MayGens.j0] at H
      by_cases c4 : x12_1 = true
      · subst c4
        have H1 : (some false) = some r := by rw [if_pos rfl] at H; exact H
        clear H
        have H := H1
        clear H1
        obtain rfl := Option.some.inj H
        go_wp2
        go_ret
        exact ⟨by first | rfl | (simp; done) | (simp [*]; done), by repeat (first | exact Drawn0.refl _ | apply Drawn0.step)⟩
      · replace c4 := Bool.eq_false_iff.mpr c4
        subst c4
        have H1 : (semigroupref11_MayGens.l0 kj1 l0 l0 (l0.length : Int) 0) = some r := by rw [if_neg (show ¬ (false = true) by decide)] at H; exact H
        clear H
        have H := H1
        clear H1
        have H' := Aside0.mk H
        clear H
        go_wp2
        go_loopg [15] kj1 (fun kq v15 w' => ∃ (x15_2 : Int), v15 = .int .i64 x15_2 ∧ Aside0 (semigroupref11_MayGens.l0 kq l0 l0 (l0.length : Int) x15_2 = some r) ∧ Aside0 (kq ≤ kj1) ∧ Drawn0 w w')
        case atStart => exact ⟨(0), (by first | rfl | (simp; done) | (simp [*]; done)), H', ⟨Nat.le_refl _⟩, by repeat (first | exact Drawn0.refl _ | apply Drawn0.step)⟩
        case round =>
          clear H'
          try clear c1
          try clear p2
          try clear c3
          try clear c3b0
          try clear c3b1
          try clear c4
          try clear p2
          obtain ⟨x15_2, rfl, HA, HK2, ⟨m2, rfl⟩⟩ := hrel
          cases gk with
          | zero => exact absurd HA.out (by simp [semigroupref11_MayGens.l0])
          | succ k2 =>
            have H := HA.out
            clear HA
            simp only [semigroupref11_MayGens.l0] at H
            by_cases c5 : x15_2 < (l0.length : Int)
            · rw [if_pos c5] at H
              have c5b0 : decide (x15_2 < (l0.length : Int)) = true := decide_eq_true c5
              clear c5
              by_cases c6 : 0 ≤ x15_2
              · rw [if_pos c6] at H
                have c6b0 : decide (0 ≤ x15_2) = true := decide_eq_true c6
                clear c6
                by_cases c7 : x15_2 < (l0.length : Int)
                · rw [if_pos c7] at H
                  have c7b0 : decide (x15_2 < (l0.length : Int)) = true := decide_eq_true c7
                  clear c7
                  replace H := Option.bind_eq_some_iff.mp H
                  obtain ⟨t150, A80, H⟩ := H
                  replace H : (if t150 = true then (if 0 < (l0.length : Int) then (if ((rd_L1 l0 x15_2).length : Int) = ((rd_L1 l0 0).length : Int) then (semigroupref11_MayGens.l0 k2 l0 l0 (l0.length : Int) (wrap64 (x15_2 + 1))) else (some false)) else (none)) else (some false)) = some r := H
                  have A8 := Aside0.mk A80
                  clear A80
                  by_cases c9 : t150 = true
                  · subst c9
                    have H1 : (if 0 < (l0.length : Int) then (if ((rd_L1 l0 x15_2).length : Int) = ((rd_L1 l0 0).length : Int) then (semigroupref11_MayGens.l0 k2 l0 l0 (l0.length : Int) (wrap64 (x15_2 + 1))) else (some false)) else (none)) = some r := by rw [if_pos rfl] at H; exact H
                    clear H
                    have H := H1
                    clear H1
                    by_cases c10 : 0 < (l0.length : Int)
                    · rw [if_pos c10] at H
                      have c10b0 : decide (0 < (l0.length : Int)) = true := decide_eq_true c10
                      have c10b1 : decide (0 < l0.length) = true := decide_eq_true (by omega)
                      clear c10
                      by_cases c11 : ((rd_L1 l0 x15_2).length : Int) = ((rd_L1 l0 0).length : Int)
                      · rw [if_pos c11] at H
                        have c11b0 : (((rd_L1 l0 x15_2).length : Int) == ((rd_L1 l0 0).length : Int)) = true := beq_iff_eq.mpr c11
                        have c11b1 : (((rd_L1 l0 x15_2).length : Int) != ((rd_L1 l0 0).length : Int)) = false := bne_eq_false_iff_eq.mpr c11
                        have c11b2 : ((rd_L1 l0 x15_2).length == (rd_L1 l0 0).length) = true := by first | simpa using c11 | (simp at c11 ⊢; omega)
                        clear c11
                        have H' := Aside0.mk H
                        clear H
                        have p149 : 0 ≤ (x15_2 : Int) := of_decide_eq_true (by first | (with_reducible assumption) | assumption)
                        have q149 : x15_2 < (l0.length : Int) := of_decide_eq_true (by first | (with_reducible assumption) | assumption)
                        obtain ⟨ad149, A149_0, c149_0, e149, hx149_0, hl149_0, hi149_0⟩ := at_L1 HR0.out x15_2 p149 q149
                        cases e149
                        have HR149_0 := Aside0.mk hi149_0
                        have HC149_0 := Aside0.mk hl149_0
                        clear hi149_0 hl149_0
                        replace p149 := eq_true p149
                        replace q149 := eq_true q149
                        go_wp2_with (first | ((with_reducible refine gate_callee (f := 21) rfl ?_); refine goesL_ (some 20) rfl rfl Try.func21 (by kernel_rfl) rfl #[.slice A149_0 (rd_L1 l0 x15_2).length c149_0] rfl (by (try simp only [List.map_toArray, List.map_cons, List.map_nil]); first | done | rfl | (simp only [List.length_drop, List.length_take]; rfl)) ?_; (with_reducible refine (semigroupref11_Valid.calls k2 _ _ (rd_L1 l0 x15_2) true _ ?side1 ?side2 A8.out).mono ?_); (case side1 => repeat (first | exact HR149_0.out | (with_reducible refine Kd.C_alloc ?_ _) | (with_reducible refine Kd.C_drewN ?_ _) | (with_reducible refine Kd.C_drew ?_))); (case side2 => exact HC149_0.out); rintro e w' ⟨rfl, ⟨nd, rfl⟩⟩; refine ⟨_, rfl, ?_⟩; have p151 : 0 ≤ (0 : Int) := (by omega); have q151 : 0 < (l0.length : Int) := of_decide_eq_true (by first | (with_reducible assumption) | assumption); obtain ⟨ad151, A151_0, c151_0, e151, hx151_0, hl151_0, hi151_0⟩ := at_L1 HR0.out 0 p151 q151; obtain rfl : ad149 = ad151 := (by injection e151); have qi151 : (0 < l0.length) = True := eq_true (by omega); (try rw [show ((0 : Int)).toNat = 0 from rfl] at hx151_0); (try rw [Addr.add_zero'] at hx151_0); have HR151_0 := Aside0.mk hi151_0; have HC151_0 := Aside0.mk hl151_0; clear hi151_0 hl151_0; replace p151 := eq_true p151; replace q151 := eq_true q151))
                        go_roundg k2
                        case measure => have := HJ1.out; have := HK2.out; omega
                        case rel => exact ⟨(wrap64 (x15_2 + 1)), (by first | rfl | (simp; done) | (simp [*]; done)), H', ⟨by have := HJ1.out; have := HK2.out; omega⟩, by repeat (first | exact Drawn0.refl _ | apply Drawn0.step)⟩
                      · rw [if_neg c11] at H
                        have c11b0 : (((rd_L1 l0 x15_2).length : Int) == ((rd_L1 l0 0).length : Int)) = false := beq_eq_false_iff_ne.mpr c11
                        have c11b1 : (((rd_L1 l0 x15_2).length : Int) != ((rd_L1 l0 0).length : Int)) = true := bne_iff_ne.mpr c11
                        have c11b2 : ((rd_L1 l0 x15_2).length == (rd_L1 l0 0).length) = false := by first | simpa using c11 | (simp at c11 ⊢; omega)
                        obtain rfl := Option.some.inj H
                        have p149 : 0 ≤ (x15_2 : Int) := of_decide_eq_true (by first | (with_reducible assumption) | assumption)
                        have q149 : x15_2 < (l0.length : Int) := of_decide_eq_true (by first | (with_reducible assumption) | assumption)
                        obtain ⟨ad149, A149_0, c149_0, e149, hx149_0, hl149_0, hi149_0⟩ := at_L1 HR0.out x15_2 p149 q149
                        cases e149
                        have HR149_0 := Aside0.mk hi149_0
                        have HC149_0 := Aside0.mk hl149_0
                        clear hi149_0 hl149_0
                        replace p149 := eq_true p149
                        replace q149 := eq_true q149
                        go_wp2_with (first | ((with_reducible refine gate_callee (f := 21) rfl ?_); refine goesL_ (some 20) rfl rfl Try.func21 (by kernel_rfl) rfl #[.slice A149_0 (rd_L1 l0 x15_2).length c149_0] rfl (by (try simp only [List.map_toArray, List.map_cons, List.map_nil]); first | done | rfl | (simp only [List.length_drop, List.length_take]; rfl)) ?_; (with_reducible refine (semigroupref11_Valid.calls k2 _ _ (rd_L1 l0 x15_2) true _ ?side1 ?side2 A8.out).mono ?_); (case side1 => repeat (first | exact HR149_0.out | (with_reducible refine Kd.C_alloc ?_ _) | (with_reducible refine Kd.C_drewN ?_ _) | (with_reducible refine Kd.C_drew ?_))); (case side2 => exact HC149_0.out); rintro e w' ⟨rfl, ⟨nd, rfl⟩⟩; refine ⟨_, rfl, ?_⟩; have p151 : 0 ≤ (0 : Int) := (by omega); have q151 : 0 < (l0.length : Int) := of_decide_eq_true (by first | (with_reducible assumption) | assumption); obtain ⟨ad151, A151_0, c151_0, e151, hx151_0, hl151_0, hi151_0⟩ := at_L1 HR0.out 0 p151 q151; obtain rfl : ad149 = ad151 := (by injection e151); have qi151 : (0 < l0.length) = True := eq_true (by omega); (try rw [show ((0 : Int)).toNat = 0 from rfl] at hx151_0); (try rw [Addr.add_zero'] at hx151_0); have HR151_0 := Aside0.mk hi151_0; have HC151_0 := Aside0.mk hl151_0; clear hi151_0 hl151_0; replace p151 := eq_true p151; replace q151 := eq_true q151))
                        go_ret
                        exact ⟨by first | rfl | (simp; done) | (simp [*]; done), by repeat (first | exact Drawn0.refl _ | apply Drawn0.step)⟩
                    · rw [if_neg c10] at H
                      exact absurd H (by simp)
                  · replace c9 := Bool.eq_false_iff.mpr c9
                    subst c9
                    have H1 : (some false) = some r := by rw [if_neg (show ¬ (false = true) by decide)] at H; exact H
                    clear H
                    have H := H1
                    clear H1
                    obtain rfl := Option.some.inj H
                    have p149 : 0 ≤ (x15_2 : Int) := of_decide_eq_true (by first | (with_reducible assumption) | assumption)
                    have q149 : x15_2 < (l0.length : Int) := of_decide_eq_true (by first | (with_reducible assumption) | assumption)
                    obtain ⟨ad149, A149_0, c149_0, e149, hx149_0, hl149_0, hi149_0⟩ := at_L1 HR0.out x15_2 p149 q149
                    cases e149
                    have HR149_0 := Aside0.mk hi149_0
                    have HC149_0 := Aside0.mk hl149_0
                    clear hi149_0 hl149_0
                    replace p149 := eq_true p149
                    replace q149 := eq_true q149
                    go_wp2_with (first | ((with_reducible refine gate_callee (f := 21) rfl ?_); refine goesL_ (some 20) rfl rfl Try.func21 (by kernel_rfl) rfl #[.slice A149_0 (rd_L1 l0 x15_2).length c149_0] rfl (by (try simp only [List.map_toArray, List.map_cons, List.map_nil]); first | done | rfl | (simp only [List.length_drop, List.length_take]; rfl)) ?_; (with_reducible refine (semigroupref11_Valid.calls k2 _ _ (rd_L1 l0 x15_2) false _ ?side1 ?side2 A8.out).mono ?_); (case side1 => repeat (first | exact HR149_0.out | (with_reducible refine Kd.C_alloc ?_ _) | (with_reducible refine Kd.C_drewN ?_ _) | (with_reducible refine Kd.C_drew ?_))); (case side2 => exact HC149_0.out); rintro e w' ⟨rfl, ⟨nd, rfl⟩⟩; refine ⟨_, rfl, ?_⟩))
                    go_ret
                    exact ⟨by first | rfl | (simp; done) | (simp [*]; done), by repeat (first | exact Drawn0.refl _ | apply Drawn0.step)⟩
                · rw [if_neg c7] at H
                  exact absurd H (by simp)
              · rw [if_neg c6] at H
                exact absurd H (by simp)
            · rw [if_neg c5] at H
              have c5b0 : decide (x15_2 < (l0.length : Int)) = false := decide_eq_false c5
              clear c5
              obtain rfl := Option.some.inj H
              go_wp2
              go_ret
              exact ⟨by first | rfl | (simp; done) | (simp [*]; done), by repeat (first | exact Drawn0.refl _ | apply Drawn0.step)⟩

/-! ### semigroupref01_MayLetters: function 57 -/
def semigroupref01_MayLetters.f (a0 : Int) : Option (Bool) := if a0 ≥ 1 then (some (decide (a0 ≤ 6))) else (some false)
set_option maxHeartbeats 8000000 in
set_option maxRecDepth 100000 in
theorem semigroupref01_MayLetters.calls (a0 : Int) (r : Bool) (w : World) (h : semigroupref01_MayLetters.f a0 = some r) :
    Calls Try.prog 57 #[.int .i64 a0] w fun e w' => e = .returned (.bool r) ∧ Drawn0 w w' := by
  have H : (if a0 ≥ 1 then (some (decide (a0 ≤ 6))) else (some false)) = some r := h
  clear h
  by_cases c2 : a0 ≥ 1
  · rw [if_pos c2] at H
    have c2b0 : decide (1 ≤ a0) = true := decide_eq_true c2
    clear c2
    obtain rfl := Option.some.inj H
    go_enter Try.func57, Try.ntmps57
    go_wp2
    go_ret
    exact ⟨by first | rfl | (simp; done) | (simp [*]; done), by repeat (first | exact Drawn0.refl _ | apply Drawn0.step)⟩
  · rw [if_neg c2] at H
    have c2b0 : decide (1 ≤ a0) = false := decide_eq_false c2
    clear c2
    obtain rfl := Option.some.inj H
    go_enter Try.func57, Try.ntmps57
    go_wp2
    go_ret
    exact ⟨by first | rfl | (simp; done) | (simp [*]; done), by repeat (first | exact Drawn0.refl _ | apply Drawn0.step)⟩

/-! ### semigroupref01_Valid: function 41 -/
mutual
def semigroupref01_Valid.j0 : Nat → ByteArray → Int → Bool → Option (Bool)
  | 0, _, _, _ => none
  | k + 1, x0, x1, x13 => if x13 = true then (some false) else (semigroupref01_Valid.l0 k x0 x1 0)
def semigroupref01_Valid.l0 : Nat → ByteArray → Int → Int → Option (Bool)
  | 0, _, _, _ => none
  | k + 1, x0, x1, x5 => if x5 < (x0.size : Int) then (if 0 ≤ x5 then (if (bt x0 x5) < 97 then (some false) else (if (((bt x0 x5) - 97) % 256) ≥ x1 then (some false) else (semigroupref01_Valid.l0 k x0 x1 (wrap64 (x5 + 1))))) else (none)) else (some true)
end
def semigroupref01_Valid.f (k : Nat) (a0 : ByteArray) (a1 : Int) : Option (Bool) := (semigroupref01_MayLetters.f a1).bind fun t152 => (if t152 = true then (semigroupref01_Valid.j0 k a0 a1 (decide ((a0.size : Int) > 2048))) else (semigroupref01_Valid.j0 k a0 a1 true))
theorem semigroupref01_Valid.mono_l : ∀ k, (∀ y0 y1 y2, LeO (semigroupref01_Valid.j0 k y0 y1 y2) (semigroupref01_Valid.j0 (k + 1) y0 y1 y2)) ∧ (∀ y0 y1 y2, LeO (semigroupref01_Valid.l0 k y0 y1 y2) (semigroupref01_Valid.l0 (k + 1) y0 y1 y2))
  | 0 => ⟨fun _ _ _ r h => by simp [semigroupref01_Valid.j0] at h, fun _ _ _ r h => by simp [semigroupref01_Valid.l0] at h⟩
  | k + 1 => by
    obtain ⟨ih0, ih1⟩ := semigroupref01_Valid.mono_l k
    refine ⟨?_, ?_⟩
    · intro y0 y1 y2
      unfold semigroupref01_Valid.j0
      repeat' first
      | (with_reducible exact ih0 _ _ _)
      | (with_reducible exact ih1 _ _ _)
      | (with_reducible exact LeO.refl _)
      | (with_reducible exact LeO.none _)
      | (with_reducible refine LeO.ite ?_ ?_)
      | (with_reducible refine LeO.bind ?_ (fun _ => ?_))
      | exact ih0 _ _ _
      | exact ih1 _ _ _
      | exact LeO.none _
      | refine LeO.ite ?_ ?_
      | refine LeO.bind ?_ (fun _ => ?_)
    · intro y0 y1 y2
      unfold semigroupref01_Valid.l0
      repeat' first
      | (with_reducible exact ih0 _ _ _)
      | (with_reducible exact ih1 _ _ _)
      | (with_reducible exact LeO.refl _)
      | (with_reducible exact LeO.none _)
      | (with_reducible refine LeO.ite ?_ ?_)
      | (with_reducible refine LeO.bind ?_ (fun _ => ?_))
      | exact ih0 _ _ _
      | exact ih1 _ _ _
      | exact LeO.none _
      | refine LeO.ite ?_ ?_
      | refine LeO.bind ?_ (fun _ => ?_)
theorem semigroupref01_Valid.mono : ∀ a0 a1 k, LeO (semigroupref01_Valid.f k a0 a1) (semigroupref01_Valid.f (k + 1) a0 a1) := by
  intro a0 a1 k
  obtain ⟨ih0, ih1⟩ := semigroupref01_Valid.mono_l k
  unfold semigroupref01_Valid.f
  repeat' first
      | (with_reducible exact ih0 _ _ _)
      | (with_reducible exact ih1 _ _ _)
      | (with_reducible exact LeO.refl _)
      | (with_reducible exact LeO.none _)
      | (with_reducible refine LeO.ite ?_ ?_)
      | (with_reducible refine LeO.bind ?_ (fun _ => ?_))
      | exact ih0 _ _ _
      | exact ih1 _ _ _
      | exact LeO.none _
      | refine LeO.ite ?_ ?_
      | refine LeO.bind ?_ (fun _ => ?_)
set_option maxHeartbeats 8000000 in
set_option maxRecDepth 100000 in
theorem semigroupref01_Valid.calls (k : Nat) (a0 : ByteArray) (a1 : Int) (r : Bool) (w : World) (h : semigroupref01_Valid.f k a0 a1 = some r) :
    Calls Try.prog 41 #[.string a0, .int .i64 a1] w fun e w' => e = .returned (.bool r) ∧ Drawn0 w w' := by
  have H : ((semigroupref01_MayLetters.f a1).bind fun t152 => (if t152 = true then (semigroupref01_Valid.j0 k a0 a1 (decide ((a0.size : Int) > 2048))) else (semigroupref01_Valid.j0 k a0 a1 true))) = some r := h
  clear h
  have HC3 := Aside0.mk H
  clear H
  go_enter Try.func41, Try.ntmps41
  go_upto_region 1 with (fail)
  go_cut [13] (fun v13 wc => ∃ (kq : Nat) (x13_2 : Bool), v13 = .bool x13_2 ∧ Aside0 (semigroupref01_Valid.j0 kq a0 a1 x13_2 = some r) ∧ Aside0 (kq ≤ k) ∧ Drawn0 w wc)
  case first =>
    have H := HC3.out
    clear HC3
    replace H := Option.bind_eq_some_iff.mp H
    obtain ⟨t152, A40, H⟩ := H
    replace H : (if t152 = true then (semigroupref01_Valid.j0 k a0 a1 (decide ((a0.size : Int) > 2048))) else (semigroupref01_Valid.j0 k a0 a1 true)) = some r := H
    have A4 := Aside0.mk A40
    clear A40
    by_cases c5 : t152 = true
    · subst c5
      have H1 : (semigroupref01_Valid.j0 k a0 a1 (decide ((a0.size : Int) > 2048))) = some r := by rw [if_pos rfl] at H; exact H
      clear H
      have H := H1
      clear H1
      have H' := Aside0.mk H
      clear H
      go_wp2_with (first | ((with_reducible refine gate_callee (f := 57) rfl ?_); refine goesL_ (some 7) rfl rfl Try.func57 (by kernel_rfl) rfl #[.int .i64 a1] rfl (by (try simp only [List.map_toArray, List.map_cons, List.map_nil]); first | done | rfl | (simp only [List.length_drop, List.length_take]; rfl)) ?_; (with_reducible refine (semigroupref01_MayLetters.calls a1 true _ A4.out).mono ?_); rintro e w' ⟨rfl, ⟨nd, rfl⟩⟩; refine ⟨_, rfl, ?_⟩))
      go_meet
      case rel => exact ⟨_, (decide ((a0.size : Int) > 2048)), (by first | rfl | (simp; done) | (simp [*]; done)), H', ⟨by first | omega | exact Nat.le_refl _⟩, by repeat (first | exact Drawn0.refl _ | apply Drawn0.step)⟩
    · replace c5 := Bool.eq_false_iff.mpr c5
      subst c5
      have H1 : (semigroupref01_Valid.j0 k a0 a1 true) = some r := by rw [if_neg (show ¬ (false = true) by decide)] at H; exact H
      clear H
      have H := H1
      clear H1
      have H' := Aside0.mk H
      clear H
      go_wp2_with (first | ((with_reducible refine gate_callee (f := 57) rfl ?_); refine goesL_ (some 7) rfl rfl Try.func57 (by kernel_rfl) rfl #[.int .i64 a1] rfl (by (try simp only [List.map_toArray, List.map_cons, List.map_nil]); first | done | rfl | (simp only [List.length_drop, List.length_take]; rfl)) ?_; (with_reducible refine (semigroupref01_MayLetters.calls a1 false _ A4.out).mono ?_); rintro e w' ⟨rfl, ⟨nd, rfl⟩⟩; refine ⟨_, rfl, ?_⟩))
      go_meet
      case rel => exact ⟨_, (true), (by first | rfl | (simp; done) | (simp [*]; done)), H', ⟨by first | omega | exact Nat.le_refl _⟩, by repeat (first | exact Drawn0.refl _ | apply Drawn0.step)⟩
  case rest =>
    clear HC3
    try clear p2
    try clear c4
    try clear c5
    obtain ⟨kq, x13_2, rfl, HA, HJ2, ⟨mc2, rfl⟩⟩ := hcut
    cases kq with
    | zero => exact absurd HA.out (by simp [semigroupref01_Valid.j0])
    | succ kj2 =>
      have H := HA.out
      clear HA
      simp only [semigroupref01_Valid.j0] at H
      by_cases c6 : x13_2 = true
      · subst c6
        have H1 : (some false) = some r := by rw [if_pos rfl] at H; exact H
        clear H
        have H := H1
        clear H1
        obtain rfl := Option.some.inj H
        go_wp2
        go_ret
        exact ⟨by first | rfl | (simp; done) | (simp [*]; done), by repeat (first | exact Drawn0.refl _ | apply Drawn0.step)⟩
      · replace c6 := Bool.eq_false_iff.mpr c6
        subst c6
        have H1 : (semigroupref01_Valid.l0 kj2 a0 a1 0) = some r := by rw [if_neg (show ¬ (false = true) by decide)] at H; exact H
        clear H
        have H := H1
        clear H1
        have H' := Aside0.mk H
        clear H
        go_wp2
        go_loopg [5] kj2 (fun kq v5 w' => ∃ (x5_2 : Int), v5 = .int .i64 x5_2 ∧ Aside0 (semigroupref01_Valid.l0 kq a0 a1 x5_2 = some r) ∧ Aside0 (kq ≤ kj2) ∧ Drawn0 w w')
        case atStart => exact ⟨(0), (by first | rfl | (simp; done) | (simp [*]; done)), H', ⟨Nat.le_refl _⟩, by repeat (first | exact Drawn0.refl _ | apply Drawn0.step)⟩
        case round =>
          clear H'
          try clear c2
          try clear p2
          try clear c4
          try clear c5
          try clear c6
          try clear p2
          obtain ⟨x5_2, rfl, HA, HK2, ⟨m2, rfl⟩⟩ := hrel
          cases gk with
          | zero => exact absurd HA.out (by simp [semigroupref01_Valid.l0])
          | succ k2 =>
            have H := HA.out
            clear HA
            simp only [semigroupref01_Valid.l0] at H
            by_cases c7 : x5_2 < (a0.size : Int)
            · rw [if_pos c7] at H
              have c7b0 : decide (x5_2 < (a0.size : Int)) = true := decide_eq_true c7
              clear c7
              by_cases c8 : 0 ≤ x5_2
              · rw [if_pos c8] at H
                have c8b0 : decide (0 ≤ x5_2) = true := decide_eq_true c8
                clear c8
                by_cases c10 : (bt a0 x5_2) < 97
                · rw [if_pos c10] at H
                  have c10b0 : decide ((bt a0 x5_2) < 97) = true := decide_eq_true c10
                  clear c10
                  obtain rfl := Option.some.inj H
                  have p9 : 0 ≤ (x5_2 : Int) := of_decide_eq_true (by first | (with_reducible assumption) | assumption)
                  have q9 : x5_2 < (a0.size : Int) := of_decide_eq_true (by first | (with_reducible assumption) | assumption)
                  have hx9 := bt_at a0 x5_2
                  replace p9 := eq_true p9
                  replace q9 := eq_true q9
                  go_wp2
                  go_ret
                  exact ⟨by first | rfl | (simp; done) | (simp [*]; done), by repeat (first | exact Drawn0.refl _ | apply Drawn0.step)⟩
                · rw [if_neg c10] at H
                  have c10b0 : decide ((bt a0 x5_2) < 97) = false := decide_eq_false c10
                  clear c10
                  by_cases c12 : (((bt a0 x5_2) - 97) % 256) ≥ a1
                  · rw [if_pos c12] at H
                    have c12b0 : decide (a1 ≤ (((bt a0 x5_2) - 97) % 256)) = true := decide_eq_true c12
                    clear c12
                    obtain rfl := Option.some.inj H
                    have p9 : 0 ≤ (x5_2 : Int) := of_decide_eq_true (by first | (with_reducible assumption) | assumption)
                    have q9 : x5_2 < (a0.size : Int) := of_decide_eq_true (by first | (with_reducible assumption) | assumption)
                    have hx9 := bt_at a0 x5_2
                    replace p9 := eq_true p9
                    replace q9 := eq_true q9
                    have p11 : 0 ≤ (x5_2 : Int) := of_decide_eq_true (by first | (with_reducible assumption) | assumption)
                    have q11 : x5_2 < (a0.size : Int) := of_decide_eq_true (by first | (with_reducible assumption) | assumption)
                    have hx11 := bt_at a0 x5_2
                    replace p11 := eq_true p11
                    replace q11 := eq_true q11
                    go_wp2
                    go_ret
                    exact ⟨by first | rfl | (simp; done) | (simp [*]; done), by repeat (first | exact Drawn0.refl _ | apply Drawn0.step)⟩
                  · rw [if_neg c12] at H
                    have c12b0 : decide (a1 ≤ (((bt a0 x5_2) - 97) % 256)) = false := decide_eq_false c12
                    clear c12
                    have H' := Aside0.mk H
                    clear H
                    have p9 : 0 ≤ (x5_2 : Int) := of_decide_eq_true (by first | (with_reducible assumption) | assumption)
                    have q9 : x5_2 < (a0.size : Int) := of_decide_eq_true (by first | (with_reducible assumption) | assumption)
                    have hx9 := bt_at a0 x5_2
                    replace p9 := eq_true p9
                    replace q9 := eq_true q9
                    have p11 : 0 ≤ (x5_2 : Int) := of_decide_eq_true (by first | (with_reducible assumption) | assumption)
                    have q11 : x5_2 < (a0.size : Int) := of_decide_eq_true (by first | (with_reducible assumption) | assumption)
                    have hx11 := bt_at a0 x5_2
                    replace p11 := eq_true p11
                    replace q11 := eq_true q11
                    go_wp2
                    go_roundg k2
                    case measure => have := HJ2.out; have := HK2.out; omega
                    case rel => exact ⟨(wrap64 (x5_2 + 1)), (by first | rfl | (simp; done) | (simp [*]; done)), H', ⟨by have := HJ2.out; have := HK2.out; omega⟩, by repeat (first | exact Drawn0.refl _ | apply Drawn0.step)⟩
              · rw [if_neg c8] at H
                exact absurd H (by simp)
            · rw [if_neg c7] at H
              have c7b0 : decide (x5_2 < (a0.size : Int)) = false := decide_eq_false c7
              clear c7
              obtain rfl := Option.some.inj H
              go_wp2
              go_ret
              exact ⟨by first | rfl | (simp; done) | (simp [*]; done), by repeat (first | exact Drawn0.refl _ | apply Drawn0.step)⟩

/-! ### semigroupref11_Compose: function 19 -/
def semigroupref11_Compose.l0 : Nat → List Int → List Int → List Int → Int → Int → Option (List Int)
  | 0, _, _, _, _, _ => none
  | k + 1, x1, x5, x11, x12, x13 => if x13 < x12 then (if 0 ≤ x13 then (if x13 < (x11.length : Int) then (if 0 ≤ (rd x11 x13) then (if (rd x11 x13) < (x1.length : Int) then (if x13 < (x5.length : Int) then (semigroupref11_Compose.l0 k x1 (x5.set (x13 : Int).toNat (rd x1 (rd x11 x13))) x11 x12 (wrap64 (x13 + 1))) else (none)) else (none)) else (none)) else (none)) else (none)) else (some x5)
def semigroupref11_Compose.f (k : Nat) (l0 : List Int) (l1 : List Int) : Option (List Int) := if 0 ≤ (l0.length : Int) then (if ((l0.length : Int) : Int).toNat ≤ 35184372088832 then (semigroupref11_Compose.l0 k l1 (List.replicate ((l0.length : Int) : Int).toNat 0) l0 (l0.length : Int) 0) else (none)) else (none)
theorem semigroupref11_Compose.mono_l : ∀ k, (∀ y0 y1 y2 y3 y4, LeO (semigroupref11_Compose.l0 k y0 y1 y2 y3 y4) (semigroupref11_Compose.l0 (k + 1) y0 y1 y2 y3 y4))
  | 0 => fun _ _ _ _ _ r h => by simp [semigroupref11_Compose.l0] at h
  | k + 1 => by
    have ih0 := semigroupref11_Compose.mono_l k
    · intro y0 y1 y2 y3 y4
      unfold semigroupref11_Compose.l0
      repeat' first
      | (with_reducible exact ih0 _ _ _ _ _)
      | (with_reducible exact LeO.refl _)
      | (with_reducible exact LeO.none _)
      | (with_reducible refine LeO.ite ?_ ?_)
      | (with_reducible refine LeO.bind ?_ (fun _ => ?_))
      | exact ih0 _ _ _ _ _
      | exact LeO.none _
      | refine LeO.ite ?_ ?_
      | refine LeO.bind ?_ (fun _ => ?_)
theorem semigroupref11_Compose.mono : ∀ a0 a1 k, LeO (semigroupref11_Compose.f k a0 a1) (semigroupref11_Compose.f (k + 1) a0 a1) := by
  intro a0 a1 k
  have ih0 := semigroupref11_Compose.mono_l k
  unfold semigroupref11_Compose.f
  repeat' first
      | (with_reducible exact ih0 _ _ _ _ _)
      | (with_reducible exact LeO.refl _)
      | (with_reducible exact LeO.none _)
      | (with_reducible refine LeO.ite ?_ ?_)
      | (with_reducible refine LeO.bind ?_ (fun _ => ?_))
      | exact ih0 _ _ _ _ _
      | exact LeO.none _
      | refine LeO.ite ?_ ?_
      | refine LeO.bind ?_ (fun _ => ?_)
set_option maxHeartbeats 8000000 in
set_option maxRecDepth 100000 in
theorem semigroupref11_Compose.calls (k : Nat) (A0 : Option Addr) (c0 : Nat) (l0 : List Int) (A1 : Option Addr) (c1 : Nat) (l1 : List Int) (r : List Int) (w : World) (hr0 : Kd.C (Kd.int .i64) w A0 l0.length l0) (hc0 : l0.length ≤ c0) (hr1 : Kd.C (Kd.int .i64) w A1 l1.length l1) (hc1 : l1.length ≤ c1) (h : semigroupref11_Compose.f k l0 l1 = some r) :
    Calls Try.prog 19 #[.slice A0 l0.length c0, .slice A1 l1.length c1] w fun e w' => ∃ v0_ : Value, e = .returned (v0_) ∧ Kd.R (Kd.int .i64) 3 w' w.heap.size (fun _ => True) v0_ r ∧ Below w.heap.size w w' := by
  have HR0 := Aside0.mk hr0
  have HC0 := Aside0.mk hc0
  clear hr0 hc0
  have HR1 := Aside0.mk hr1
  have HC1 := Aside0.mk hc1
  clear hr1 hc1
  have HB := Aside0.mk (Below.refl w.heap.size w)
  have H : (if 0 ≤ (l0.length : Int) then (if ((l0.length : Int) : Int).toNat ≤ 35184372088832 then (semigroupref11_Compose.l0 k l1 (List.replicate ((l0.length : Int) : Int).toNat 0) l0 (l0.length : Int) 0) else (none)) else (none)) = some r := h
  clear h
  by_cases c3 : 0 ≤ (l0.length : Int)
  · rw [if_pos c3] at H
    have c3b0 := eq_true c3
    have c3b1 : decide (0 ≤ (l0.length : Int)) = true := decide_eq_true c3
    clear c3
    by_cases c4 : ((l0.length : Int) : Int).toNat ≤ 35184372088832
    · rw [if_pos c4] at H
      have c4b0 := eq_true c4
      have c4b1 : decide (((l0.length : Int) : Int).toNat ≤ 35184372088832) = true := decide_eq_true c4
      clear c4
      obtain ⟨y153, hy153⟩ : ∃ y_ : List Int, y_ = (List.replicate ((l0.length : Int) : Int).toNat 0) := ⟨_, rfl⟩
      replace H : (semigroupref11_Compose.l0 k l1 y153 l0 (l0.length : Int) 0) = some r := by first | (rw [hy153]; with_reducible exact H) | (have H2_ := (Option.bind_some _ _).symm.trans H; rw [hy153]; with_reducible exact H2_) | (have H2_ := (Option.bind_some _ _).symm.trans H; with_reducible exact H2_) | with_reducible exact H | (rw [hy153]; exact H) | exact H
      have Ny153 := Aside0.mk hy153
      clear hy153
      have H' := Aside0.mk H
      clear H
      go_enter Try.func19, Try.ntmps19
      go_wp2_with (first | ((with_reducible refine gate_dst (N := 10) rfl ?_); refine Kd.R_make (Kd.int .i64) _ 3 rfl (N := 10) rfl 22 _ _ rfl (l0.length : Int) rfl rfl Try.underlying22 (.int .i64 0) 8 info3 rfl (by decide) (by omega) 0 (ok := fun _ => True) (okp := fun _ => True) rfl (fun _ hk => hk) trivial (of_decide_eq_true (by first | (with_reducible assumption) | assumption)) (Nat.le_trans (Nat.mul_le_mul_right _ (of_decide_eq_true (by first | (with_reducible assumption) | assumption) : (l0.length : Int).toNat ≤ 35184372088832)) (by omega)) (Below.refl _ _) (Nat.le_refl _) ?_; intro v154 w5 ho6 hb hg_ hnew_; clear hg_ hnew_; (first | rw [← Ny153.out] at ho6 | (simp only [Int.reduceToNat] at ho6; rw [← Ny153.out] at ho6)); have n0_ := Aside0.mk (Kd.R_lower ho6 (below_size (by repeat (first | (with_reducible first | exact HB.out | apply below_alloc | apply pw_below_drewN | apply below_drew1) | exact HB.out)))); have n1_ := Aside0.mk (below_step (by repeat (first | (with_reducible first | exact HB.out | apply below_alloc | apply pw_below_drewN | apply below_drew1) | exact HB.out)) hb); clear HB; have HO155 := n0_; have HB := n1_; clear n0_ n1_; clear hb ho6))
      go_loopg [13] k (fun kq v13 w' => ∃ (x5_1 : List Int) (x13_1 : Int), v13 = .int .i64 x13_1 ∧ Aside0 (semigroupref11_Compose.l0 kq l1 x5_1 l0 (l0.length : Int) x13_1 = some r) ∧ Aside0 (kq ≤ k) ∧ Aside0 (Kd.R (Kd.int .i64) 3 w' w.heap.size (fun _ => True) v154 x5_1) ∧ Aside0 (Below w.heap.size w w'))
      case atStart => exact ⟨(y153), (0), (by first | rfl | (simp; done) | (simp [*]; done)), H', ⟨Nat.le_refl _⟩, ⟨by (with_reducible repeat (first | apply Kd.R_alloc | apply Kd.R_drewN | apply Kd.R_drew)); exact HO155.out⟩, ⟨by repeat (first | (with_reducible first | exact HB.out | apply below_alloc | apply pw_below_drewN | apply below_drew1) | exact HB.out)⟩⟩
      case round =>
        clear H'
        try clear c1
        try clear p2
        try clear c3
        try clear c3b0
        try clear c3b1
        try clear c4
        try clear c4b0
        try clear c4b1
        obtain ⟨x5_1, x13_1, rfl, HA, HK1, HO_5, HB⟩ := hrel
        cases gk with
        | zero => exact absurd HA.out (by simp [semigroupref11_Compose.l0])
        | succ k1 =>
          have H := HA.out
          clear HA
          simp only [semigroupref11_Compose.l0] at H
          by_cases c7 : x13_1 < (l0.length : Int)
          · rw [if_pos c7] at H
            have c7b0 : decide (x13_1 < (l0.length : Int)) = true := decide_eq_true c7
            clear c7
            by_cases c8 : 0 ≤ x13_1
            · rw [if_pos c8] at H
              have c8b0 : decide (0 ≤ x13_1) = true := decide_eq_true c8
              clear c8
              by_cases c9 : x13_1 < (l0.length : Int)
              · rw [if_pos c9] at H
                have c9b0 : decide (x13_1 < (l0.length : Int)) = true := decide_eq_true c9
                clear c9
                by_cases c10 : 0 ≤ (rd l0 x13_1)
                · rw [if_pos c10] at H
                  have c10b0 : decide (0 ≤ (rd l0 x13_1)) = true := decide_eq_true c10
                  clear c10
                  by_cases c11 : (rd l0 x13_1) < (l1.length : Int)
                  · rw [if_pos c11] at H
                    have c11b0 : decide ((rd l0 x13_1) < (l1.length : Int)) = true := decide_eq_true c11
                    clear c11
                    by_cases c12 : x13_1 < (x5_1.length : Int)
                    · rw [if_pos c12] at H
                      have c12b0 : decide (x13_1 < (x5_1.length : Int)) = true := decide_eq_true c12
                      clear c12
                      obtain ⟨y158, hy158⟩ : ∃ y_ : List Int, y_ = (x5_1.set (x13_1 : Int).toNat (rd l1 (rd l0 x13_1))) := ⟨_, rfl⟩
                      replace H : (semigroupref11_Compose.l0 k1 l1 y158 l0 (l0.length : Int) (wrap64 (x13_1 + 1))) = some r := by first | (rw [hy158]; with_reducible exact H) | (have H2_ := (Option.bind_some _ _).symm.trans H; rw [hy158]; with_reducible exact H2_) | (have H2_ := (Option.bind_some _ _).symm.trans H; with_reducible exact H2_) | with_reducible exact H | (rw [hy158]; exact H) | exact H
                      have Ny158 := Aside0.mk hy158
                      clear hy158
                      have H' := Aside0.mk H
                      clear H
                      have p156 : 0 ≤ (x13_1 : Int) := of_decide_eq_true (by first | (with_reducible assumption) | assumption)
                      have q156 : x13_1 < (l0.length : Int) := of_decide_eq_true (by first | (with_reducible assumption) | assumption)
                      obtain ⟨ad156, e156, hx156_0⟩ := Kd.at_int HR0.out x13_1 p156 q156
                      cases e156
                      replace hx156_0 := (HB.out.cell (World.block_lt_of_cell? w _ hx156_0)).trans hx156_0
                      replace p156 := eq_true p156
                      replace q156 := eq_true q156
                      have p157 : 0 ≤ ((rd l0 x13_1) : Int) := of_decide_eq_true (by first | (with_reducible assumption) | assumption)
                      have q157 : (rd l0 x13_1) < (l1.length : Int) := of_decide_eq_true (by first | (with_reducible assumption) | assumption)
                      obtain ⟨ad157, e157, hx157_0⟩ := Kd.at_int HR1.out (rd l0 x13_1) p157 q157
                      cases e157
                      replace hx157_0 := (HB.out.cell (World.block_lt_of_cell? w _ hx157_0)).trans hx157_0
                      replace p157 := eq_true p157
                      replace q157 := eq_true q157
                      have p13 : 0 ≤ (x13_1 : Int) := of_decide_eq_true (by first | (with_reducible assumption) | assumption)
                      have q13 : (x13_1 : Int) < ((x5_1.length : Int) : Int) := of_decide_eq_true (by first | (with_reducible assumption) | assumption)
                      obtain ⟨go13, co13, eo13, gb13, gl13, cl13, HG13⟩ := Kd.R_form HO_5.out (by omega)
                      (first | cases eo13 | (injection eo13 with ea_ en_ ec_; (first | subst ea_ | (injection ea_ with ea_; subst ea_)); subst ec_; clear en_))
                      have GB13 := Aside0.mk gb13
                      have GG13 := Aside0.mk HG13
                      clear gb13 gl13 HG13
                      obtain ⟨hx13_0, hf13_0⟩ := Kd.R_celln 0 HO_5.out (x13_1 : Int) p13 q13
                      replace p13 := eq_true p13
                      replace q13 := eq_true q13
                      have HP14 := Kd.R_putg HO_5.out (x13_1 : Int) (rd l1 (rd l0 x13_1))
                      go_wp2_with (first | ((with_reducible refine gate_store (t := 3) (p := 24) rfl ?_); refine store_event (t := 3) (p := 24) (v := ?vo_w15) (w1 := (wr.setCell ⟨go13, (x13_1 : Int).toNat, none⟩ (.int .i64 (rd l1 (rd l0 x13_1))))) ?hg ?ho ?hn ?hr ?_; (case ho => rfl); (case hg => rfl); (case hn => rfl); (case hr => first | (go_simp; done) | (go_simp; rfl)); intro w15 hw; have hg : wr.grownBy w15 (some go13) := (by rw [hw]; exact HP14.2); have hp_ : Kd.R (Kd.int .i64) 3 w15 w.heap.size (fun _ => True) (.slice (some ⟨go13, 0, none⟩) x5_1.length co13) y158 := (by rw [hw, Ny158.out]; exact HP14.1); clear HP14; have n0_ := Aside0.mk (hp_); have n1_ := Aside0.mk ((by rw [hw]; exact below_set (HB.out) GB13.out : Below w.heap.size w w15)); clear HO_5; clear HB; have HO_5 := n0_; have HB := n1_; clear n0_ n1_; clear hg hw hp_))
                      go_roundg k1
                      case measure => have := HK1.out; omega
                      case rel => exact ⟨(y158), (wrap64 (x13_1 + 1)), (by first | rfl | (simp; done) | (simp [*]; done)), H', ⟨by have := HK1.out; omega⟩, ⟨by (with_reducible repeat (first | apply Kd.R_alloc | apply Kd.R_drewN | apply Kd.R_drew)); exact HO_5.out⟩, ⟨by repeat (first | (with_reducible first | exact HB.out | apply below_alloc | apply pw_below_drewN | apply below_drew1) | exact HB.out)⟩⟩
                    · rw [if_neg c12] at H
                      exact absurd H (by simp)
                  · rw [if_neg c11] at H
                    exact absurd H (by simp)
                · rw [if_neg c10] at H
                  exact absurd H (by simp)
              · rw [if_neg c9] at H
                exact absurd H (by simp)
            · rw [if_neg c8] at H
              exact absurd H (by simp)
          · rw [if_neg c7] at H
            have c7b0 : decide (x13_1 < (l0.length : Int)) = false := decide_eq_false c7
            clear c7
            obtain rfl := Option.some.inj H
            go_wp2
            go_ret
            exact ⟨_, by first | rfl | (simp [errW_none, errW_some] <;> rfl) | (simp [*, errW_none, errW_some] <;> rfl), by (with_reducible repeat (first | apply Kd.R_alloc | apply Kd.R_drewN | apply Kd.R_drew)); exact HO_5.out, by repeat (first | (with_reducible first | exact HB.out | apply below_alloc | apply pw_below_drewN | apply below_drew1) | exact HB.out)⟩
    · rw [if_neg c4] at H
      exact absurd H (by simp)
  · rw [if_neg c3] at H
    exact absurd H (by simp)

/-! ### semigroupref03_Discrete: function 26 -/
def semigroupref03_Discrete.l0 : Nat → List Int → Int → Int → Option (List Int)
  | 0, _, _, _ => none
  | k + 1, x3, x8, x9 => if x9 < x8 then (if 0 ≤ x9 then (if x9 < (x3.length : Int) then (semigroupref03_Discrete.l0 k (x3.set (x9 : Int).toNat x9) x8 (wrap64 (x9 + 1))) else (none)) else (none)) else (some x3)
def semigroupref03_Discrete.f (k : Nat) (a0 : Int) : Option (List Int) := if 0 ≤ a0 then (if (a0 : Int).toNat ≤ 35184372088832 then ((some (List.replicate (a0 : Int).toNat 0 : List Int)).bind fun y159 => (semigroupref03_Discrete.l0 k y159 (y159.length : Int) 0)) else (none)) else (none)
theorem semigroupref03_Discrete.mono_l : ∀ k, (∀ y0 y1 y2, LeO (semigroupref03_Discrete.l0 k y0 y1 y2) (semigroupref03_Discrete.l0 (k + 1) y0 y1 y2))
  | 0 => fun _ _ _ r h => by simp [semigroupref03_Discrete.l0] at h
  | k + 1 => by
    have ih0 := semigroupref03_Discrete.mono_l k
    · intro y0 y1 y2
      unfold semigroupref03_Discrete.l0
      repeat' first
      | (with_reducible exact ih0 _ _ _)
      | (with_reducible exact LeO.refl _)
      | (with_reducible exact LeO.none _)
      | (with_reducible refine LeO.ite ?_ ?_)
      | (with_reducible refine LeO.bind ?_ (fun _ => ?_))
      | exact ih0 _ _ _
      | exact LeO.none _
      | refine LeO.ite ?_ ?_
      | refine LeO.bind ?_ (fun _ => ?_)
theorem semigroupref03_Discrete.mono : ∀ a0 k, LeO (semigroupref03_Discrete.f k a0) (semigroupref03_Discrete.f (k + 1) a0) := by
  intro a0 k
  have ih0 := semigroupref03_Discrete.mono_l k
  unfold semigroupref03_Discrete.f
  repeat' first
      | (with_reducible exact ih0 _ _ _)
      | (with_reducible exact LeO.refl _)
      | (with_reducible exact LeO.none _)
      | (with_reducible refine LeO.ite ?_ ?_)
      | (with_reducible refine LeO.bind ?_ (fun _ => ?_))
      | exact ih0 _ _ _
      | exact LeO.none _
      | refine LeO.ite ?_ ?_
      | refine LeO.bind ?_ (fun _ => ?_)
set_option maxHeartbeats 8000000 in
set_option maxRecDepth 100000 in
theorem semigroupref03_Discrete.calls (k : Nat) (a0 : Int) (r : List Int) (w : World) (h : semigroupref03_Discrete.f k a0 = some r) :
    Calls Try.prog 26 #[.int .i64 a0] w fun e w' => ∃ v0_ : Value, e = .returned (v0_) ∧ Kd.R (Kd.int .i64) 3 w' w.heap.size (fun _ => True) v0_ r ∧ Below w.heap.size w w' := by
  have HB := Aside0.mk (Below.refl w.heap.size w)
  have H : (if 0 ≤ a0 then (if (a0 : Int).toNat ≤ 35184372088832 then ((some (List.replicate (a0 : Int).toNat 0 : List Int)).bind fun y159 => (semigroupref03_Discrete.l0 k y159 (y159.length : Int) 0)) else (none)) else (none)) = some r := h
  clear h
  by_cases c2 : 0 ≤ a0
  · rw [if_pos c2] at H
    have c2b0 := eq_true c2
    have c2b1 : decide (0 ≤ a0) = true := decide_eq_true c2
    clear c2
    by_cases c3 : (a0 : Int).toNat ≤ 35184372088832
    · rw [if_pos c3] at H
      have c3b0 := eq_true c3
      have c3b1 : decide ((a0 : Int).toNat ≤ 35184372088832) = true := decide_eq_true c3
      clear c3
      obtain ⟨y159, hy159⟩ : ∃ y_ : List Int, y_ = (List.replicate (a0 : Int).toNat 0) := ⟨_, rfl⟩
      replace H : (semigroupref03_Discrete.l0 k y159 (y159.length : Int) 0) = some r := by first | (rw [hy159]; with_reducible exact H) | (have H2_ := (Option.bind_some _ _).symm.trans H; rw [hy159]; with_reducible exact H2_) | (have H2_ := (Option.bind_some _ _).symm.trans H; with_reducible exact H2_) | with_reducible exact H | (rw [hy159]; exact H) | exact H
      have Ny159 := Aside0.mk hy159
      clear hy159
      have H' := Aside0.mk H
      clear H
      go_enter Try.func26, Try.ntmps26
      go_wp2_with (first | ((with_reducible refine gate_dst (N := 6) rfl ?_); refine Kd.R_make (Kd.int .i64) _ 3 rfl (N := 6) rfl 22 _ _ rfl a0 rfl rfl Try.underlying22 (.int .i64 0) 8 info3 rfl (by decide) (by omega) 0 (ok := fun _ => True) (okp := fun _ => True) rfl (fun _ hk => hk) trivial (of_decide_eq_true (by first | (with_reducible assumption) | assumption)) (Nat.le_trans (Nat.mul_le_mul_right _ (of_decide_eq_true (by first | (with_reducible assumption) | assumption) : a0.toNat ≤ 35184372088832)) (by omega)) (Below.refl _ _) (Nat.le_refl _) ?_; intro v160 w4 ho5 hb hg_ hnew_; clear hg_ hnew_; (first | rw [← Ny159.out] at ho5 | (simp only [Int.reduceToNat] at ho5; rw [← Ny159.out] at ho5)); have n0_ := Aside0.mk (Kd.R_lower ho5 (below_size (by repeat (first | (with_reducible first | exact HB.out | apply below_alloc | apply pw_below_drewN | apply below_drew1) | exact HB.out)))); have n1_ := Aside0.mk (below_step (by repeat (first | (with_reducible first | exact HB.out | apply below_alloc | apply pw_below_drewN | apply below_drew1) | exact HB.out)) hb); clear HB; have HO161 := n0_; have HB := n1_; clear n0_ n1_; clear hb ho5; obtain ⟨Ao6, co6, eo6⟩ := Kd.R_slice HO161.out; subst eo6))
      go_loopg [9] k (fun kq v9 w' => ∃ (x3_1 : List Int) (x9_1 : Int), v9 = .int .i64 x9_1 ∧ Aside0 (semigroupref03_Discrete.l0 kq x3_1 (y159.length : Int) x9_1 = some r) ∧ Aside0 (kq ≤ k) ∧ Aside0 (Kd.R (Kd.int .i64) 3 w' w.heap.size (fun _ => True) (.slice Ao6 y159.length co6) x3_1) ∧ Aside0 (Below w.heap.size w w'))
      case atStart => exact ⟨(y159), (0), (by first | rfl | (simp; done) | (simp [*]; done)), H', ⟨Nat.le_refl _⟩, ⟨by (with_reducible repeat (first | apply Kd.R_alloc | apply Kd.R_drewN | apply Kd.R_drew)); exact HO161.out⟩, ⟨by repeat (first | (with_reducible first | exact HB.out | apply below_alloc | apply pw_below_drewN | apply below_drew1) | exact HB.out)⟩⟩
      case round =>
        clear H'
        try clear c2
        try clear c2b0
        try clear c2b1
        try clear p2
        try clear c3
        try clear c3b0
        try clear c3b1
        obtain ⟨x3_1, x9_1, rfl, HA, HK1, HO_3, HB⟩ := hrel
        have hl3_1 := (Kd.R_reads' HO_3.out).1
        rw [hl3_1] at HO_3
        (try simp only [hl3_1])
        cases gk with
        | zero => exact absurd HA.out (by simp [semigroupref03_Discrete.l0])
        | succ k1 =>
          have H := HA.out
          clear HA
          simp only [semigroupref03_Discrete.l0] at H
          by_cases c7 : x9_1 < (y159.length : Int)
          · rw [if_pos c7] at H
            have c7b0 : decide (x9_1 < (y159.length : Int)) = true := decide_eq_true c7
            clear c7
            (try (have c7b5 := c7b0; simp only [hl3_1] at c7b5))
            by_cases c8 : 0 ≤ x9_1
            · rw [if_pos c8] at H
              have c8b0 : decide (0 ≤ x9_1) = true := decide_eq_true c8
              clear c8
              by_cases c9 : x9_1 < (x3_1.length : Int)
              · rw [if_pos c9] at H
                have c9b0 : decide (x9_1 < (x3_1.length : Int)) = true := decide_eq_true c9
                clear c9
                (try (have c9b5 := c9b0; simp only [hl3_1] at c9b5))
                obtain ⟨y162, hy162⟩ : ∃ y_ : List Int, y_ = (x3_1.set (x9_1 : Int).toNat x9_1) := ⟨_, rfl⟩
                replace H : (semigroupref03_Discrete.l0 k1 y162 (y159.length : Int) (wrap64 (x9_1 + 1))) = some r := by first | (rw [hy162]; with_reducible exact H) | (have H2_ := (Option.bind_some _ _).symm.trans H; rw [hy162]; with_reducible exact H2_) | (have H2_ := (Option.bind_some _ _).symm.trans H; with_reducible exact H2_) | with_reducible exact H | (rw [hy162]; exact H) | exact H
                have Ny162 := Aside0.mk hy162
                clear hy162
                have H' := Aside0.mk H
                clear H
                have p10 : 0 ≤ (x9_1 : Int) := of_decide_eq_true (by first | (with_reducible assumption) | assumption)
                have q10 : (x9_1 : Int) < ((x3_1.length : Int) : Int) := of_decide_eq_true (by first | (with_reducible assumption) | assumption)
                obtain ⟨go10, co10, eo10, gb10, gl10, cl10, HG10⟩ := Kd.R_form HO_3.out (by omega)
                (first | cases eo10 | (injection eo10 with ea_ en_ ec_; (first | subst ea_ | (injection ea_ with ea_; subst ea_)); subst ec_; clear en_))
                have GB10 := Aside0.mk gb10
                have GG10 := Aside0.mk HG10
                clear gb10 gl10 HG10
                obtain ⟨hx10_0, hf10_0⟩ := Kd.R_celln 0 HO_3.out (x9_1 : Int) p10 q10
                replace p10 := eq_true p10
                replace q10 := eq_true q10
                have HP11 := Kd.R_putg HO_3.out (x9_1 : Int) x9_1
                go_wp2_with (first | ((with_reducible refine gate_store (t := 3) (p := 15) rfl ?_); refine store_event (t := 3) (p := 15) (v := ?vo_w12) (w1 := (wr.setCell ⟨go10, (x9_1 : Int).toNat, none⟩ (.int .i64 x9_1))) ?hg ?ho ?hn ?hr ?_; (case ho => rfl); (case hg => rfl); (case hn => rfl); (case hr => first | (go_simp; done) | (go_simp; rfl)); intro w12 hw; have hg : wr.grownBy w12 (some go10) := (by rw [hw]; exact HP11.2); have hp_ : Kd.R (Kd.int .i64) 3 w12 w.heap.size (fun _ => True) (.slice (some ⟨go10, 0, none⟩) x3_1.length co6) y162 := (by rw [hw, Ny162.out]; exact HP11.1); clear HP11; have n0_ := Aside0.mk (hp_); have n1_ := Aside0.mk ((by rw [hw]; exact below_set (HB.out) GB10.out : Below w.heap.size w w12)); clear HO_3; clear HB; have HO_3 := n0_; have HB := n1_; clear n0_ n1_; clear hg hw hp_))
                (try simp only [← hl3_1])
                go_roundg k1
                case measure => have := HK1.out; omega
                case rel => exact ⟨(y162), (wrap64 (x9_1 + 1)), (by first | rfl | (simp; done) | (simp [*]; done)), H', ⟨by have := HK1.out; omega⟩, ⟨by (try simp only [hl3_1]); (with_reducible repeat (first | apply Kd.R_alloc | apply Kd.R_drewN | apply Kd.R_drew)); exact HO_3.out⟩, ⟨by repeat (first | (with_reducible first | exact HB.out | apply below_alloc | apply pw_below_drewN | apply below_drew1) | exact HB.out)⟩⟩
              · rw [if_neg c9] at H
                exact absurd H (by simp)
            · rw [if_neg c8] at H
              exact absurd H (by simp)
          · rw [if_neg c7] at H
            have c7b0 : decide (x9_1 < (y159.length : Int)) = false := decide_eq_false c7
            clear c7
            (try (have c7b5 := c7b0; simp only [hl3_1] at c7b5))
            obtain rfl := Option.some.inj H
            go_wp2
            go_ret
            exact ⟨_, by first | rfl | (simp [errW_none, errW_some] <;> rfl) | (simp [*, errW_none, errW_some] <;> rfl), by (with_reducible repeat (first | apply Kd.R_alloc | apply Kd.R_drewN | apply Kd.R_drew)); exact HO_3.out, by repeat (first | (with_reducible first | exact HB.out | apply below_alloc | apply pw_below_drewN | apply below_drew1) | exact HB.out)⟩
    · rw [if_neg c3] at H
      exact absurd H (by simp)
  · rw [if_neg c2] at H
    exact absurd H (by simp)

end Go.Proofs.Ytimepajbnongoaa.PTransWords
