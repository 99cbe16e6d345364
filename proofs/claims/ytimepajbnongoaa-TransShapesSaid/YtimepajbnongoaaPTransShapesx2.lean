-- Written by wip/oprint.py (a program of this repo, over the kit's print) for this claim.
import Derived.Test.YtimepajbnongoaaPTransShapesx0
import Derived.Test.YtimepajbnongoaaPTransShapesx1
namespace Go.Proofs.Ytimepajbnongoaa.PTransShapes
open Go.RowKit Go.Proofs.YtimepajbnongoaaW.PrintWords Go.Proofs.YtimepajbnongoaaW.PrintLast Go.Proofs.YtimepajbnongoaaW.PrintMore
attribute [local go_sem] max2_int min2_int max_two min_two max_three min_three max_four min_four   -- for this text's walks alone
set_option linter.unusedVariables false
set_option linter.unusedSimpArgs false

/-! ### semigroupref11_Valid: function 21 -/
mutual
def semigroupref11_Valid.j0 : Nat → List Int → Bool → Option (Bool)
  | 0, _, _ => none
  | k + 1, x0, x12 => if x12 = true then (some false) else (semigroupref11_Valid.l0 k x0 x0 (x0.length : Int) 0)
def semigroupref11_Valid.l0 : Nat → List Int → List Int → Int → Int → Option (Bool)
  | 0, _, _, _, _ => none
  | k + 1, x0, x13, x14, x15 => if x15 < x14 then (if 0 ≤ x15 then (if x15 < (x13.length : Int) then (if (rd x13 x15) < 0 then (some false) else (if (rd x13 x15) ≥ (x0.length : Int) then (some false) else (semigroupref11_Valid.l0 k x0 x13 x14 (wrap64 (x15 + 1))))) else (none)) else (none)) else (some true)
end
def semigroupref11_Valid.f (k : Nat) (l0 : List Int) : Option (Bool) := if (l0.length : Int) < 1 then (semigroupref11_Valid.j0 k l0 true) else (semigroupref11_Valid.j0 k l0 (decide ((l0.length : Int) > 32)))
theorem semigroupref11_Valid.mono_l : ∀ k, (∀ y0 y1, LeO (semigroupref11_Valid.j0 k y0 y1) (semigroupref11_Valid.j0 (k + 1) y0 y1)) ∧ (∀ y0 y1 y2 y3, LeO (semigroupref11_Valid.l0 k y0 y1 y2 y3) (semigroupref11_Valid.l0 (k + 1) y0 y1 y2 y3))
  | 0 => ⟨fun _ _ r h => by simp [semigroupref11_Valid.j0] at h, fun _ _ _ _ r h => by simp [semigroupref11_Valid.l0] at h⟩
  | k + 1 => by
    obtain ⟨ih0, ih1⟩ := semigroupref11_Valid.mono_l k
    refine ⟨?_, ?_⟩
    · intro y0 y1
      unfold semigroupref11_Valid.j0
      repeat' first
      | (with_reducible exact ih0 _ _)
      | (with_reducible exact ih1 _ _ _ _)
      | (with_reducible exact LeO.refl _)
      | (with_reducible exact LeO.none _)
      | (with_reducible refine LeO.ite ?_ ?_)
      | (with_reducible refine LeO.bind ?_ (fun _ => ?_))
      | exact ih0 _ _
      | exact ih1 _ _ _ _
      | exact LeO.none _
      | refine LeO.ite ?_ ?_
      | refine LeO.bind ?_ (fun _ => ?_)
    · intro y0 y1 y2 y3
      unfold semigroupref11_Valid.l0
      repeat' first
      | (with_reducible exact ih0 _ _)
      | (with_reducible exact ih1 _ _ _ _)
      | (with_reducible exact LeO.refl _)
      | (with_reducible exact LeO.none _)
      | (with_reducible refine LeO.ite ?_ ?_)
      | (with_reducible refine LeO.bind ?_ (fun _ => ?_))
      | exact ih0 _ _
      | exact ih1 _ _ _ _
      | exact LeO.none _
      | refine LeO.ite ?_ ?_
      | refine LeO.bind ?_ (fun _ => ?_)
theorem semigroupref11_Valid.mono : ∀ a0 k, LeO (semigroupref11_Valid.f k a0) (semigroupref11_Valid.f (k + 1) a0) := by
  intro a0 k
  obtain ⟨ih0, ih1⟩ := semigroupref11_Valid.mono_l k
  unfold semigroupref11_Valid.f
  repeat' first
      | (with_reducible exact ih0 _ _)
      | (with_reducible exact ih1 _ _ _ _)
      | (with_reducible exact LeO.refl _)
      | (with_reducible exact LeO.none _)
      | (with_reducible refine LeO.ite ?_ ?_)
      | (with_reducible refine LeO.bind ?_ (fun _ => ?_))
      | exact ih0 _ _
      | exact ih1 _ _ _ _
      | exact LeO.none _
      | refine LeO.ite ?_ ?_
      | refine LeO.bind ?_ (fun _ => ?_)
set_option maxHeartbeats 8000000 in
set_option maxRecDepth 100000 in
theorem semigroupref11_Valid.calls (k : Nat) (A0 : Option Addr) (c0 : Nat) (l0 : List Int) (r : Bool) (w : World) (hr0 : Kd.C (Kd.int .i64) w A0 l0.length l0) (hc0 : l0.length ≤ c0) (h : semigroupref11_Valid.f k l0 = some r) :
    Calls Try.prog 21 #[.slice A0 l0.length c0] w fun e w' => e = .returned (.bool r) ∧ Drawn0 w w' := by
  have HR0 := Aside0.mk hr0
  have HC0 := Aside0.mk hc0
  clear hr0 hc0
  have H : (if (l0.length : Int) < 1 then (semigroupref11_Valid.j0 k l0 true) else (semigroupref11_Valid.j0 k l0 (decide ((l0.length : Int) > 32)))) = some r := h
  clear h
  have HC2 := Aside0.mk H
  clear H
  go_enter Try.func21, Try.ntmps21
  go_upto_region 1 with (fail)
  go_cut [12] (fun v12 wc => ∃ (kq : Nat) (x12_1 : Bool), v12 = .bool x12_1 ∧ Aside0 (semigroupref11_Valid.j0 kq l0 x12_1 = some r) ∧ Aside0 (kq ≤ k) ∧ Drawn0 w wc)
  case first =>
    have H := HC2.out
    clear HC2
    by_cases c3 : (l0.length : Int) < 1
    · rw [if_pos c3] at H
      have c3b0 : decide ((l0.length : Int) < 1) = true := decide_eq_true c3
      have c3b1 : decide (l0.length < 1) = true := decide_eq_true (by omega)
      clear c3
      (first | rw [c3b0] | (simp only [i64_w, i32_w]; rw [c3b0]) | skip)
      have H' := Aside0.mk H
      clear H
      go_wp2
      go_meet
      case rel => exact ⟨_, (true), (by first | rfl | (simp; done) | (simp [*]; done)), H', ⟨by first | omega | exact Nat.le_refl _⟩, by repeat (first | exact Drawn0.refl _ | apply Drawn0.step)⟩
    · rw [if_neg c3] at H
      have c3b0 : decide ((l0.length : Int) < 1) = false := decide_eq_false c3
      have c3b1 : decide (l0.length < 1) = false := decide_eq_false (by omega)
      clear c3
      (first | rw [c3b0] | (simp only [i64_w, i32_w]; rw [c3b0]) | skip)
      have H' := Aside0.mk H
      clear H
      go_wp2
      go_meet
      case rel => exact ⟨_, (decide ((l0.length : Int) > 32)), (by first | rfl | (simp; done) | (simp [*]; done)), H', ⟨by first | omega | exact Nat.le_refl _⟩, by repeat (first | exact Drawn0.refl _ | apply Drawn0.step)⟩
  case rest =>
    clear HC2
    try clear c2
    try clear p2
    try clear c3
    try clear c3b0
    try clear c3b1
    obtain ⟨kq, x12_1, rfl, HA, HJ1, ⟨mc1, rfl⟩⟩ := hcut
    cases kq with
    | zero => exact absurd HA.out (by simp [semigroupref11_Valid.j0])
    | succ kj1 =>
      have H := HA.out
      clear HA
      simp only [semigroupref11_Valid.j0] at H
      by_cases c4 : x12_1 = true
      · subst c4
        have H1 : (some false) = some r := by rw [if_pos rfl] at H; exact H
        clear H
        have H := H1
        clear H1
        obtain rfl := Option.some.inj H
        go_wp2
        go_ret
        exact ⟨by first | rfl | (simp; done) | (simp [*]; done), by repeat (first | exact Drawn0.refl _ | apply Drawn0.step)⟩
      · replace c4 := Bool.eq_false_iff.mpr c4
        subst c4
        have H1 : (semigroupref11_Valid.l0 kj1 l0 l0 (l0.length : Int) 0) = some r := by rw [if_neg (show ¬ (false = true) by decide)] at H; exact H
        clear H
        have H := H1
        clear H1
        have H' := Aside0.mk H
        clear H
        go_wp2
        go_loopg [15] kj1 (fun kq v15 w' => ∃ (x15_2 : Int), v15 = .int .i64 x15_2 ∧ Aside0 (semigroupref11_Valid.l0 kq l0 l0 (l0.length : Int) x15_2 = some r) ∧ Aside0 (kq ≤ kj1) ∧ Drawn0 w w')
        case atStart => exact ⟨(0), (by first | rfl | (simp; done) | (simp [*]; done)), H', ⟨Nat.le_refl _⟩, by repeat (first | exact Drawn0.refl _ | apply Drawn0.step)⟩
        case round =>
          clear H'
          try clear c1
          try clear c2
          try clear p2
          try clear c3
          try clear c3b0
          try clear c3b1
          try clear c4
          try clear p2
          obtain ⟨x15_2, rfl, HA, HK2, ⟨m2, rfl⟩⟩ := hrel
          cases gk with
          | zero => exact absurd HA.out (by simp [semigroupref11_Valid.l0])
          | succ k2 =>
            have H := HA.out
            clear HA
            simp only [semigroupref11_Valid.l0] at H
            by_cases c5 : x15_2 < (l0.length : Int)
            · rw [if_pos c5] at H
              have c5b0 : decide (x15_2 < (l0.length : Int)) = true := decide_eq_true c5
              clear c5
              by_cases c6 : 0 ≤ x15_2
              · rw [if_pos c6] at H
                have c6b0 : decide (0 ≤ x15_2) = true := decide_eq_true c6
                clear c6
                by_cases c7 : x15_2 < (l0.length : Int)
                · rw [if_pos c7] at H
                  have c7b0 : decide (x15_2 < (l0.length : Int)) = true := decide_eq_true c7
                  clear c7
                  by_cases c8 : (rd l0 x15_2) < 0
                  · rw [if_pos c8] at H
                    have c8b0 : decide ((rd l0 x15_2) < 0) = true := decide_eq_true c8
                    clear c8
                    obtain rfl := Option.some.inj H
                    have p128 : 0 ≤ (x15_2 : Int) := of_decide_eq_true (by first | (with_reducible assumption) | assumption)
                    have q128 : x15_2 < (l0.length : Int) := of_decide_eq_true (by first | (with_reducible assumption) | assumption)
                    obtain ⟨ad128, e128, hx128_0⟩ := Kd.at_int HR0.out x15_2 p128 q128
                    cases e128
                    replace p128 := eq_true p128
                    replace q128 := eq_true q128
                    go_wp2
                    go_ret
                    exact ⟨by first | rfl | (simp; done) | (simp [*]; done), by repeat (first | exact Drawn0.refl _ | apply Drawn0.step)⟩
                  · rw [if_neg c8] at H
                    have c8b0 : decide ((rd l0 x15_2) < 0) = false := decide_eq_false c8
                    clear c8
                    by_cases c9 : (rd l0 x15_2) ≥ (l0.length : Int)
                    · rw [if_pos c9] at H
                      have c9b0 : decide ((l0.length : Int) ≤ (rd l0 x15_2)) = true := decide_eq_true c9
                      clear c9
                      obtain rfl := Option.some.inj H
                      have p128 : 0 ≤ (x15_2 : Int) := of_decide_eq_true (by first | (with_reducible assumption) | assumption)
                      have q128 : x15_2 < (l0.length : Int) := of_decide_eq_true (by first | (with_reducible assumption) | assumption)
                      obtain ⟨ad128, e128, hx128_0⟩ := Kd.at_int HR0.out x15_2 p128 q128
                      cases e128
                      replace p128 := eq_true p128
                      replace q128 := eq_true q128
                      go_wp2
                      go_ret
                      exact ⟨by first | rfl | (simp; done) | (simp [*]; done), by repeat (first | exact Drawn0.refl _ | apply Drawn0.step)⟩
                    · rw [if_neg c9] at H
                      have c9b0 : decide ((l0.length : Int) ≤ (rd l0 x15_2)) = false := decide_eq_false c9
                      clear c9
                      have H' := Aside0.mk H
                      clear H
                      have p128 : 0 ≤ (x15_2 : Int) := of_decide_eq_true (by first | (with_reducible assumption) | assumption)
                      have q128 : x15_2 < (l0.length : Int) := of_decide_eq_true (by first | (with_reducible assumption) | assumption)
                      obtain ⟨ad128, e128, hx128_0⟩ := Kd.at_int HR0.out x15_2 p128 q128
                      cases e128
                      replace p128 := eq_true p128
                      replace q128 := eq_true q128
                      go_wp2
                      go_roundg k2
                      case measure => have := HJ1.out; have := HK2.out; omega
                      case rel => exact ⟨(wrap64 (x15_2 + 1)), (by first | rfl | (simp; done) | (simp [*]; done)), H', ⟨by have := HJ1.out; have := HK2.out; omega⟩, by repeat (first | exact Drawn0.refl _ | apply Drawn0.step)⟩
                · rw [if_neg c7] at H
                  exact absurd H (by simp)
              · rw [if_neg c6] at H
                exact absurd H (by simp)
            · rw [if_neg c5] at H
              have c5b0 : decide (x15_2 < (l0.length : Int)) = false := decide_eq_false c5
              clear c5
              obtain rfl := Option.some.inj H
              go_wp2
              go_ret
              exact ⟨by first | rfl | (simp; done) | (simp [*]; done), by repeat (first | exact Drawn0.refl _ | apply Drawn0.step)⟩

/-! ### trans_Image: function 34 -/
mutual
def trans_Image.l0 : Nat → List Bool → List Int → Int → Int → Option (List Int)
  | 0, _, _, _, _ => none
  | k + 1, x3, x15, x16, x17 => if x17 < x16 then (if 0 ≤ x17 then (if x17 < (x15.length : Int) then (if 0 ≤ (rd x15 x17) then (if (rd x15 x17) < (x3.length : Int) then (trans_Image.l0 k (x3.set ((rd x15 x17) : Int).toNat true) x15 x16 (wrap64 (x17 + 1))) else (none)) else (none)) else (none)) else (none)) else (trans_Image.l1 k ([] : List Int) x3 (x3.length : Int) 0)
def trans_Image.l1 : Nat → List Int → List Bool → Int → Int → Option (List Int)
  | 0, _, _, _, _ => none
  | k + 1, x6, x25, x26, x27 => if x27 < x26 then (if 0 ≤ x27 then (if x27 < (x25.length : Int) then (if rdOf false x25 x27 = true then (if x6.length < 17592186044416 then (trans_Image.l1 k (x6 ++ [x27]) x25 x26 (wrap64 (x27 + 1))) else (none)) else (trans_Image.l1 k x6 x25 x26 (wrap64 (x27 + 1)))) else (none)) else (none)) else (some x6)
end
def trans_Image.f (k : Nat) (l0 : List Int) : Option (List Int) := (trans_Valid.f k l0).bind fun t129 => (if t129 = true then (if 0 ≤ (l0.length : Int) then (if ((l0.length : Int) : Int).toNat ≤ 281474976710656 then (trans_Image.l0 k (List.replicate ((l0.length : Int) : Int).toNat false) l0 (l0.length : Int) 0) else (none)) else (none)) else (some ([] : List Int)))
theorem trans_Image.mono_l : ∀ k, (∀ y0 y1 y2 y3, LeO (trans_Image.l0 k y0 y1 y2 y3) (trans_Image.l0 (k + 1) y0 y1 y2 y3)) ∧ (∀ y0 y1 y2 y3, LeO (trans_Image.l1 k y0 y1 y2 y3) (trans_Image.l1 (k + 1) y0 y1 y2 y3))
  | 0 => ⟨fun _ _ _ _ r h => by simp [trans_Image.l0] at h, fun _ _ _ _ r h => by simp [trans_Image.l1] at h⟩
  | k + 1 => by
    obtain ⟨ih0, ih1⟩ := trans_Image.mono_l k
    refine ⟨?_, ?_⟩
    · intro y0 y1 y2 y3
      unfold trans_Image.l0
      repeat' first
      | (with_reducible exact ih0 _ _ _ _)
      | (with_reducible exact ih1 _ _ _ _)
      | (with_reducible exact trans_Valid.mono _ _)
      | (with_reducible exact LeO.refl _)
      | (with_reducible exact LeO.none _)
      | (with_reducible refine LeO.ite ?_ ?_)
      | (with_reducible refine LeO.bind ?_ (fun _ => ?_))
      | exact ih0 _ _ _ _
      | exact ih1 _ _ _ _
      | exact trans_Valid.mono _ _
      | exact LeO.none _
      | refine LeO.ite ?_ ?_
      | refine LeO.bind ?_ (fun _ => ?_)
    · intro y0 y1 y2 y3
      unfold trans_Image.l1
      repeat' first
      | (with_reducible exact ih0 _ _ _ _)
      | (with_reducible exact ih1 _ _ _ _)
      | (with_reducible exact trans_Valid.mono _ _)
      | (with_reducible exact LeO.refl _)
      | (with_reducible exact LeO.none _)
      | (with_reducible refine LeO.ite ?_ ?_)
      | (with_reducible refine LeO.bind ?_ (fun _ => ?_))
      | exact ih0 _ _ _ _
      | exact ih1 _ _ _ _
      | exact trans_Valid.mono _ _
      | exact LeO.none _
      | refine LeO.ite ?_ ?_
      | refine LeO.bind ?_ (fun _ => ?_)
theorem trans_Image.mono : ∀ a0 k, LeO (trans_Image.f k a0) (trans_Image.f (k + 1) a0) := by
  intro a0 k
  obtain ⟨ih0, ih1⟩ := trans_Image.mono_l k
  unfold trans_Image.f
  repeat' first
      | (with_reducible exact ih0 _ _ _ _)
      | (with_reducible exact ih1 _ _ _ _)
      | (with_reducible exact trans_Valid.mono _ _)
      | (with_reducible exact LeO.refl _)
      | (with_reducible exact LeO.none _)
      | (with_reducible refine LeO.ite ?_ ?_)
      | (with_reducible refine LeO.bind ?_ (fun _ => ?_))
      | exact ih0 _ _ _ _
      | exact ih1 _ _ _ _
      | exact trans_Valid.mono _ _
      | exact LeO.none _
      | refine LeO.ite ?_ ?_
      | refine LeO.bind ?_ (fun _ => ?_)
set_option maxHeartbeats 8000000 in
set_option maxRecDepth 100000 in
theorem trans_Image.calls (k : Nat) (A0 : Option Addr) (c0 : Nat) (l0 : List Int) (r : List Int) (w : World) (hr0 : Kd.C (Kd.int .i64) w A0 l0.length l0) (hc0 : l0.length ≤ c0) (h : trans_Image.f k l0 = some r) :
    Calls Try.prog 34 #[.slice A0 l0.length c0] w fun e w' => ∃ v0_ : Value, e = .returned (v0_) ∧ Kd.R (Kd.int .i64) 3 w' w.heap.size (fun _ => True) v0_ r ∧ Below w.heap.size w w' := by
  have HR0 := Aside0.mk hr0
  have HC0 := Aside0.mk hc0
  clear hr0 hc0
  have HB := Aside0.mk (Below.refl w.heap.size w)
  have H : ((trans_Valid.f k l0).bind fun t129 => (if t129 = true then (if 0 ≤ (l0.length : Int) then (if ((l0.length : Int) : Int).toNat ≤ 281474976710656 then (trans_Image.l0 k (List.replicate ((l0.length : Int) : Int).toNat false) l0 (l0.length : Int) 0) else (none)) else (none)) else (some ([] : List Int)))) = some r := h
  clear h
  replace H := Option.bind_eq_some_iff.mp H
  obtain ⟨t129, A20, H⟩ := H
  replace H : (if t129 = true then (if 0 ≤ (l0.length : Int) then (if ((l0.length : Int) : Int).toNat ≤ 281474976710656 then (trans_Image.l0 k (List.replicate ((l0.length : Int) : Int).toNat false) l0 (l0.length : Int) 0) else (none)) else (none)) else (some ([] : List Int))) = some r := H
  have A2 := Aside0.mk A20
  clear A20
  by_cases c3 : t129 = true
  · subst c3
    have H1 : (if 0 ≤ (l0.length : Int) then (if ((l0.length : Int) : Int).toNat ≤ 281474976710656 then (trans_Image.l0 k (List.replicate ((l0.length : Int) : Int).toNat false) l0 (l0.length : Int) 0) else (none)) else (none)) = some r := by rw [if_pos rfl] at H; exact H
    clear H
    have H := H1
    clear H1
    by_cases c4 : 0 ≤ (l0.length : Int)
    · rw [if_pos c4] at H
      have c4b0 := eq_true c4
      have c4b1 : decide (0 ≤ (l0.length : Int)) = true := decide_eq_true c4
      clear c4
      by_cases c5 : ((l0.length : Int) : Int).toNat ≤ 281474976710656
      · rw [if_pos c5] at H
        have c5b0 := eq_true c5
        have c5b1 : decide (((l0.length : Int) : Int).toNat ≤ 281474976710656) = true := decide_eq_true c5
        clear c5
        obtain ⟨y130, hy130⟩ : ∃ y_ : List Bool, y_ = (List.replicate ((l0.length : Int) : Int).toNat false) := ⟨_, rfl⟩
        replace H : (trans_Image.l0 k y130 l0 (l0.length : Int) 0) = some r := by first | (rw [hy130]; with_reducible exact H) | (have H2_ := (Option.bind_some _ _).symm.trans H; rw [hy130]; with_reducible exact H2_) | (have H2_ := (Option.bind_some _ _).symm.trans H; with_reducible exact H2_) | with_reducible exact H | (rw [hy130]; exact H) | exact H
        have Ny130 := Aside0.mk hy130
        clear hy130
        have H' := Aside0.mk H
        clear H
        go_enter Try.func34, Try.ntmps34
        go_wp2_with (first | ((with_reducible refine gate_callee (f := 25) rfl ?_); refine goesL_ (some 10) rfl rfl Try.func25 (by kernel_rfl) rfl #[.slice A0 l0.length c0] rfl (by (try simp only [List.map_toArray, List.map_cons, List.map_nil]); first | done | rfl | (simp only [List.length_drop, List.length_take]; rfl)) ?_; (with_reducible refine (trans_Valid.calls k _ _ l0 true _ ?side1 ?side2 A2.out).mono ?_); (case side1 => repeat (first | exact HR0.out | (with_reducible refine Kd.C_alloc ?_ _) | (with_reducible refine Kd.C_drewN ?_ _) | (with_reducible refine Kd.C_drew ?_))); (case side2 => exact HC0.out); rintro e w' ⟨rfl, ⟨nd, rfl⟩⟩; refine ⟨_, rfl, ?_⟩) | ((with_reducible refine gate_dst (N := 14) rfl ?_); refine Kd.R_make Kd.bool _ 4 rfl (N := 14) rfl 37 _ _ rfl (l0.length : Int) rfl rfl Try.underlying37 (.bool false) 1 info4 rfl (by decide) (by omega) false (ok := fun _ => True) (okp := fun _ => True) rfl (fun _ hk => hk) trivial (of_decide_eq_true (by first | (with_reducible assumption) | assumption)) (Nat.le_trans (Nat.mul_le_mul_right _ (of_decide_eq_true (by first | (with_reducible assumption) | assumption) : (l0.length : Int).toNat ≤ 281474976710656)) (by omega)) (Below.refl _ _) (Nat.le_refl _) ?_; intro v131 w6 ho7 hb hg_ hnew_; clear hg_ hnew_; (first | rw [← Ny130.out] at ho7 | (simp only [Int.reduceToNat] at ho7; rw [← Ny130.out] at ho7)); have n0_ := Aside0.mk (Kd.R_lower ho7 (below_size (by repeat (first | (with_reducible first | exact HB.out | apply below_alloc | apply pw_below_drewN | apply below_drew1) | exact HB.out)))); have n1_ := Aside0.mk (below_step (by repeat (first | (with_reducible first | exact HB.out | apply below_alloc | apply pw_below_drewN | apply below_drew1) | exact HB.out)) hb); clear HB; have HO132 := n0_; have HB := n1_; clear n0_ n1_; clear hb ho7))
        go_loopg [17] k (fun kq v17 w' => ∃ (x3_1 : List Bool) (x17_1 : Int), v17 = .int .i64 x17_1 ∧ Aside0 (trans_Image.l0 kq x3_1 l0 (l0.length : Int) x17_1 = some r) ∧ Aside0 (kq ≤ k) ∧ Aside0 (Kd.R Kd.bool 4 w' w.heap.size (fun _ => True) v131 x3_1) ∧ Aside0 (Below w.heap.size w w'))
        case atStart => exact ⟨(y130), (0), (by first | rfl | (simp; done) | (simp [*]; done)), H', ⟨Nat.le_refl _⟩, ⟨by (with_reducible repeat (first | apply Kd.R_alloc | apply Kd.R_drewN | apply Kd.R_drew)); exact HO132.out⟩, ⟨by repeat (first | (with_reducible first | exact HB.out | apply below_alloc | apply pw_below_drewN | apply below_drew1) | exact HB.out)⟩⟩
        case round =>
          clear H'
          try clear c2
          try clear p2
          try clear c3
          try clear c4
          try clear c4b0
          try clear c4b1
          try clear c5
          try clear c5b0
          try clear c5b1
          obtain ⟨x3_1, x17_1, rfl, HA, HK1, HO_3, HB⟩ := hrel
          cases gk with
          | zero => exact absurd HA.out (by simp [trans_Image.l0])
          | succ k1 =>
            have H := HA.out
            clear HA
            simp only [trans_Image.l0] at H
            by_cases c8 : x17_1 < (l0.length : Int)
            · rw [if_pos c8] at H
              have c8b0 : decide (x17_1 < (l0.length : Int)) = true := decide_eq_true c8
              clear c8
              by_cases c9 : 0 ≤ x17_1
              · rw [if_pos c9] at H
                have c9b0 : decide (0 ≤ x17_1) = true := decide_eq_true c9
                clear c9
                by_cases c10 : x17_1 < (l0.length : Int)
                · rw [if_pos c10] at H
                  have c10b0 : decide (x17_1 < (l0.length : Int)) = true := decide_eq_true c10
                  clear c10
                  by_cases c11 : 0 ≤ (rd l0 x17_1)
                  · rw [if_pos c11] at H
                    have c11b0 : decide (0 ≤ (rd l0 x17_1)) = true := decide_eq_true c11
                    clear c11
                    by_cases c12 : (rd l0 x17_1) < (x3_1.length : Int)
                    · rw [if_pos c12] at H
                      have c12b0 : decide ((rd l0 x17_1) < (x3_1.length : Int)) = true := decide_eq_true c12
                      clear c12
                      obtain ⟨y134, hy134⟩ : ∃ y_ : List Bool, y_ = (x3_1.set ((rd l0 x17_1) : Int).toNat true) := ⟨_, rfl⟩
                      replace H : (trans_Image.l0 k1 y134 l0 (l0.length : Int) (wrap64 (x17_1 + 1))) = some r := by first | (rw [hy134]; with_reducible exact H) | (have H2_ := (Option.bind_some _ _).symm.trans H; rw [hy134]; with_reducible exact H2_) | (have H2_ := (Option.bind_some _ _).symm.trans H; with_reducible exact H2_) | with_reducible exact H | (rw [hy134]; exact H) | exact H
                      have Ny134 := Aside0.mk hy134
                      clear hy134
                      have H' := Aside0.mk H
                      clear H
                      have p133 : 0 ≤ (x17_1 : Int) := of_decide_eq_true (by first | (with_reducible assumption) | assumption)
                      have q133 : x17_1 < (l0.length : Int) := of_decide_eq_true (by first | (with_reducible assumption) | assumption)
                      obtain ⟨ad133, e133, hx133_0⟩ := Kd.at_int HR0.out x17_1 p133 q133
                      cases e133
                      replace hx133_0 := (HB.out.cell (World.block_lt_of_cell? w _ hx133_0)).trans hx133_0
                      replace p133 := eq_true p133
                      replace q133 := eq_true q133
                      have p13 : 0 ≤ ((rd l0 x17_1) : Int) := of_decide_eq_true (by first | (with_reducible assumption) | assumption)
                      have q13 : ((rd l0 x17_1) : Int) < ((x3_1.length : Int) : Int) := of_decide_eq_true (by first | (with_reducible assumption) | assumption)
                      obtain ⟨go13, co13, eo13, gb13, gl13, cl13, HG13⟩ := Kd.R_form HO_3.out (by omega)
                      (first | cases eo13 | (injection eo13 with ea_ en_ ec_; (first | subst ea_ | (injection ea_ with ea_; subst ea_)); subst ec_; clear en_))
                      have GB13 := Aside0.mk gb13
                      have GG13 := Aside0.mk HG13
                      clear gb13 gl13 HG13
                      obtain ⟨hx13_0, hf13_0⟩ := Kd.R_celln false HO_3.out ((rd l0 x17_1) : Int) p13 q13
                      replace p13 := eq_true p13
                      replace q13 := eq_true q13
                      have HP14 := Kd.R_putg HO_3.out ((rd l0 x17_1) : Int) true
                      go_wp2_with (first | ((with_reducible refine gate_store (t := 4) (p := 23) rfl ?_); refine store_event (t := 4) (p := 23) (v := ?vo_w15) (w1 := (wr.setCell ⟨go13, ((rd l0 x17_1) : Int).toNat, none⟩ (.bool true))) ?hg ?ho ?hn ?hr ?_; (case ho => rfl); (case hg => rfl); (case hn => rfl); (case hr => first | (go_simp; done) | (go_simp; rfl)); intro w15 hw; have hg : wr.grownBy w15 (some go13) := (by rw [hw]; exact HP14.2); have hp_ : Kd.R Kd.bool 4 w15 w.heap.size (fun _ => True) (.slice (some ⟨go13, 0, none⟩) x3_1.length co13) y134 := (by rw [hw, Ny134.out]; exact HP14.1); clear HP14; have n0_ := Aside0.mk (hp_); have n1_ := Aside0.mk ((by rw [hw]; exact below_set (HB.out) GB13.out : Below w.heap.size w w15)); clear HO_3; clear HB; have HO_3 := n0_; have HB := n1_; clear n0_ n1_; clear hg hw hp_))
                      go_roundg k1
                      case measure => have := HK1.out; omega
                      case rel => exact ⟨(y134), (wrap64 (x17_1 + 1)), (by first | rfl | (simp; done) | (simp [*]; done)), H', ⟨by have := HK1.out; omega⟩, ⟨by (with_reducible repeat (first | apply Kd.R_alloc | apply Kd.R_drewN | apply Kd.R_drew)); exact HO_3.out⟩, ⟨by repeat (first | (with_reducible first | exact HB.out | apply below_alloc | apply pw_below_drewN | apply below_drew1) | exact HB.out)⟩⟩
                    · rw [if_neg c12] at H
                      exact absurd H (by simp)
                  · rw [if_neg c11] at H
                    exact absurd H (by simp)
                · rw [if_neg c10] at H
                  exact absurd H (by simp)
              · rw [if_neg c9] at H
                exact absurd H (by simp)
            · rw [if_neg c8] at H
              have c8b0 : decide (x17_1 < (l0.length : Int)) = false := decide_eq_false c8
              clear c8
              have H' := Aside0.mk H
              clear H
              obtain ⟨Ao16, co16, eo16⟩ := Kd.R_slice HO_3.out
              subst eo16
              go_wp2
              go_loopg [6, 27] k1 (fun kq v6 v27 w' => ∃ (x6_2 : List Int) (x27_2 : Int), v27 = .int .i64 x27_2 ∧ Aside0 (trans_Image.l1 kq x6_2 x3_1 (x3_1.length : Int) x27_2 = some r) ∧ Aside0 (kq ≤ k1) ∧ Aside0 (Kd.R (Kd.int .i64) 3 w' w.heap.size (fun _ => True) v6 x6_2) ∧ Aside0 (Kd.R Kd.bool 4 w' w.heap.size (fun _ => True) (.slice Ao16 x3_1.length co16) x3_1) ∧ Aside0 (Below w.heap.size w w'))
              case atStart => exact ⟨(([] : List Int)), (0), (by first | rfl | (simp; done) | (simp [*]; done)), H', ⟨Nat.le_refl _⟩, ⟨by first | exact Kd.R_nil _ _ _ _ _ | exact Kd.N_nil _ _ _ _ _ | exact Kd.V_nil _ _ _ _ _ | exact Kd.Q_nil _ _ _ _ _ | exact Kd.S_nil _ _ _ _ _⟩, ⟨by (with_reducible repeat (first | apply Kd.R_alloc | apply Kd.R_drewN | apply Kd.R_drew)); exact HO_3.out⟩, ⟨by repeat (first | (with_reducible first | exact HB.out | apply below_alloc | apply pw_below_drewN | apply below_drew1) | exact HB.out)⟩⟩
              case round =>
                clear H'
                try clear c1
                try clear p1
                try clear q1
                try clear hx1
                try clear hf1
                try clear c2
                try clear p2
                try clear c3
                try clear c4
                try clear c4b0
                try clear c4b1
                try clear c5
                try clear c5b0
                try clear c5b1
                try clear p6
                try clear c8
                try clear c8b0
                try clear c9
                try clear c9b0
                try clear c10
                try clear c10b0
                try clear c11
                try clear c11b0
                try clear c12
                try clear c12b0
                try clear p13
                try clear q13
                try clear hx13
                try clear hf13
                try clear hx133_0
                try clear hx13_0
                try clear p13
                try clear p133
                try clear p2
                try clear q13
                try clear q133
                obtain ⟨x6_2, x27_2, rfl, HA, HK2, HO_6, HO_25, HB⟩ := hrel
                cases gk with
                | zero => exact absurd HA.out (by simp [trans_Image.l1])
                | succ k2 =>
                  have H := HA.out
                  clear HA
                  simp only [trans_Image.l1] at H
                  by_cases c17 : x27_2 < (x3_1.length : Int)
                  · rw [if_pos c17] at H
                    have c17b0 : decide (x27_2 < (x3_1.length : Int)) = true := decide_eq_true c17
                    clear c17
                    by_cases c18 : 0 ≤ x27_2
                    · rw [if_pos c18] at H
                      have c18b0 : decide (0 ≤ x27_2) = true := decide_eq_true c18
                      clear c18
                      by_cases c19 : x27_2 < (x3_1.length : Int)
                      · rw [if_pos c19] at H
                        have c19b0 : decide (x27_2 < (x3_1.length : Int)) = true := decide_eq_true c19
                        clear c19
                        obtain ⟨bq20, hbq20⟩ : ∃ b_ : Bool, b_ = (rdOf false x3_1 x27_2) := ⟨_, rfl⟩
                        replace H : (if bq20 = true then (if x6_2.length < 17592186044416 then (trans_Image.l1 k2 (x6_2 ++ [x27_2]) x3_1 (x3_1.length : Int) (wrap64 (x27_2 + 1))) else (none)) else (trans_Image.l1 k2 x6_2 x3_1 (x3_1.length : Int) (wrap64 (x27_2 + 1)))) = some r := by rw [← hbq20] at H; exact H
                        have Nbq20 := Aside0.mk hbq20
                        clear hbq20
                        by_cases c21 : bq20 = true
                        · subst c21
                          have H1 : (if x6_2.length < 17592186044416 then (trans_Image.l1 k2 (x6_2 ++ [x27_2]) x3_1 (x3_1.length : Int) (wrap64 (x27_2 + 1))) else (none)) = some r := by rw [if_pos rfl] at H; exact H
                          clear H
                          have H := H1
                          clear H1
                          by_cases c22 : x6_2.length < 17592186044416
                          · rw [if_pos c22] at H
                            have LMc22 := Aside0.mk c22
                            clear c22
                            obtain ⟨y136, hy136⟩ : ∃ y_ : List Int, y_ = (x6_2 ++ [x27_2]) := ⟨_, rfl⟩
                            replace H : (trans_Image.l1 k2 y136 x3_1 (x3_1.length : Int) (wrap64 (x27_2 + 1))) = some r := by first | (rw [hy136]; with_reducible exact H) | (have H2_ := (Option.bind_some _ _).symm.trans H; rw [hy136]; with_reducible exact H2_) | (have H2_ := (Option.bind_some _ _).symm.trans H; with_reducible exact H2_) | with_reducible exact H | (rw [hy136]; exact H) | exact H
                            have Ny136 := Aside0.mk hy136
                            clear hy136
                            have H' := Aside0.mk H
                            clear H
                            have p135 : 0 ≤ (x27_2 : Int) := of_decide_eq_true (by first | (with_reducible assumption) | assumption)
                            have q135 : x27_2 < (x3_1.length : Int) := of_decide_eq_true (by first | (with_reducible assumption) | assumption)
                            obtain ⟨ad135, e135, hx135_0⟩ := Kd.at_bool (Kd.R_reads' HO_25.out).2.2 x27_2 p135 q135
                            (try rw [← Nbq20.out] at hx135_0)
                            cases e135
                            replace p135 := eq_true p135
                            replace q135 := eq_true q135
                            go_wp2_with (first | ((with_reducible refine gate_builtin (b := .append) (xs := #[.tmp 33, .tmp 35]) rfl ?_); at_builtin; refine Kd.R_append (Kd.int .i64) (w0 := w) w.heap.size rfl (.tmp 33) (.tmp 35) 22 3 (.int .i64 0) 8 rfl Try.underlying22 info3 rfl (by decide) (by omega) u6 x6_2 x27_2 [.int .i64 x27_2] (fun _ => True) (fun _ => False) rfl rfl ?aP (fun _ hk => hk.elim) ?aF ?aO ?aB ?aS ?aL ?_; (case aP => exact rfl); (case aB => exact (by repeat (first | (with_reducible first | exact HB.out | apply below_alloc | apply pw_below_drewN | apply below_drew1) | exact HB.out))); (case aF => exact (fun _ _ => trivial)); (case aO => exact (by (with_reducible repeat (first | apply Kd.R_alloc | apply Kd.R_drewN | apply Kd.R_drew)); exact HO_6.out)); (case aS => exact (below_size (by repeat (first | (with_reducible first | exact HB.out | apply below_alloc | apply pw_below_drewN | apply below_drew1) | exact HB.out)))); (case aL => have := LMc22.out; omega); intro v137 w23 ho hb hg hat; rw [← Ny136.out] at ho; have n0_ := Aside0.mk (Kd.R_over' (by (with_reducible repeat (first | apply Kd.R_alloc | apply Kd.R_drewN | apply Kd.R_drew)); exact HO_25.out) (Kd.R_typed (by (with_reducible repeat (first | apply Kd.R_alloc | apply Kd.R_drewN | apply Kd.R_drew)); exact HO_6.out)) (by decide) hg); have n1_ := Aside0.mk (hb); have n2_ := Aside0.mk (ho); clear HO_25; clear HB; clear HO_6; have HO_25 := n0_; have HB := n1_; have HO138 := n2_; clear n0_ n1_ n2_; clear ho hb hg hat))
                            go_roundg k2
                            case measure => have := HK1.out; have := HK2.out; omega
                            case rel => exact ⟨(y136), (wrap64 (x27_2 + 1)), (by first | rfl | (simp; done) | (simp [*]; done)), H', ⟨by have := HK1.out; have := HK2.out; omega⟩, ⟨by (with_reducible repeat (first | apply Kd.R_alloc | apply Kd.R_drewN | apply Kd.R_drew)); exact HO138.out⟩, ⟨by (with_reducible repeat (first | apply Kd.R_alloc | apply Kd.R_drewN | apply Kd.R_drew)); exact HO_25.out⟩, ⟨by repeat (first | (with_reducible first | exact HB.out | apply below_alloc | apply pw_below_drewN | apply below_drew1) | exact HB.out)⟩⟩
                          · rw [if_neg c22] at H
                            exact absurd H (by simp)
                        · replace c21 := Bool.eq_false_iff.mpr c21
                          subst c21
                          have H1 : (trans_Image.l1 k2 x6_2 x3_1 (x3_1.length : Int) (wrap64 (x27_2 + 1))) = some r := by rw [if_neg (show ¬ (false = true) by decide)] at H; exact H
                          clear H
                          have H := H1
                          clear H1
                          have H' := Aside0.mk H
                          clear H
                          have p135 : 0 ≤ (x27_2 : Int) := of_decide_eq_true (by first | (with_reducible assumption) | assumption)
                          have q135 : x27_2 < (x3_1.length : Int) := of_decide_eq_true (by first | (with_reducible assumption) | assumption)
                          obtain ⟨ad135, e135, hx135_0⟩ := Kd.at_bool (Kd.R_reads' HO_25.out).2.2 x27_2 p135 q135
                          (try rw [← Nbq20.out] at hx135_0)
                          cases e135
                          replace p135 := eq_true p135
                          replace q135 := eq_true q135
                          go_wp2
                          go_roundg k2
                          case measure => have := HK1.out; have := HK2.out; omega
                          case rel => exact ⟨(x6_2), (wrap64 (x27_2 + 1)), (by first | rfl | (simp; done) | (simp [*]; done)), H', ⟨by have := HK1.out; have := HK2.out; omega⟩, ⟨by (with_reducible repeat (first | apply Kd.R_alloc | apply Kd.R_drewN | apply Kd.R_drew)); exact HO_6.out⟩, ⟨by (with_reducible repeat (first | apply Kd.R_alloc | apply Kd.R_drewN | apply Kd.R_drew)); exact HO_25.out⟩, ⟨by repeat (first | (with_reducible first | exact HB.out | apply below_alloc | apply pw_below_drewN | apply below_drew1) | exact HB.out)⟩⟩
                      · rw [if_neg c19] at H
                        exact absurd H (by simp)
                    · rw [if_neg c18] at H
                      exact absurd H (by simp)
                  · rw [if_neg c17] at H
                    have c17b0 : decide (x27_2 < (x3_1.length : Int)) = false := decide_eq_false c17
                    clear c17
                    obtain rfl := Option.some.inj H
                    go_wp2
                    go_ret
                    exact ⟨_, by first | rfl | (simp [errW_none, errW_some] <;> rfl) | (simp [*, errW_none, errW_some] <;> rfl), by (with_reducible repeat (first | apply Kd.R_alloc | apply Kd.R_drewN | apply Kd.R_drew)); exact HO_6.out, by repeat (first | (with_reducible first | exact HB.out | apply below_alloc | apply pw_below_drewN | apply below_drew1) | exact HB.out)⟩
      · rw [if_neg c5] at H
        exact absurd H (by simp)
    · rw [if_neg c4] at H
      exact absurd H (by simp)
  · replace c3 := Bool.eq_false_iff.mpr c3
    subst c3
    have H1 : (some ([] : List Int)) = some r := by rw [if_neg (show ¬ (false = true) by decide)] at H; exact H
    clear H
    have H := H1
    clear H1
    obtain rfl := Option.some.inj H
    go_enter Try.func34, Try.ntmps34
    go_wp2_with (first | ((with_reducible refine gate_callee (f := 25) rfl ?_); refine goesL_ (some 10) rfl rfl Try.func25 (by kernel_rfl) rfl #[.slice A0 l0.length c0] rfl (by (try simp only [List.map_toArray, List.map_cons, List.map_nil]); first | done | rfl | (simp only [List.length_drop, List.length_take]; rfl)) ?_; (with_reducible refine (trans_Valid.calls k _ _ l0 false _ ?side1 ?side2 A2.out).mono ?_); (case side1 => repeat (first | exact HR0.out | (with_reducible refine Kd.C_alloc ?_ _) | (with_reducible refine Kd.C_drewN ?_ _) | (with_reducible refine Kd.C_drew ?_))); (case side2 => exact HC0.out); rintro e w' ⟨rfl, ⟨nd, rfl⟩⟩; refine ⟨_, rfl, ?_⟩))
    go_ret
    exact ⟨_, by first | rfl | (simp [errW_none, errW_some] <;> rfl) | (simp [*, errW_none, errW_some] <;> rfl), by first | exact Kd.R_nil _ _ _ _ _ | exact Kd.N_nil _ _ _ _ _ | exact Kd.V_nil _ _ _ _ _ | exact Kd.Q_nil _ _ _ _ _ | exact Kd.S_nil _ _ _ _ _, by repeat (first | (with_reducible first | exact HB.out | apply below_alloc | apply pw_below_drewN | apply below_drew1) | exact HB.out)⟩

/-! ### trans_Rank: function 29 -/
def trans_Rank.f (k : Nat) (l0 : List Int) : Option (Int) := (trans_Image.f k l0).bind fun t139 => (some (t139.length : Int))
theorem trans_Rank.mono : ∀ a0 k, LeO (trans_Rank.f k a0) (trans_Rank.f (k + 1) a0) := by
  intro a0 k
  unfold trans_Rank.f
  repeat' first
      | (with_reducible exact trans_Image.mono _ _)
      | (with_reducible exact LeO.refl _)
      | (with_reducible exact LeO.none _)
      | (with_reducible refine LeO.ite ?_ ?_)
      | (with_reducible refine LeO.bind ?_ (fun _ => ?_))
      | exact trans_Image.mono _ _
      | exact LeO.none _
      | refine LeO.ite ?_ ?_
      | refine LeO.bind ?_ (fun _ => ?_)
set_option maxHeartbeats 8000000 in
set_option maxRecDepth 100000 in
theorem trans_Rank.calls (k : Nat) (A0 : Option Addr) (c0 : Nat) (l0 : List Int) (r : Int) (w : World) (hr0 : Kd.C (Kd.int .i64) w A0 l0.length l0) (hc0 : l0.length ≤ c0) (h : trans_Rank.f k l0 = some r) :
    Calls Try.prog 29 #[.slice A0 l0.length c0] w fun e w' => e = .returned (.int .i64 r) ∧ Below w.heap.size w w' := by
  have HR0 := Aside0.mk hr0
  have HC0 := Aside0.mk hc0
  clear hr0 hc0
  have HB := Aside0.mk (Below.refl w.heap.size w)
  have H : ((trans_Image.f k l0).bind fun t139 => (some (t139.length : Int))) = some r := h
  clear h
  replace H := Option.bind_eq_some_iff.mp H
  obtain ⟨t139, A20, H⟩ := H
  replace H : (some (t139.length : Int)) = some r := H
  have A2 := Aside0.mk A20
  clear A20
  obtain rfl := Option.some.inj H
  go_enter Try.func29, Try.ntmps29
  go_wp2_with (first | ((with_reducible refine gate_callee (f := 34) rfl ?_); refine goesL_ (some 4) rfl rfl Try.func34 (by kernel_rfl) rfl #[.slice A0 l0.length c0] rfl (by (try simp only [List.map_toArray, List.map_cons, List.map_nil]); first | done | rfl | (simp only [List.length_drop, List.length_take]; rfl)) ?_; (with_reducible refine (trans_Image.calls k _ _ l0 t139 _ ?side1 ?side2 A2.out).mono ?_); (case side1 => repeat (first | exact HR0.out | (with_reducible refine Kd.C_alloc ?_ _) | (with_reducible refine Kd.C_drewN ?_ _) | (with_reducible refine Kd.C_drew ?_))); (case side2 => exact HC0.out); rintro e w3 ⟨v140, rfl, ho0, hb⟩; refine ⟨_, rfl, ?_⟩; have n0_ := Aside0.mk (Kd.R_lower ho0 (below_size (by repeat (first | (with_reducible first | exact HB.out | apply below_alloc | apply pw_below_drewN | apply below_drew1) | exact HB.out)))); have n1_ := Aside0.mk (below_step (by repeat (first | (with_reducible first | exact HB.out | apply below_alloc | apply pw_below_drewN | apply below_drew1) | exact HB.out)) hb); clear HB; have HO141 := n0_; have HB := n1_; clear n0_ n1_; (try clear hb); (try clear hb2); (try clear hk); (try clear hi); (try clear ho0); obtain ⟨Ao4, co4, eo4⟩ := Kd.R_slice HO141.out; subst eo4))
  go_ret
  exact ⟨by first | rfl | (simp [errW_none, errW_some] <;> rfl) | (simp [*, errW_none, errW_some] <;> rfl), by repeat (first | (with_reducible first | exact HB.out | apply below_alloc | apply pw_below_drewN | apply below_drew1) | exact HB.out)⟩

/-! ### partition_Canonical: function 58 -/
def partition_Canonical.l0 : Nat → List Int → List Int → Int → Int → List (Int × Int) → Option (List Int)
  | 0, _, _, _, _, _ => none
  | k + 1, x4, x16, x17, x18, x143000 => if x18 < x17 then (if 0 ≤ x18 then (if x18 < (x16.length : Int) then (if (mhas x143000 (rd x16 x18) = true) then (if x18 < (x4.length : Int) then (partition_Canonical.l0 k (x4.set (x18 : Int).toNat (mgetD x143000 (rd x16 x18) 0)) x16 x17 (wrap64 (x18 + 1)) x143000) else (none)) else (if x18 < (x4.length : Int) then (partition_Canonical.l0 k (x4.set (x18 : Int).toNat (x143000.length : Int)) x16 x17 (wrap64 (x18 + 1)) (mput x143000 (rd x16 x18) (x143000.length : Int))) else (none))) else (none)) else (none)) else (some x4)
def partition_Canonical.f (k : Nat) (l0 : List Int) : Option (List Int) := if (l0.length : Int) > 4096 then (some ([] : List Int)) else (if 0 ≤ (l0.length : Int) then (if ((l0.length : Int) : Int).toNat ≤ 35184372088832 then (partition_Canonical.l0 k (List.replicate ((l0.length : Int) : Int).toNat 0) l0 (l0.length : Int) 0 ([] : List (Int × Int))) else (none)) else (none))
theorem partition_Canonical.mono_l : ∀ k, (∀ y0 y1 y2 y3 y4, LeO (partition_Canonical.l0 k y0 y1 y2 y3 y4) (partition_Canonical.l0 (k + 1) y0 y1 y2 y3 y4))
  | 0 => fun _ _ _ _ _ r h => by simp [partition_Canonical.l0] at h
  | k + 1 => by
    have ih0 := partition_Canonical.mono_l k
    · intro y0 y1 y2 y3 y4
      unfold partition_Canonical.l0
      repeat' first
      | (with_reducible exact ih0 _ _ _ _ _)
      | (with_reducible exact LeO.refl _)
      | (with_reducible exact LeO.none _)
      | (with_reducible refine LeO.ite ?_ ?_)
      | (with_reducible refine LeO.bind ?_ (fun _ => ?_))
      | exact ih0 _ _ _ _ _
      | exact LeO.none _
      | refine LeO.ite ?_ ?_
      | refine LeO.bind ?_ (fun _ => ?_)
theorem partition_Canonical.mono : ∀ a0 k, LeO (partition_Canonical.f k a0) (partition_Canonical.f (k + 1) a0) := by
  intro a0 k
  have ih0 := partition_Canonical.mono_l k
  unfold partition_Canonical.f
  repeat' first
      | (with_reducible exact ih0 _ _ _ _ _)
      | (with_reducible exact LeO.refl _)
      | (with_reducible exact LeO.none _)
      | (with_reducible refine LeO.ite ?_ ?_)
      | (with_reducible refine LeO.bind ?_ (fun _ => ?_))
      | exact ih0 _ _ _ _ _
      | exact LeO.none _
      | refine LeO.ite ?_ ?_
      | refine LeO.bind ?_ (fun _ => ?_)
set_option maxHeartbeats 8000000 in
set_option maxRecDepth 100000 in
theorem partition_Canonical.calls (k : Nat) (A0 : Option Addr) (c0 : Nat) (l0 : List Int) (r : List Int) (w : World) (hr0 : Kd.C (Kd.int .i64) w A0 l0.length l0) (hc0 : l0.length ≤ c0) (h : partition_Canonical.f k l0 = some r) :
    Calls Try.prog 58 #[.slice A0 l0.length c0] w fun e w' => ∃ v0_ : Value, e = .returned (v0_) ∧ Kd.R (Kd.int .i64) 3 w' w.heap.size (fun _ => True) v0_ r ∧ Below w.heap.size w w' := by
  have HR0 := Aside0.mk hr0
  have HC0 := Aside0.mk hc0
  clear hr0 hc0
  have HB := Aside0.mk (Below.refl w.heap.size w)
  have H : (if (l0.length : Int) > 4096 then (some ([] : List Int)) else (if 0 ≤ (l0.length : Int) then (if ((l0.length : Int) : Int).toNat ≤ 35184372088832 then (partition_Canonical.l0 k (List.replicate ((l0.length : Int) : Int).toNat 0) l0 (l0.length : Int) 0 ([] : List (Int × Int))) else (none)) else (none))) = some r := h
  clear h
  by_cases c2 : (l0.length : Int) > 4096
  · rw [if_pos c2] at H
    have c2b0 : decide (4096 < (l0.length : Int)) = true := decide_eq_true c2
    have c2b1 : decide (4096 < l0.length) = true := decide_eq_true (by omega)
    clear c2
    obtain rfl := Option.some.inj H
    go_enter Try.func58, Try.ntmps58
    go_wp2
    go_ret
    exact ⟨_, by first | rfl | (simp [errW_none, errW_some] <;> rfl) | (simp [*, errW_none, errW_some] <;> rfl), by first | exact Kd.R_nil _ _ _ _ _ | exact Kd.N_nil _ _ _ _ _ | exact Kd.V_nil _ _ _ _ _ | exact Kd.Q_nil _ _ _ _ _ | exact Kd.S_nil _ _ _ _ _, by repeat (first | (with_reducible first | exact HB.out | apply below_alloc | apply pw_below_drewN | apply below_drew1) | exact HB.out)⟩
  · rw [if_neg c2] at H
    have c2b0 : decide (4096 < (l0.length : Int)) = false := decide_eq_false c2
    have c2b1 : decide (4096 < l0.length) = false := decide_eq_false (by omega)
    clear c2
    by_cases c3 : 0 ≤ (l0.length : Int)
    · rw [if_pos c3] at H
      have c3b0 := eq_true c3
      have c3b1 : decide (0 ≤ (l0.length : Int)) = true := decide_eq_true c3
      clear c3
      by_cases c4 : ((l0.length : Int) : Int).toNat ≤ 35184372088832
      · rw [if_pos c4] at H
        have c4b0 := eq_true c4
        have c4b1 : decide (((l0.length : Int) : Int).toNat ≤ 35184372088832) = true := decide_eq_true c4
        clear c4
        obtain ⟨y143, hy143⟩ : ∃ y_ : List Int, y_ = (List.replicate ((l0.length : Int) : Int).toNat 0) := ⟨_, rfl⟩
        replace H : (partition_Canonical.l0 k y143 l0 (l0.length : Int) 0 ([] : List (Int × Int))) = some r := by first | (rw [hy143]; with_reducible exact H) | (have H2_ := (Option.bind_some _ _).symm.trans H; rw [hy143]; with_reducible exact H2_) | (have H2_ := (Option.bind_some _ _).symm.trans H; with_reducible exact H2_) | with_reducible exact H | (rw [hy143]; exact H) | exact H
        have Ny143 := Aside0.mk hy143
        clear hy143
        have H' := Aside0.mk H
        clear H
        go_enter Try.func58, Try.ntmps58
        go_wp2_with (first | ((with_reducible refine gate_dst (N := 12) rfl ?_); refine map_event rfl (N := 12) rfl 63 rfl (Value.int .i64) (Value.int .i64) ?_; intro gb142 hg w5 hbox hb; have n0_ := Aside0.mk (below_step (by repeat (first | (with_reducible first | exact HB.out | apply below_alloc | apply pw_below_drewN | apply below_drew1) | exact HB.out)) hb); have n1_ := Aside0.mk (hbox); have n2_ := Aside0.mk ((by rw [hg]; exact (below_size (by repeat (first | (with_reducible first | exact HB.out | apply below_alloc | apply pw_below_drewN | apply below_drew1) | exact HB.out))) : w.heap.size ≤ gb142)); have n3_ := Aside0.mk ((by rw [hg]; exact (below_size (by repeat (first | (with_reducible first | exact HB.out | apply below_alloc | apply pw_below_drewN | apply below_drew1) | exact HB.out))) : w.heap.size ≤ gb142)); clear HB; have HB := n0_; have BM142 := n1_; have GW142 := n2_; have GE142 := n3_; clear n0_ n1_ n2_ n3_; clear hb hbox hg) | ((with_reducible refine gate_dst (N := 15) rfl ?_); refine Kd.R_make (Kd.int .i64) _ 3 rfl (N := 15) rfl 22 _ _ rfl (l0.length : Int) rfl rfl Try.underlying22 (.int .i64 0) 8 info3 rfl (by decide) (by omega) 0 (ok := fun _ => True) (okp := fun _ => True) rfl (fun _ hk => hk) trivial (of_decide_eq_true (by first | (with_reducible assumption) | assumption)) (Nat.le_trans (Nat.mul_le_mul_right _ (of_decide_eq_true (by first | (with_reducible assumption) | assumption) : (l0.length : Int).toNat ≤ 35184372088832)) (by omega)) (Below.refl _ _) (Nat.le_refl _) ?_; intro v144 w6 ho7 hb hg_ hnew_; clear hg_ hnew_; (first | rw [← Ny143.out] at ho7 | (simp only [Int.reduceToNat] at ho7; rw [← Ny143.out] at ho7)); have n0_ := Aside0.mk (Kd.R_lower ho7 (below_size (by repeat (first | (with_reducible first | exact HB.out | apply below_alloc | apply pw_below_drewN | apply below_drew1 | refine below_set ?_ GE142.out) | exact HB.out)))); have n1_ := Aside0.mk (blk_below (g := gb142) (o := mobj (Value.int .i64) (Value.int .i64) ([] : List (Int × Int))) (by (with_reducible repeat (first | refine blk_drewN ?_ _ | refine blk_drew ?_ | refine blk_alloc ?_ _)); exact BM142.out) hb); have n2_ := Aside0.mk (below_step (by repeat (first | (with_reducible first | exact HB.out | apply below_alloc | apply pw_below_drewN | apply below_drew1 | refine below_set ?_ GE142.out) | exact HB.out)) hb); clear BM142; clear HB; have HO145 := n0_; have BM142 := n1_; have HB := n2_; clear n0_ n1_ n2_; clear hb ho7))
        go_loopg [18] k (fun kq v18 w' => ∃ (x4_1 : List Int) (x18_1 : Int) (x143000_1 : List (Int × Int)), v18 = .int .i64 x18_1 ∧ Aside0 (partition_Canonical.l0 kq x4_1 l0 (l0.length : Int) x18_1 x143000_1 = some r) ∧ Aside0 (kq ≤ k) ∧ Aside0 (Kd.R (Kd.int .i64) 3 w' w.heap.size (fun _ => True) v144 x4_1) ∧ Aside0 (w'.heap[gb142]? = some (mobj (Value.int .i64) (Value.int .i64) x143000_1)) ∧ Aside0 (Below w.heap.size w w'))
        case atStart => exact ⟨(y143), (0), (([] : List (Int × Int))), (by first | rfl | (simp; done) | (simp [*]; done)), H', ⟨Nat.le_refl _⟩, ⟨by (with_reducible repeat (first | apply Kd.R_alloc | apply Kd.R_drewN | apply Kd.R_drew)); exact HO145.out⟩, ⟨by (with_reducible repeat (first | refine blk_drewN ?_ _ | refine blk_drew ?_ | refine blk_alloc ?_ _)); exact BM142.out⟩, ⟨by repeat (first | (with_reducible first | exact HB.out | apply below_alloc | apply pw_below_drewN | apply below_drew1 | refine below_set ?_ GE142.out) | exact HB.out)⟩⟩
        case round =>
          clear H'
          try clear c2
          try clear c2b0
          try clear c2b1
          try clear p2
          try clear c3
          try clear c3b0
          try clear c3b1
          try clear c4
          try clear c4b0
          try clear c4b1
          try clear c5
          obtain ⟨x4_1, x18_1, x143000_1, rfl, HA, HK1, HO_4, BM142, HB⟩ := hrel
          cases gk with
          | zero => exact absurd HA.out (by simp [partition_Canonical.l0])
          | succ k1 =>
            have H := HA.out
            clear HA
            simp only [partition_Canonical.l0] at H
            by_cases c8 : x18_1 < (l0.length : Int)
            · rw [if_pos c8] at H
              have c8b0 : decide (x18_1 < (l0.length : Int)) = true := decide_eq_true c8
              clear c8
              by_cases c9 : 0 ≤ x18_1
              · rw [if_pos c9] at H
                have c9b0 : decide (0 ≤ x18_1) = true := decide_eq_true c9
                clear c9
                by_cases c10 : x18_1 < (l0.length : Int)
                · rw [if_pos c10] at H
                  have c10b0 : decide (x18_1 < (l0.length : Int)) = true := decide_eq_true c10
                  clear c10
                  by_cases c11 : (mhas x143000_1 (rd l0 x18_1) = true)
                  · rw [if_pos c11] at H
                    have c11b0 : mhas x143000_1 (rd l0 x18_1) = true := c11
                    clear c11
                    by_cases c12 : x18_1 < (x4_1.length : Int)
                    · rw [if_pos c12] at H
                      have c12b0 : decide (x18_1 < (x4_1.length : Int)) = true := decide_eq_true c12
                      clear c12
                      obtain ⟨y147, hy147⟩ : ∃ y_ : List Int, y_ = (x4_1.set (x18_1 : Int).toNat (mgetD x143000_1 (rd l0 x18_1) 0)) := ⟨_, rfl⟩
                      replace H : (partition_Canonical.l0 k1 y147 l0 (l0.length : Int) (wrap64 (x18_1 + 1)) x143000_1) = some r := by first | (rw [hy147]; with_reducible exact H) | (have H2_ := (Option.bind_some _ _).symm.trans H; rw [hy147]; with_reducible exact H2_) | (have H2_ := (Option.bind_some _ _).symm.trans H; with_reducible exact H2_) | with_reducible exact H | (rw [hy147]; exact H) | exact H
                      have Ny147 := Aside0.mk hy147
                      clear hy147
                      have H' := Aside0.mk H
                      clear H
                      have p146 : 0 ≤ (x18_1 : Int) := of_decide_eq_true (by first | (with_reducible assumption) | assumption)
                      have q146 : x18_1 < (l0.length : Int) := of_decide_eq_true (by first | (with_reducible assumption) | assumption)
                      obtain ⟨ad146, e146, hx146_0⟩ := Kd.at_int HR0.out x18_1 p146 q146
                      cases e146
                      replace hx146_0 := (HB.out.cell (World.block_lt_of_cell? w _ hx146_0)).trans hx146_0
                      replace p146 := eq_true p146
                      replace q146 := eq_true q146
                      go_wp2_with (first | ((with_reducible refine gate_dst (N := 26) rfl ?_); refine lookok_event (ve := (Value.int .i64)) rfl (N := 26) rfl (mt := 63) (et := 3) rfl (KeyOk.int Try.underlying3) Try.underlying63 0 (by kernel_rfl) x143000_1 (g := gb142) (show _ = some (mobj (Value.int .i64) (Value.int .i64) x143000_1) from by (with_reducible repeat (first | refine blk_drewN ?_ _ | refine blk_drew ?_ | refine blk_alloc ?_ _)); exact BM142.out) (rd l0 x18_1) ?hm ?hx ?_; (case hm => first | rfl | (go_simp; done) | (go_simp; rfl)); (case hx => first | rfl | (go_simp; done) | (go_simp; rfl)); have p13 : 0 ≤ (x18_1 : Int) := of_decide_eq_true (by first | (with_reducible assumption) | assumption); have q13 : (x18_1 : Int) < ((x4_1.length : Int) : Int) := of_decide_eq_true (by first | (with_reducible assumption) | assumption); obtain ⟨go13, co13, eo13, gb13, gl13, cl13, HG13⟩ := Kd.R_form HO_4.out (by omega); (first | cases eo13 | (injection eo13 with ea_ en_ ec_; (first | subst ea_ | (injection ea_ with ea_; subst ea_)); subst ec_; clear en_)); have GB13 := Aside0.mk gb13; have GG13 := Aside0.mk HG13; clear gb13 gl13 HG13; obtain ⟨hx13_0, hf13_0⟩ := Kd.R_celln 0 HO_4.out (x18_1 : Int) p13 q13; replace p13 := eq_true p13; replace q13 := eq_true q13; obtain ⟨hy14_, hz14_⟩ := Kd.R_celln 0 HO_4.out (x18_1 : Int) (of_decide_eq_true (by first | (with_reducible assumption) | assumption)) (of_decide_eq_true (by first | (with_reducible assumption) | assumption)); have HP14 := Kd.R_putg HO_4.out (x18_1 : Int) (mgetD x143000_1 (rd l0 x18_1) 0)) | ((with_reducible refine gate_store (t := 3) (p := 39) rfl ?_); refine store_event (t := 3) (p := 39) (v := ?vo_w15) (w1 := (wr.setCell ⟨go13, (x18_1 : Int).toNat, none⟩ (.int .i64 (mgetD x143000_1 (rd l0 x18_1) 0)))) ?hg ?ho ?hn ?hr ?_; (case ho => rfl); (case hg => rfl); (case hn => rfl); (case hr => first | (go_simp; done) | (go_simp; rfl)); intro w15 hw; have hg : wr.grownBy w15 (some go13) := (by rw [hw]; exact HP14.2); have hp_ : Kd.R (Kd.int .i64) 3 w15 w.heap.size (fun _ => True) (.slice (some ⟨go13, 0, none⟩) x4_1.length co13) y147 := (by rw [hw, Ny147.out]; exact HP14.1); clear HP14; have n0_ := Aside0.mk (hp_); have n1_ := Aside0.mk (blk_grown (g := gb142) (o := mobj (Value.int .i64) (Value.int .i64) x143000_1) (by (with_reducible repeat (first | refine blk_drewN ?_ _ | refine blk_drew ?_ | refine blk_alloc ?_ _)); exact BM142.out) hg (R_neO HO_4.out BM142.out (mobj_no _ _ _))); have n2_ := Aside0.mk ((by rw [hw]; exact below_set (HB.out) GB13.out : Below w.heap.size w w15)); clear HO_4; clear BM142; clear HB; have HO_4 := n0_; have BM142 := n1_; have HB := n2_; clear n0_ n1_ n2_; clear hg hw hp_))
                      go_roundg k1
                      case measure => have := HK1.out; omega
                      case rel => exact ⟨(y147), (wrap64 (x18_1 + 1)), (x143000_1), (by first | rfl | (simp; done) | (simp [*]; done)), H', ⟨by have := HK1.out; omega⟩, ⟨by (with_reducible repeat (first | apply Kd.R_alloc | apply Kd.R_drewN | apply Kd.R_drew)); exact HO_4.out⟩, ⟨by (with_reducible repeat (first | refine blk_drewN ?_ _ | refine blk_drew ?_ | refine blk_alloc ?_ _)); exact BM142.out⟩, ⟨by repeat (first | (with_reducible first | exact HB.out | apply below_alloc | apply pw_below_drewN | apply below_drew1 | refine below_set ?_ GE142.out) | exact HB.out)⟩⟩
                    · rw [if_neg c12] at H
                      exact absurd H (by simp)
                  · rw [if_neg c11] at H
                    have c11b0 : mhas x143000_1 (rd l0 x18_1) = false := by simpa using c11
                    clear c11
                    by_cases c16 : x18_1 < (x4_1.length : Int)
                    · rw [if_pos c16] at H
                      have c16b0 : decide (x18_1 < (x4_1.length : Int)) = true := decide_eq_true c16
                      clear c16
                      obtain ⟨y148, hy148⟩ : ∃ y_ : List Int, y_ = (x4_1.set (x18_1 : Int).toNat (x143000_1.length : Int)) := ⟨_, rfl⟩
                      replace H : (partition_Canonical.l0 k1 y148 l0 (l0.length : Int) (wrap64 (x18_1 + 1)) (mput x143000_1 (rd l0 x18_1) (x143000_1.length : Int))) = some r := by first | (rw [hy148]; with_reducible exact H) | (have H2_ := (Option.bind_some _ _).symm.trans H; rw [hy148]; with_reducible exact H2_) | (have H2_ := (Option.bind_some _ _).symm.trans H; with_reducible exact H2_) | with_reducible exact H | (rw [hy148]; exact H) | exact H
                      have Ny148 := Aside0.mk hy148
                      clear hy148
                      have H' := Aside0.mk H
                      clear H
                      have p146 : 0 ≤ (x18_1 : Int) := of_decide_eq_true (by first | (with_reducible assumption) | assumption)
                      have q146 : x18_1 < (l0.length : Int) := of_decide_eq_true (by first | (with_reducible assumption) | assumption)
                      obtain ⟨ad146, e146, hx146_0⟩ := Kd.at_int HR0.out x18_1 p146 q146
                      cases e146
                      replace hx146_0 := (HB.out.cell (World.block_lt_of_cell? w _ hx146_0)).trans hx146_0
                      replace p146 := eq_true p146
                      replace q146 := eq_true q146
                      go_wp2_with (first | ((with_reducible refine gate_dst (N := 26) rfl ?_); refine lookok_event (ve := (Value.int .i64)) rfl (N := 26) rfl (mt := 63) (et := 3) rfl (KeyOk.int Try.underlying3) Try.underlying63 0 (by kernel_rfl) x143000_1 (g := gb142) (show _ = some (mobj (Value.int .i64) (Value.int .i64) x143000_1) from by (with_reducible repeat (first | refine blk_drewN ?_ _ | refine blk_drew ?_ | refine blk_alloc ?_ _)); exact BM142.out) (rd l0 x18_1) ?hm ?hx ?_; (case hm => first | rfl | (go_simp; done) | (go_simp; rfl)); (case hx => first | rfl | (go_simp; done) | (go_simp; rfl))) | ((with_reducible refine gate_dst (N := 32) rfl ?_); refine mlen_event (ke := (Value.int .i64)) (ve := (Value.int .i64)) rfl (N := 32) rfl (mt := 63) rfl Try.underlying63 x143000_1 (g := gb142) (show _ = some (mobj (Value.int .i64) (Value.int .i64) x143000_1) from by (with_reducible repeat (first | refine blk_drewN ?_ _ | refine blk_drew ?_ | refine blk_alloc ?_ _)); exact BM142.out) ?hm ?_; (case hm => first | rfl | (go_simp; done) | (go_simp; rfl))) | ((with_reducible refine gate_mput (t := 63) (m := 33) rfl ?_); refine mput_event (ve := (Value.int .i64)) rfl (mt := 63) rfl rfl (KeyOk.int Try.underlying3) Try.underlying63 x143000_1 (g := gb142) (show _ = some (mobj (Value.int .i64) (Value.int .i64) x143000_1) from by (with_reducible repeat (first | refine blk_drewN ?_ _ | refine blk_drew ?_ | refine blk_alloc ?_ _)); exact BM142.out) (rd l0 x18_1) (x143000_1.length : Int) ?hm ?hx ?hy ?_; (case hm => first | rfl | (go_simp; done) | (go_simp; rfl)); (case hx => first | rfl | (go_simp; done) | (go_simp; rfl)); (case hy => first | rfl | (go_simp; done) | (go_simp; rfl)); intro w18 hbn hg; have n0_ := Aside0.mk (R_overO (by (with_reducible repeat (first | apply Kd.R_alloc | apply Kd.R_drewN | apply Kd.R_drew)); exact HO_4.out) ((show _ = some (mobj (Value.int .i64) (Value.int .i64) x143000_1) from by (with_reducible repeat (first | refine blk_drewN ?_ _ | refine blk_drew ?_ | refine blk_alloc ?_ _)); exact BM142.out)) (mobj_no _ _ _) hg); have n1_ := Aside0.mk (hbn); have n2_ := Aside0.mk (below_grown (by repeat (first | (with_reducible first | exact HB.out | apply below_alloc | apply pw_below_drewN | apply below_drew1 | refine below_set ?_ GE142.out) | exact HB.out)) GW142.out (show _ = some (mobj (Value.int .i64) (Value.int .i64) x143000_1) from by (with_reducible repeat (first | refine blk_drewN ?_ _ | refine blk_drew ?_ | refine blk_alloc ?_ _)); exact BM142.out) hg); clear HO_4; clear BM142; clear HB; have HO_4 := n0_; have BM142 := n1_; have HB := n2_; clear n0_ n1_ n2_; clear hg hbn; have p17 : 0 ≤ (x18_1 : Int) := of_decide_eq_true (by first | (with_reducible assumption) | assumption); have q17 : (x18_1 : Int) < ((x4_1.length : Int) : Int) := of_decide_eq_true (by first | (with_reducible assumption) | assumption); obtain ⟨go17, co17, eo17, gb17, gl17, cl17, HG17⟩ := Kd.R_form HO_4.out (by omega); (first | cases eo17 | (injection eo17 with ea_ en_ ec_; (first | subst ea_ | (injection ea_ with ea_; subst ea_)); subst ec_; clear en_)); have GB17 := Aside0.mk gb17; have GG17 := Aside0.mk HG17; clear gb17 gl17 HG17; obtain ⟨hx17_0, hf17_0⟩ := Kd.R_celln 0 HO_4.out (x18_1 : Int) p17 q17; replace p17 := eq_true p17; replace q17 := eq_true q17; obtain ⟨hy19_, hz19_⟩ := Kd.R_celln 0 HO_4.out (x18_1 : Int) (of_decide_eq_true (by first | (with_reducible assumption) | assumption)) (of_decide_eq_true (by first | (with_reducible assumption) | assumption)); have HP19 := Kd.R_putg HO_4.out (x18_1 : Int) (x143000_1.length : Int)) | ((with_reducible refine gate_store (t := 3) (p := 39) rfl ?_); refine store_event (t := 3) (p := 39) (v := ?vo_w20) (w1 := (w18.setCell ⟨go17, (x18_1 : Int).toNat, none⟩ (.int .i64 (x143000_1.length : Int)))) ?hg ?ho ?hn ?hr ?_; (case ho => rfl); (case hg => rfl); (case hn => rfl); (case hr => first | (go_simp; done) | (go_simp; rfl)); intro w20 hw; have hg : w18.grownBy w20 (some go17) := (by rw [hw]; exact HP19.2); have hp_ : Kd.R (Kd.int .i64) 3 w20 w.heap.size (fun _ => True) (.slice (some ⟨go17, 0, none⟩) x4_1.length co17) y148 := (by rw [hw, Ny148.out]; exact HP19.1); clear HP19; have n0_ := Aside0.mk (hp_); have n1_ := Aside0.mk (blk_grown (g := gb142) (o := mobj (Value.int .i64) (Value.int .i64) (mput x143000_1 (rd l0 x18_1) (x143000_1.length : Int))) (by (with_reducible repeat (first | refine blk_drewN ?_ _ | refine blk_drew ?_ | refine blk_alloc ?_ _)); exact BM142.out) hg (R_neO HO_4.out BM142.out (mobj_no _ _ _))); have n2_ := Aside0.mk ((by rw [hw]; exact below_set (HB.out) GB17.out : Below w.heap.size w w20)); clear HO_4; clear BM142; clear HB; have HO_4 := n0_; have BM142 := n1_; have HB := n2_; clear n0_ n1_ n2_; clear hg hw hp_))
                      go_roundg k1
                      case measure => have := HK1.out; omega
                      case rel => exact ⟨(y148), (wrap64 (x18_1 + 1)), (mput x143000_1 (rd l0 x18_1) (x143000_1.length : Int)), (by first | rfl | (simp; done) | (simp [*]; done)), H', ⟨by have := HK1.out; omega⟩, ⟨by (with_reducible repeat (first | apply Kd.R_alloc | apply Kd.R_drewN | apply Kd.R_drew)); exact HO_4.out⟩, ⟨by (with_reducible repeat (first | refine blk_drewN ?_ _ | refine blk_drew ?_ | refine blk_alloc ?_ _)); exact BM142.out⟩, ⟨by repeat (first | (with_reducible first | exact HB.out | apply below_alloc | apply pw_below_drewN | apply below_drew1 | refine below_set ?_ GE142.out) | exact HB.out)⟩⟩
                    · rw [if_neg c16] at H
                      exact absurd H (by simp)
                · rw [if_neg c10] at H
                  exact absurd H (by simp)
              · rw [if_neg c9] at H
                exact absurd H (by simp)
            · rw [if_neg c8] at H
              have c8b0 : decide (x18_1 < (l0.length : Int)) = false := decide_eq_false c8
              clear c8
              obtain rfl := Option.some.inj H
              go_wp2
              go_ret
              exact ⟨_, by first | rfl | (simp [errW_none, errW_some] <;> rfl) | (simp [*, errW_none, errW_some] <;> rfl), by (with_reducible repeat (first | apply Kd.R_alloc | apply Kd.R_drewN | apply Kd.R_drew)); exact HO_4.out, by repeat (first | (with_reducible first | exact HB.out | apply below_alloc | apply pw_below_drewN | apply below_drew1 | refine below_set ?_ GE142.out) | exact HB.out)⟩
      · rw [if_neg c4] at H
        exact absurd H (by simp)
    · rw [if_neg c3] at H
      exact absurd H (by simp)

/-! ### trans_Kernel: function 35 -/
def trans_Kernel.f (k : Nat) (l0 : List Int) : Option (List Int) := (trans_Valid.f k l0).bind fun t149 => (if t149 = true then ((partition_Canonical.f k l0).bind fun t150 => (some t150)) else (some ([] : List Int)))
theorem trans_Kernel.mono : ∀ a0 k, LeO (trans_Kernel.f k a0) (trans_Kernel.f (k + 1) a0) := by
  intro a0 k
  unfold trans_Kernel.f
  repeat' first
      | (with_reducible exact partition_Canonical.mono _ _)
      | (with_reducible exact trans_Valid.mono _ _)
      | (with_reducible exact LeO.refl _)
      | (with_reducible exact LeO.none _)
      | (with_reducible refine LeO.ite ?_ ?_)
      | (with_reducible refine LeO.bind ?_ (fun _ => ?_))
      | exact partition_Canonical.mono _ _
      | exact trans_Valid.mono _ _
      | exact LeO.none _
      | refine LeO.ite ?_ ?_
      | refine LeO.bind ?_ (fun _ => ?_)
set_option maxHeartbeats 8000000 in
set_option maxRecDepth 100000 in
theorem trans_Kernel.calls (k : Nat) (A0 : Option Addr) (c0 : Nat) (l0 : List Int) (r : List Int) (w : World) (hr0 : Kd.C (Kd.int .i64) w A0 l0.length l0) (hc0 : l0.length ≤ c0) (h : trans_Kernel.f k l0 = some r) :
    Calls Try.prog 35 #[.slice A0 l0.length c0] w fun e w' => ∃ v0_ : Value, e = .returned (v0_) ∧ Kd.R (Kd.int .i64) 3 w' w.heap.size (fun _ => True) v0_ r ∧ Below w.heap.size w w' := by
  have HR0 := Aside0.mk hr0
  have HC0 := Aside0.mk hc0
  clear hr0 hc0
  have HB := Aside0.mk (Below.refl w.heap.size w)
  have H : ((trans_Valid.f k l0).bind fun t149 => (if t149 = true then ((partition_Canonical.f k l0).bind fun t150 => (some t150)) else (some ([] : List Int)))) = some r := h
  clear h
  replace H := Option.bind_eq_some_iff.mp H
  obtain ⟨t149, A20, H⟩ := H
  replace H : (if t149 = true then ((partition_Canonical.f k l0).bind fun t150 => (some t150)) else (some ([] : List Int))) = some r := H
  have A2 := Aside0.mk A20
  clear A20
  by_cases c3 : t149 = true
  · subst c3
    have H1 : ((partition_Canonical.f k l0).bind fun t150 => (some t150)) = some r := by rw [if_pos rfl] at H; exact H
    clear H
    have H := H1
    clear H1
    replace H := Option.bind_eq_some_iff.mp H
    obtain ⟨t150, A40, H⟩ := H
    replace H : (some t150) = some r := H
    have A4 := Aside0.mk A40
    clear A40
    obtain rfl := Option.some.inj H
    go_enter Try.func35, Try.ntmps35
    go_wp2_with (first | ((with_reducible refine gate_callee (f := 25) rfl ?_); refine goesL_ (some 4) rfl rfl Try.func25 (by kernel_rfl) rfl #[.slice A0 l0.length c0] rfl (by (try simp only [List.map_toArray, List.map_cons, List.map_nil]); first | done | rfl | (simp only [List.length_drop, List.length_take]; rfl)) ?_; (with_reducible refine (trans_Valid.calls k _ _ l0 true _ ?side1 ?side2 A2.out).mono ?_); (case side1 => repeat (first | exact HR0.out | (with_reducible refine Kd.C_alloc ?_ _) | (with_reducible refine Kd.C_drewN ?_ _) | (with_reducible refine Kd.C_drew ?_))); (case side2 => exact HC0.out); rintro e w' ⟨rfl, ⟨nd, rfl⟩⟩; refine ⟨_, rfl, ?_⟩) | ((with_reducible refine gate_callee (f := 58) rfl ?_); refine goesL_ (some 7) rfl rfl Try.func58 (by kernel_rfl) rfl #[.slice A0 l0.length c0] rfl (by (try simp only [List.map_toArray, List.map_cons, List.map_nil]); first | done | rfl | (simp only [List.length_drop, List.length_take]; rfl)) ?_; (with_reducible refine (partition_Canonical.calls k _ _ l0 t150 _ ?side1 ?side2 A4.out).mono ?_); (case side1 => repeat (first | exact HR0.out | (with_reducible refine Kd.C_alloc ?_ _) | (with_reducible refine Kd.C_drewN ?_ _) | (with_reducible refine Kd.C_drew ?_))); (case side2 => exact HC0.out); rintro e w5 ⟨v151, rfl, ho0, hb⟩; refine ⟨_, rfl, ?_⟩; have n0_ := Aside0.mk (Kd.R_lower ho0 (below_size (by repeat (first | (with_reducible first | exact HB.out | apply below_alloc | apply pw_below_drewN | apply below_drew1) | exact HB.out)))); have n1_ := Aside0.mk (below_step (by repeat (first | (with_reducible first | exact HB.out | apply below_alloc | apply pw_below_drewN | apply below_drew1) | exact HB.out)) hb); clear HB; have HO152 := n0_; have HB := n1_; clear n0_ n1_; (try clear hb); (try clear hb2); (try clear hk); (try clear hi); (try clear ho0)))
    go_ret
    exact ⟨_, by first | rfl | (simp [errW_none, errW_some] <;> rfl) | (simp [*, errW_none, errW_some] <;> rfl), by (with_reducible repeat (first | apply Kd.R_alloc | apply Kd.R_drewN | apply Kd.R_drew)); exact HO152.out, by repeat (first | (with_reducible first | exact HB.out | apply below_alloc | apply pw_below_drewN | apply below_drew1) | exact HB.out)⟩
  · replace c3 := Bool.eq_false_iff.mpr c3
    subst c3
    have H1 : (some ([] : List Int)) = some r := by rw [if_neg (show ¬ (false = true) by decide)] at H; exact H
    clear H
    have H := H1
    clear H1
    obtain rfl := Option.some.inj H
    go_enter Try.func35, Try.ntmps35
    go_wp2_with (first | ((with_reducible refine gate_callee (f := 25) rfl ?_); refine goesL_ (some 4) rfl rfl Try.func25 (by kernel_rfl) rfl #[.slice A0 l0.length c0] rfl (by (try simp only [List.map_toArray, List.map_cons, List.map_nil]); first | done | rfl | (simp only [List.length_drop, List.length_take]; rfl)) ?_; (with_reducible refine (trans_Valid.calls k _ _ l0 false _ ?side1 ?side2 A2.out).mono ?_); (case side1 => repeat (first | exact HR0.out | (with_reducible refine Kd.C_alloc ?_ _) | (with_reducible refine Kd.C_drewN ?_ _) | (with_reducible refine Kd.C_drew ?_))); (case side2 => exact HC0.out); rintro e w' ⟨rfl, ⟨nd, rfl⟩⟩; refine ⟨_, rfl, ?_⟩))
    go_ret
    exact ⟨_, by first | rfl | (simp [errW_none, errW_some] <;> rfl) | (simp [*, errW_none, errW_some] <;> rfl), by first | exact Kd.R_nil _ _ _ _ _ | exact Kd.N_nil _ _ _ _ _ | exact Kd.V_nil _ _ _ _ _ | exact Kd.Q_nil _ _ _ _ _ | exact Kd.S_nil _ _ _ _ _, by repeat (first | (with_reducible first | exact HB.out | apply below_alloc | apply pw_below_drewN | apply below_drew1) | exact HB.out)⟩

end Go.Proofs.Ytimepajbnongoaa.PTransShapes
