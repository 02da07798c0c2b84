/- What the kit's print wrote for these functions, taken together by wip/pick.py: each function's Lean function and that the Go code comes to it. -/
import Derived.Test.YtjppanekddljbaaA0
namespace Go.Proofs.Ytjppanekddljbaa.Pr
open Go.RowKit Go.Proofs.YtjppanekddljbaaW.PrintWords Go.Proofs.YtjppanekddljbaaW.PrintLast Go.Proofs.YtjppanekddljbaaW.PrintMore
attribute [local go_sem] max2_int min2_int max_two min_two max_three min_three max_four min_four
set_option linter.unusedVariables false
set_option linter.unusedSimpArgs false

/-! ### sibylref01_Same: function 36 -/
def sibylref01_Same.l0 : Nat → List Int → List Int → Int → Option (Bool)
  | 0, _, _, _ => none
  | k + 1, x0, x1, x5 => if x5 < (x0.length : Int) then (if 0 ≤ x5 then (if x5 < (x1.length : Int) then (if (rd x0 x5) = (rd x1 x5) then (sibylref01_Same.l0 k x0 x1 (wrap64 (x5 + 1))) else (some false)) else (none)) else (none)) else (some true)
def sibylref01_Same.f (k : Nat) (l0 : List Int) (l1 : List Int) : Option (Bool) := if (l0.length : Int) = (l1.length : Int) then (sibylref01_Same.l0 k l0 l1 0) else (some false)
theorem sibylref01_Same.mono_l : ∀ k, (∀ y0 y1 y2, LeO (sibylref01_Same.l0 k y0 y1 y2) (sibylref01_Same.l0 (k + 1) y0 y1 y2))
  | 0 => fun _ _ _ r h => by simp [sibylref01_Same.l0] at h
  | k + 1 => by
    have ih0 := sibylref01_Same.mono_l k
    · intro y0 y1 y2
      unfold sibylref01_Same.l0
      repeat' first
      | (with_reducible exact ih0 _ _ _)
      | (with_reducible exact LeO.refl _)
      | (with_reducible exact LeO.none _)
      | (with_reducible refine LeO.ite ?_ ?_)
      | (with_reducible refine LeO.bind ?_ (fun _ => ?_))
      | exact ih0 _ _ _
      | exact LeO.none _
      | refine LeO.ite ?_ ?_
      | refine LeO.bind ?_ (fun _ => ?_)
theorem sibylref01_Same.mono : ∀ a0 a1 k, LeO (sibylref01_Same.f k a0 a1) (sibylref01_Same.f (k + 1) a0 a1) := by
  intro a0 a1 k
  have ih0 := sibylref01_Same.mono_l k
  unfold sibylref01_Same.f
  repeat' first
      | (with_reducible exact ih0 _ _ _)
      | (with_reducible exact LeO.refl _)
      | (with_reducible exact LeO.none _)
      | (with_reducible refine LeO.ite ?_ ?_)
      | (with_reducible refine LeO.bind ?_ (fun _ => ?_))
      | exact ih0 _ _ _
      | exact LeO.none _
      | refine LeO.ite ?_ ?_
      | refine LeO.bind ?_ (fun _ => ?_)
set_option maxHeartbeats 8000000 in
set_option maxRecDepth 100000 in
theorem sibylref01_Same.calls (k : Nat) (A0 : Option Addr) (c0 : Nat) (l0 : List Int) (A1 : Option Addr) (c1 : Nat) (l1 : List Int) (r : Bool) (w : World) (hr0 : Kd.C (Kd.int .u32) w A0 l0.length l0) (hc0 : l0.length ≤ c0) (hr1 : Kd.C (Kd.int .u32) w A1 l1.length l1) (hc1 : l1.length ≤ c1) (h : sibylref01_Same.f k l0 l1 = some r) :
    Calls Try.prog 36 #[.slice A0 l0.length c0, .slice A1 l1.length c1] w fun e w' => e = .returned (.bool r) ∧ Drawn0 w w' := by
  have HR0 := Aside0.mk hr0
  have HC0 := Aside0.mk hc0
  clear hr0 hc0
  have HR1 := Aside0.mk hr1
  have HC1 := Aside0.mk hc1
  clear hr1 hc1
  have H : (if (l0.length : Int) = (l1.length : Int) then (sibylref01_Same.l0 k l0 l1 0) else (some false)) = some r := h
  clear h
  by_cases c3 : (l0.length : Int) = (l1.length : Int)
  · rw [if_pos c3] at H
    have c3b0 : ((l0.length : Int) == (l1.length : Int)) = true := beq_iff_eq.mpr c3
    have c3b1 : ((l0.length : Int) != (l1.length : Int)) = false := bne_eq_false_iff_eq.mpr c3
    have c3b2 : (l0.length == l1.length) = true := by first | simpa using c3 | (simp at c3 ⊢; omega)
    clear c3
    have H' := Aside0.mk H
    clear H
    go_enter Try.func36, Try.ntmps36
    go_wp2
    repeat (go_quiet (fail); try go_wp2)
    go_loopg [5] k (fun kq v5 w' => ∃ (x5_1 : Int), v5 = .int .i64 x5_1 ∧ Aside0 (sibylref01_Same.l0 kq l0 l1 x5_1 = some r) ∧ Aside0 (kq ≤ k) ∧ Drawn0 w w')
    case atStart => exact ⟨(0), (by first | rfl | (simp; done) | (simp [*]; done)), H', ⟨Nat.le_refl _⟩, by repeat (first | exact Drawn0.refl _ | apply Drawn0.step)⟩
    case round =>
      clear H'
      try clear c1
      try clear p2
      try clear c3
      try clear c3b0
      try clear c3b1
      try clear c3b2
      obtain ⟨x5_1, rfl, HA, HK1, ⟨m1, rfl⟩⟩ := hrel
      cases gk with
      | zero => exact absurd HA.out (by simp [sibylref01_Same.l0])
      | succ k1 =>
        have H := HA.out
        clear HA
        simp only [sibylref01_Same.l0] at H
        by_cases c4 : x5_1 < (l0.length : Int)
        · rw [if_pos c4] at H
          have c4b0 : decide (x5_1 < (l0.length : Int)) = true := decide_eq_true c4
          clear c4
          by_cases c5 : 0 ≤ x5_1
          · rw [if_pos c5] at H
            have c5b0 : decide (0 ≤ x5_1) = true := decide_eq_true c5
            clear c5
            by_cases c6 : x5_1 < (l1.length : Int)
            · rw [if_pos c6] at H
              have c6b0 : decide (x5_1 < (l1.length : Int)) = true := decide_eq_true c6
              clear c6
              by_cases c7 : (rd l0 x5_1) = (rd l1 x5_1)
              · rw [if_pos c7] at H
                have c7b0 : ((rd l0 x5_1) == (rd l1 x5_1)) = true := beq_iff_eq.mpr c7
                have c7b1 : ((rd l0 x5_1) != (rd l1 x5_1)) = false := bne_eq_false_iff_eq.mpr c7
                clear c7
                have H' := Aside0.mk H
                clear H
                have p217 : 0 ≤ (x5_1 : Int) := of_decide_eq_true (by first | (with_reducible assumption) | assumption)
                have q217 : x5_1 < (l0.length : Int) := of_decide_eq_true (by first | (with_reducible assumption) | assumption)
                obtain ⟨ad217, e217, hx217_0⟩ := Kd.at_int HR0.out x5_1 p217 q217
                cases e217
                replace p217 := eq_true p217
                replace q217 := eq_true q217
                have p218 : 0 ≤ (x5_1 : Int) := of_decide_eq_true (by first | (with_reducible assumption) | assumption)
                have q218 : x5_1 < (l1.length : Int) := of_decide_eq_true (by first | (with_reducible assumption) | assumption)
                obtain ⟨ad218, e218, hx218_0⟩ := Kd.at_int HR1.out x5_1 p218 q218
                cases e218
                replace p218 := eq_true p218
                replace q218 := eq_true q218
                go_wp2
                repeat (go_quiet (fail); try go_wp2)
                go_roundg k1
                case measure => have := HK1.out; omega
                case rel => exact ⟨(wrap64 (x5_1 + 1)), (by first | rfl | (simp; done) | (simp [*]; done)), H', ⟨by have := HK1.out; omega⟩, by repeat (first | exact Drawn0.refl _ | apply Drawn0.step)⟩
              · rw [if_neg c7] at H
                have c7b0 : ((rd l0 x5_1) == (rd l1 x5_1)) = false := beq_eq_false_iff_ne.mpr c7
                have c7b1 : ((rd l0 x5_1) != (rd l1 x5_1)) = true := bne_iff_ne.mpr c7
                obtain rfl := Option.some.inj H
                have p217 : 0 ≤ (x5_1 : Int) := of_decide_eq_true (by first | (with_reducible assumption) | assumption)
                have q217 : x5_1 < (l0.length : Int) := of_decide_eq_true (by first | (with_reducible assumption) | assumption)
                obtain ⟨ad217, e217, hx217_0⟩ := Kd.at_int HR0.out x5_1 p217 q217
                cases e217
                replace p217 := eq_true p217
                replace q217 := eq_true q217
                have p218 : 0 ≤ (x5_1 : Int) := of_decide_eq_true (by first | (with_reducible assumption) | assumption)
                have q218 : x5_1 < (l1.length : Int) := of_decide_eq_true (by first | (with_reducible assumption) | assumption)
                obtain ⟨ad218, e218, hx218_0⟩ := Kd.at_int HR1.out x5_1 p218 q218
                cases e218
                replace p218 := eq_true p218
                replace q218 := eq_true q218
                go_wp2
                repeat (go_quiet (fail); try go_wp2)
                go_ret
                exact ⟨by first | rfl | (simp; done) | (simp [*]; done), by repeat (first | exact Drawn0.refl _ | apply Drawn0.step)⟩
            · rw [if_neg c6] at H
              exact absurd H (by simp)
          · rw [if_neg c5] at H
            exact absurd H (by simp)
        · rw [if_neg c4] at H
          have c4b0 : decide (x5_1 < (l0.length : Int)) = false := decide_eq_false c4
          clear c4
          obtain rfl := Option.some.inj H
          go_wp2
          repeat (go_quiet (fail); try go_wp2)
          go_ret
          exact ⟨by first | rfl | (simp; done) | (simp [*]; done), by repeat (first | exact Drawn0.refl _ | apply Drawn0.step)⟩
  · rw [if_neg c3] at H
    have c3b0 : ((l0.length : Int) == (l1.length : Int)) = false := beq_eq_false_iff_ne.mpr c3
    have c3b1 : ((l0.length : Int) != (l1.length : Int)) = true := bne_iff_ne.mpr c3
    have c3b2 : (l0.length == l1.length) = false := by first | simpa using c3 | (simp at c3 ⊢; omega)
    obtain rfl := Option.some.inj H
    go_enter Try.func36, Try.ntmps36
    go_wp2
    repeat (go_quiet (fail); try go_wp2)
    go_ret
    exact ⟨by first | rfl | (simp; done) | (simp [*]; done), by repeat (first | exact Drawn0.refl _ | apply Drawn0.step)⟩

/-! ### sibylref01_Form: function 80 -/
def sibylref01_Form.f (l0 : List Int) : Option (Bool) := if (l0.length : Int) ≤ 16 then (if (l0.length : Int) = 0 then (some true) else (if 0 ≤ (wrap64 ((l0.length : Int) - 1)) then (if (wrap64 ((l0.length : Int) - 1)) < (l0.length : Int) then (some ((rd l0 (wrap64 ((l0.length : Int) - 1))) != 0)) else (none)) else (none))) else (some false)
set_option maxHeartbeats 8000000 in
set_option maxRecDepth 100000 in
theorem sibylref01_Form.calls (A0 : Option Addr) (c0 : Nat) (l0 : List Int) (r : Bool) (w : World) (hr0 : Kd.C (Kd.int .u32) w A0 l0.length l0) (hc0 : l0.length ≤ c0) (h : sibylref01_Form.f l0 = some r) :
    Calls Try.prog 80 #[.slice A0 l0.length c0] w fun e w' => e = .returned (.bool r) ∧ Drawn0 w w' := by
  have HR0 := Aside0.mk hr0
  have HC0 := Aside0.mk hc0
  clear hr0 hc0
  have H : (if (l0.length : Int) ≤ 16 then (if (l0.length : Int) = 0 then (some true) else (if 0 ≤ (wrap64 ((l0.length : Int) - 1)) then (if (wrap64 ((l0.length : Int) - 1)) < (l0.length : Int) then (some ((rd l0 (wrap64 ((l0.length : Int) - 1))) != 0)) else (none)) else (none))) else (some false)) = some r := h
  clear h
  by_cases c2 : (l0.length : Int) ≤ 16
  · rw [if_pos c2] at H
    have c2b0 : decide ((l0.length : Int) ≤ 16) = true := decide_eq_true c2
    have c2b1 : decide (l0.length ≤ 16) = true := decide_eq_true (by omega)
    clear c2
    by_cases c3 : (l0.length : Int) = 0
    · rw [if_pos c3] at H
      have c3b0 : ((l0.length : Int) == 0) = true := beq_iff_eq.mpr c3
      have c3b1 : ((l0.length : Int) != 0) = false := bne_eq_false_iff_eq.mpr c3
      clear c3
      obtain rfl := Option.some.inj H
      go_enter Try.func80, Try.ntmps80
      go_wp2
      go_ret
      exact ⟨by first | rfl | (simp; done) | (simp [*]; done), by repeat (first | exact Drawn0.refl _ | apply Drawn0.step)⟩
    · rw [if_neg c3] at H
      have c3b0 : ((l0.length : Int) == 0) = false := beq_eq_false_iff_ne.mpr c3
      have c3b1 : ((l0.length : Int) != 0) = true := bne_iff_ne.mpr c3
      have c3b2 : ¬ (l0 = []) := fun h_ => c3 (by rw [h_]; rfl)
      obtain ⟨ji4, hji4⟩ : ∃ j_ : Int, (wrap64 ((l0.length : Int) - 1)) = j_ := ⟨_, rfl⟩
      replace H : (if 0 ≤ (ji4) then (if (ji4) < (l0.length : Int) then (some ((rd l0 (ji4)) != 0)) else (none)) else (none)) = some r := by first | (rw [hji4] at H; exact H) | (simp only [hji4] at H ⊢; exact H)
      have hji4w : (IntKind.i64.wrap ((l0.length : Int) - 1)) = ji4 := (i64_w _).trans hji4
      by_cases c5 : 0 ≤ (ji4)
      · rw [if_pos c5] at H
        have c5b0 : decide (0 ≤ (ji4)) = true := decide_eq_true c5
        clear c5
        by_cases c6 : (ji4) < (l0.length : Int)
        · rw [if_pos c6] at H
          have c6b0 : decide ((ji4) < (l0.length : Int)) = true := decide_eq_true c6
          clear c6
          obtain rfl := Option.some.inj H
          have p219 : 0 ≤ ((ji4) : Int) := of_decide_eq_true (by first | (with_reducible assumption) | assumption)
          have q219 : (ji4) < (l0.length : Int) := of_decide_eq_true (by first | (with_reducible assumption) | assumption)
          obtain ⟨ad219, e219, hx219_0⟩ := Kd.at_int HR0.out (ji4) p219 q219
          cases e219
          replace p219 := eq_true p219
          replace q219 := eq_true q219
          go_enter Try.func80, Try.ntmps80
          go_wp2
          go_ret
          exact ⟨by first | rfl | (simp; done) | (simp only [← hji4] <;> (first | rfl | simp)) | (simp [*]; done), by repeat (first | exact Drawn0.refl _ | apply Drawn0.step)⟩
        · rw [if_neg c6] at H
          exact absurd H (by simp)
      · rw [if_neg c5] at H
        exact absurd H (by simp)
  · rw [if_neg c2] at H
    have c2b0 : decide ((l0.length : Int) ≤ 16) = false := decide_eq_false c2
    have c2b1 : decide (l0.length ≤ 16) = false := decide_eq_false (by omega)
    clear c2
    obtain rfl := Option.some.inj H
    go_enter Try.func80, Try.ntmps80
    go_wp2
    go_ret
    exact ⟨by first | rfl | (simp; done) | (simp [*]; done), by repeat (first | exact Drawn0.refl _ | apply Drawn0.step)⟩

/-! ### sibylref01_Trim: function 83 -/
mutual
def sibylref01_Trim.j1 : Nat → List Int → Int → Option (List Int)
  | 0, _, _ => none
  | k + 1, x0, x3 => sibylref01_Trim.l1 k x0 x3 ([] : List Int) 0
def sibylref01_Trim.l1 : Nat → List Int → Int → List Int → Int → Option (List Int)
  | 0, _, _, _, _ => none
  | k + 1, x0, x3, x4, x5 => if x5 < x3 then (if 0 ≤ x5 then (if x5 < (x0.length : Int) then (if x4.length < 35184372088832 then (sibylref01_Trim.l1 k x0 x3 (x4 ++ [rd x0 x5]) (wrap64 (x5 + 1))) else (none)) else (none)) else (none)) else (some x4)
def sibylref01_Trim.l0 : Nat → List Int → Int → Option (List Int)
  | 0, _, _ => none
  | k + 1, x0, x3 => if x3 > 0 then (if 0 ≤ (wrap64 (x3 - 1)) then (if (wrap64 (x3 - 1)) < (x0.length : Int) then (if (rd x0 (wrap64 (x3 - 1))) = 0 then (sibylref01_Trim.l0 k x0 (wrap64 (x3 - 1))) else (sibylref01_Trim.j1 k x0 x3)) else (none)) else (none)) else (sibylref01_Trim.j1 k x0 x3)
end
def sibylref01_Trim.f (k : Nat) (l0 : List Int) : Option (List Int) := sibylref01_Trim.l0 k l0 (l0.length : Int)
theorem sibylref01_Trim.mono_l : ∀ k, (∀ y0 y1, LeO (sibylref01_Trim.j1 k y0 y1) (sibylref01_Trim.j1 (k + 1) y0 y1)) ∧ (∀ y0 y1 y2 y3, LeO (sibylref01_Trim.l1 k y0 y1 y2 y3) (sibylref01_Trim.l1 (k + 1) y0 y1 y2 y3)) ∧ (∀ y0 y1, LeO (sibylref01_Trim.l0 k y0 y1) (sibylref01_Trim.l0 (k + 1) y0 y1))
  | 0 => ⟨fun _ _ r h => by simp [sibylref01_Trim.j1] at h, fun _ _ _ _ r h => by simp [sibylref01_Trim.l1] at h, fun _ _ r h => by simp [sibylref01_Trim.l0] at h⟩
  | k + 1 => by
    obtain ⟨ih0, ih1, ih2⟩ := sibylref01_Trim.mono_l k
    refine ⟨?_, ?_, ?_⟩
    · intro y0 y1
      unfold sibylref01_Trim.j1
      repeat' first
      | (with_reducible exact ih0 _ _)
      | (with_reducible exact ih1 _ _ _ _)
      | (with_reducible exact ih2 _ _)
      | (with_reducible exact LeO.refl _)
      | (with_reducible exact LeO.none _)
      | (with_reducible refine LeO.ite ?_ ?_)
      | (with_reducible refine LeO.bind ?_ (fun _ => ?_))
      | exact ih0 _ _
      | exact ih1 _ _ _ _
      | exact ih2 _ _
      | exact LeO.none _
      | refine LeO.ite ?_ ?_
      | refine LeO.bind ?_ (fun _ => ?_)
    · intro y0 y1 y2 y3
      unfold sibylref01_Trim.l1
      repeat' first
      | (with_reducible exact ih0 _ _)
      | (with_reducible exact ih1 _ _ _ _)
      | (with_reducible exact ih2 _ _)
      | (with_reducible exact LeO.refl _)
      | (with_reducible exact LeO.none _)
      | (with_reducible refine LeO.ite ?_ ?_)
      | (with_reducible refine LeO.bind ?_ (fun _ => ?_))
      | exact ih0 _ _
      | exact ih1 _ _ _ _
      | exact ih2 _ _
      | exact LeO.none _
      | refine LeO.ite ?_ ?_
      | refine LeO.bind ?_ (fun _ => ?_)
    · intro y0 y1
      unfold sibylref01_Trim.l0
      repeat' first
      | (with_reducible exact ih0 _ _)
      | (with_reducible exact ih1 _ _ _ _)
      | (with_reducible exact ih2 _ _)
      | (with_reducible exact LeO.refl _)
      | (with_reducible exact LeO.none _)
      | (with_reducible refine LeO.ite ?_ ?_)
      | (with_reducible refine LeO.bind ?_ (fun _ => ?_))
      | exact ih0 _ _
      | exact ih1 _ _ _ _
      | exact ih2 _ _
      | exact LeO.none _
      | refine LeO.ite ?_ ?_
      | refine LeO.bind ?_ (fun _ => ?_)
theorem sibylref01_Trim.mono : ∀ a0 k, LeO (sibylref01_Trim.f k a0) (sibylref01_Trim.f (k + 1) a0) := by
  intro a0 k
  obtain ⟨ih0, ih1, ih2⟩ := sibylref01_Trim.mono_l k
  unfold sibylref01_Trim.f
  repeat' first
      | (with_reducible exact ih0 _ _)
      | (with_reducible exact ih1 _ _ _ _)
      | (with_reducible exact ih2 _ _)
      | (with_reducible exact LeO.refl _)
      | (with_reducible exact LeO.none _)
      | (with_reducible refine LeO.ite ?_ ?_)
      | (with_reducible refine LeO.bind ?_ (fun _ => ?_))
      | exact ih0 _ _
      | exact ih1 _ _ _ _
      | exact ih2 _ _
      | exact LeO.none _
      | refine LeO.ite ?_ ?_
      | refine LeO.bind ?_ (fun _ => ?_)
set_option maxHeartbeats 8000000 in
set_option maxRecDepth 100000 in
theorem sibylref01_Trim.calls (k : Nat) (A0 : Option Addr) (c0 : Nat) (l0 : List Int) (r : List Int) (w : World) (hr0 : Kd.C (Kd.int .u32) w A0 l0.length l0) (hc0 : l0.length ≤ c0) (h : sibylref01_Trim.f k l0 = some r) :
    Calls Try.prog 83 #[.slice A0 l0.length c0] w fun e w' => ∃ v0_ : Value, e = .returned (v0_) ∧ Kd.R (Kd.int .u32) 99 w' w.heap.size (fun _ => True) v0_ r ∧ Below w.heap.size w w' := by
  have HR0 := Aside0.mk hr0
  have HC0 := Aside0.mk hc0
  clear hr0 hc0
  have HB := Aside0.mk (Below.refl w.heap.size w)
  have H : (sibylref01_Trim.l0 k l0 (l0.length : Int)) = some r := h
  clear h
  have HC2 := Aside0.mk H
  clear H
  go_enter Try.func83, Try.ntmps83
  go_upto_block 0 with (fail)
  go_cut [3] (fun v3 wc => ∃ (kq : Nat) (x3_1 : Int), v3 = .int .i64 x3_1 ∧ Aside0 (sibylref01_Trim.j1 kq l0 x3_1 = some r) ∧ Aside0 (kq ≤ k) ∧ Aside0 (Below w.heap.size w wc))
  case first =>
    have H := HC2.out
    clear HC2
    have H' := Aside0.mk H
    clear H
    go_wp2
    go_loopg [3] k (fun kq v3 w' => ∃ (x3_1 : Int), v3 = .int .i64 x3_1 ∧ Aside0 (sibylref01_Trim.l0 kq l0 x3_1 = some r) ∧ Aside0 (kq ≤ k) ∧ Aside0 (Below w.heap.size w w'))
    case atStart => exact ⟨((l0.length : Int)), (by first | rfl | (simp; done) | (simp [*]; done)), H', ⟨Nat.le_refl _⟩, ⟨by repeat (first | (with_reducible first | exact HB.out | apply below_alloc | apply pw_below_drewN | apply below_drew1) | exact HB.out)⟩⟩
    case round =>
      clear H'
      try clear p2
      obtain ⟨x3_1, rfl, HA, HK1, HB⟩ := hrel
      cases gk with
      | zero => exact absurd HA.out (by simp [sibylref01_Trim.l0])
      | succ k1 =>
        have H := HA.out
        clear HA
        simp only [sibylref01_Trim.l0] at H
        by_cases c3 : x3_1 > 0
        · rw [if_pos c3] at H
          have c3b0 : decide (0 < x3_1) = true := decide_eq_true c3
          clear c3
          (first | rw [c3b0] | (simp only [i64_w, i32_w]; rw [c3b0]) | skip)
          obtain ⟨ji4, hji4⟩ : ∃ j_ : Int, (wrap64 (x3_1 - 1)) = j_ := ⟨_, rfl⟩
          replace H : (if 0 ≤ (ji4) then (if (ji4) < (l0.length : Int) then (if (rd l0 (ji4)) = 0 then (sibylref01_Trim.l0 k1 l0 ji4) else (sibylref01_Trim.j1 k1 l0 x3_1)) else (none)) else (none)) = some r := by first | (rw [hji4] at H; exact H) | (simp only [hji4] at H ⊢; exact H)
          have hji4w : (IntKind.i64.wrap (x3_1 - 1)) = ji4 := (i64_w _).trans hji4
          by_cases c5 : 0 ≤ (ji4)
          · rw [if_pos c5] at H
            have c5b0 : decide (0 ≤ (ji4)) = true := decide_eq_true c5
            clear c5
            by_cases c6 : (ji4) < (l0.length : Int)
            · rw [if_pos c6] at H
              have c6b0 : decide ((ji4) < (l0.length : Int)) = true := decide_eq_true c6
              clear c6
              by_cases c7 : (rd l0 (ji4)) = 0
              · rw [if_pos c7] at H
                have c7b0 : ((rd l0 (ji4)) == 0) = true := beq_iff_eq.mpr c7
                have c7b1 : ((rd l0 (ji4)) != 0) = false := bne_eq_false_iff_eq.mpr c7
                clear c7
                have H' := Aside0.mk H
                clear H
                have p220 : 0 ≤ ((ji4) : Int) := of_decide_eq_true (by first | (with_reducible assumption) | assumption)
                have q220 : (ji4) < (l0.length : Int) := of_decide_eq_true (by first | (with_reducible assumption) | assumption)
                obtain ⟨ad220, e220, hx220_0⟩ := Kd.at_int HR0.out (ji4) p220 q220
                cases e220
                replace hx220_0 := (HB.out.cell (World.block_lt_of_cell? w _ hx220_0)).trans hx220_0
                replace p220 := eq_true p220
                replace q220 := eq_true q220
                go_wp2
                go_roundg k1
                case measure => have := HK1.out; omega
                case rel => exact ⟨(ji4), (by first | rfl | (simp; done) | (simp only [← hji4] <;> (first | rfl | simp)) | (simp [*]; done)), H', ⟨by have := HK1.out; omega⟩, ⟨by repeat (first | (with_reducible first | exact HB.out | apply below_alloc | apply pw_below_drewN | apply below_drew1) | exact HB.out)⟩⟩
              · rw [if_neg c7] at H
                have c7b0 : ((rd l0 (ji4)) == 0) = false := beq_eq_false_iff_ne.mpr c7
                have c7b1 : ((rd l0 (ji4)) != 0) = true := bne_iff_ne.mpr c7
                have H' := Aside0.mk H
                clear H
                have p220 : 0 ≤ ((ji4) : Int) := of_decide_eq_true (by first | (with_reducible assumption) | assumption)
                have q220 : (ji4) < (l0.length : Int) := of_decide_eq_true (by first | (with_reducible assumption) | assumption)
                obtain ⟨ad220, e220, hx220_0⟩ := Kd.at_int HR0.out (ji4) p220 q220
                cases e220
                replace hx220_0 := (HB.out.cell (World.block_lt_of_cell? w _ hx220_0)).trans hx220_0
                replace p220 := eq_true p220
                replace q220 := eq_true q220
                go_wp2
                go_meet
                case rel => exact ⟨_, (x3_1), (by first | rfl | (simp; done) | (simp [*]; done)), H', ⟨by have := HK1.out; first | omega | exact Nat.le_refl _⟩, ⟨by repeat (first | (with_reducible first | exact HB.out | apply below_alloc | apply pw_below_drewN | apply below_drew1) | exact HB.out)⟩⟩
            · rw [if_neg c6] at H
              exact absurd H (by simp)
          · rw [if_neg c5] at H
            exact absurd H (by simp)
        · rw [if_neg c3] at H
          have c3b0 : decide (0 < x3_1) = false := decide_eq_false c3
          clear c3
          (first | rw [c3b0] | (simp only [i64_w, i32_w]; rw [c3b0]) | skip)
          have H' := Aside0.mk H
          clear H
          go_wp2
          go_meet
          case rel => exact ⟨_, (x3_1), (by first | rfl | (simp; done) | (simp [*]; done)), H', ⟨by have := HK1.out; first | omega | exact Nat.le_refl _⟩, ⟨by repeat (first | (with_reducible first | exact HB.out | apply below_alloc | apply pw_below_drewN | apply below_drew1) | exact HB.out)⟩⟩
  case rest =>
    clear HC2
    try clear p2
    try clear q2
    try clear hx2
    try clear c3
    try clear c3b0
    try clear c5
    try clear c5b0
    try clear c6
    try clear c6b0
    try clear p6
    try clear c7
    try clear c7b0
    try clear c7b1
    try clear hx220_0
    try clear p2
    try clear p220
    try clear q220
    obtain ⟨kq, x3_1, rfl, HA, HJ1, HB⟩ := hcut
    cases kq with
    | zero => exact absurd HA.out (by simp [sibylref01_Trim.j1])
    | succ kj1 =>
      have H := HA.out
      clear HA
      simp only [sibylref01_Trim.j1] at H
      have H' := Aside0.mk H
      clear H
      go_wp2
      go_loopg [4, 5] kj1 (fun kq v4 v5 w' => ∃ (x4_2 : List Int) (x5_2 : Int), v5 = .int .i64 x5_2 ∧ Aside0 (sibylref01_Trim.l1 kq l0 x3_1 x4_2 x5_2 = some r) ∧ Aside0 (kq ≤ kj1) ∧ Aside0 (Kd.R (Kd.int .u32) 99 w' w.heap.size (fun _ => True) v4 x4_2) ∧ Aside0 (Below w.heap.size w w'))
      case atStart => exact ⟨(([] : List Int)), (0), (by first | rfl | (simp; done) | (simp [*]; done)), H', ⟨Nat.le_refl _⟩, ⟨by first | exact Kd.R_nil _ _ _ _ _ | exact Kd.N_nil _ _ _ _ _ | exact Kd.V_nil _ _ _ _ _ | exact Kd.Q_nil _ _ _ _ _ | exact Kd.S_nil _ _ _ _ _⟩, ⟨by repeat (first | (with_reducible first | exact HB.out | apply below_alloc | apply pw_below_drewN | apply below_drew1) | exact HB.out)⟩⟩
      case round =>
        clear H'
        try clear p2
        try clear q2
        try clear hx2
        try clear c3
        try clear c3b0
        try clear c5
        try clear c5b0
        try clear c6
        try clear c6b0
        try clear p6
        try clear c7
        try clear c7b0
        try clear c7b1
        try clear hx220_0
        try clear p2
        try clear p220
        try clear p6
        try clear q2
        try clear q220
        obtain ⟨x4_2, x5_2, rfl, HA, HK2, HO_4, HB⟩ := hrel
        cases gk with
        | zero => exact absurd HA.out (by simp [sibylref01_Trim.l1])
        | succ k2 =>
          have H := HA.out
          clear HA
          simp only [sibylref01_Trim.l1] at H
          by_cases c8 : x5_2 < x3_1
          · rw [if_pos c8] at H
            have c8b0 : decide (x5_2 < x3_1) = true := decide_eq_true c8
            clear c8
            by_cases c9 : 0 ≤ x5_2
            · rw [if_pos c9] at H
              have c9b0 : decide (0 ≤ x5_2) = true := decide_eq_true c9
              clear c9
              by_cases c10 : x5_2 < (l0.length : Int)
              · rw [if_pos c10] at H
                have c10b0 : decide (x5_2 < (l0.length : Int)) = true := decide_eq_true c10
                clear c10
                by_cases c11 : x4_2.length < 35184372088832
                · rw [if_pos c11] at H
                  have LMc11 := Aside0.mk c11
                  clear c11
                  obtain ⟨y222, hy222⟩ : ∃ y_ : List Int, y_ = (x4_2 ++ [rd l0 x5_2]) := ⟨_, rfl⟩
                  replace H : (sibylref01_Trim.l1 k2 l0 x3_1 y222 (wrap64 (x5_2 + 1))) = some r := by first | (rw [hy222]; with_reducible exact H) | (have H2_ := (Option.bind_some _ _).symm.trans H; rw [hy222]; with_reducible exact H2_) | (have H2_ := (Option.bind_some _ _).symm.trans H; with_reducible exact H2_) | with_reducible exact H | (rw [hy222]; exact H) | exact H
                  have Ny222 := Aside0.mk hy222
                  clear hy222
                  have H' := Aside0.mk H
                  clear H
                  have p221 : 0 ≤ (x5_2 : Int) := of_decide_eq_true (by first | (with_reducible assumption) | assumption)
                  have q221 : x5_2 < (l0.length : Int) := of_decide_eq_true (by first | (with_reducible assumption) | assumption)
                  obtain ⟨ad221, e221, hx221_0⟩ := Kd.at_int HR0.out x5_2 p221 q221
                  cases e221
                  replace hx221_0 := (HB.out.cell (World.block_lt_of_cell? w _ hx221_0)).trans hx221_0
                  replace p221 := eq_true p221
                  replace q221 := eq_true q221
                  go_wp2_with (first | ((with_reducible refine gate_builtin (b := .append) (xs := #[.tmp 25, .tmp 30]) rfl ?_); at_builtin; refine Kd.R_append (Kd.int .u32) (w0 := w) w.heap.size rfl (.tmp 25) (.tmp 30) 34 99 (.int .u32 0) 4 rfl Try.underlying34 info99 rfl (by decide) (by omega) u4 x4_2 (rd l0 x5_2) [.int .u32 (rd l0 x5_2)] (fun _ => True) (fun _ => False) rfl rfl ?aP (fun _ hk => hk.elim) ?aF ?aO ?aB ?aS ?aL ?_; (case aP => exact rfl); (case aB => exact (by repeat (first | (with_reducible first | exact HB.out | apply below_alloc | apply pw_below_drewN | apply below_drew1) | exact HB.out))); (case aF => exact (fun _ _ => trivial)); (case aO => exact (by (with_reducible repeat (first | apply Kd.R_alloc | apply Kd.R_drewN | apply Kd.R_drew)); exact HO_4.out)); (case aS => exact (below_size (by repeat (first | (with_reducible first | exact HB.out | apply below_alloc | apply pw_below_drewN | apply below_drew1) | exact HB.out)))); (case aL => have := LMc11.out; omega); intro v223 w12 ho hb hg hat; rw [← Ny222.out] at ho; have n0_ := Aside0.mk (hb); have n1_ := Aside0.mk (ho); clear HB; clear HO_4; have HB := n0_; have HO224 := n1_; clear n0_ n1_; clear ho hb hg hat))
                  go_roundg k2
                  case measure => have := HJ1.out; have := HK2.out; omega
                  case rel => exact ⟨(y222), (wrap64 (x5_2 + 1)), (by first | rfl | (simp; done) | (simp [*]; done)), H', ⟨by have := HJ1.out; have := HK2.out; omega⟩, ⟨by (with_reducible repeat (first | apply Kd.R_alloc | apply Kd.R_drewN | apply Kd.R_drew)); exact HO224.out⟩, ⟨by repeat (first | (with_reducible first | exact HB.out | apply below_alloc | apply pw_below_drewN | apply below_drew1) | exact HB.out)⟩⟩
                · rw [if_neg c11] at H
                  exact absurd H (by simp)
              · rw [if_neg c10] at H
                exact absurd H (by simp)
            · rw [if_neg c9] at H
              exact absurd H (by simp)
          · rw [if_neg c8] at H
            have c8b0 : decide (x5_2 < x3_1) = false := decide_eq_false c8
            clear c8
            obtain rfl := Option.some.inj H
            go_wp2
            go_ret
            exact ⟨_, by first | rfl | (simp [errW_none, errW_some] <;> rfl) | (simp [*, errW_none, errW_some] <;> rfl), by (with_reducible repeat (first | apply Kd.R_alloc | apply Kd.R_drewN | apply Kd.R_drew)); exact HO_4.out, by repeat (first | (with_reducible first | exact HB.out | apply below_alloc | apply pw_below_drewN | apply below_drew1) | exact HB.out)⟩

/-! ### sibylref01_Shl: function 69 -/
def sibylref01_Shl.l0 : Nat → List Int → Int → List Int → Int → Int → Option (List Int)
  | 0, _, _, _, _, _ => none
  | k + 1, x0, x1, x5, x6, x7 => if x7 < (x0.length : Int) then (if 0 ≤ x7 then (if 0 ≤ (IntKind.u64.wrap (Int.tmod x1 32)) then (if x5.length < 35184372088832 then (sibylref01_Shl.l0 k x0 x1 (x5 ++ [(Int.tmod (IntKind.u64.wrap ((shl .u64 (IntKind.u64.wrap (rd x0 x7)) (IntKind.u64.wrap (Int.tmod x1 32))) + x6)) 4294967296) % 4294967296]) (IntKind.u64.wrap (Int.tdiv (IntKind.u64.wrap ((shl .u64 (IntKind.u64.wrap (rd x0 x7)) (IntKind.u64.wrap (Int.tmod x1 32))) + x6)) 4294967296)) (wrap64 (x7 + 1))) else (none)) else (none)) else (none)) else (if x5.length < 35184372088832 then ((sibylref01_Trim.f k (x5 ++ [(x6) % 4294967296])).bind fun t235 => (some t235)) else (none))
def sibylref01_Shl.f (k : Nat) (l0 : List Int) (a1 : Int) : Option (List Int) := if 0 ≤ (wrap64 (Int.tdiv a1 32)) then (if (wrap64 (Int.tdiv a1 32) : Int).toNat ≤ 70368744177664 then (sibylref01_Shl.l0 k l0 a1 (List.replicate (wrap64 (Int.tdiv a1 32) : Int).toNat 0) 0 0) else (none)) else (none)
theorem sibylref01_Shl.mono_l : ∀ k, (∀ y0 y1 y2 y3 y4, LeO (sibylref01_Shl.l0 k y0 y1 y2 y3 y4) (sibylref01_Shl.l0 (k + 1) y0 y1 y2 y3 y4))
  | 0 => fun _ _ _ _ _ r h => by simp [sibylref01_Shl.l0] at h
  | k + 1 => by
    have ih0 := sibylref01_Shl.mono_l k
    · intro y0 y1 y2 y3 y4
      unfold sibylref01_Shl.l0
      repeat' first
      | (with_reducible exact ih0 _ _ _ _ _)
      | (with_reducible exact sibylref01_Trim.mono _ _)
      | (with_reducible exact LeO.refl _)
      | (with_reducible exact LeO.none _)
      | (with_reducible refine LeO.ite ?_ ?_)
      | (with_reducible refine LeO.bind ?_ (fun _ => ?_))
      | exact ih0 _ _ _ _ _
      | exact sibylref01_Trim.mono _ _
      | exact LeO.none _
      | refine LeO.ite ?_ ?_
      | refine LeO.bind ?_ (fun _ => ?_)
theorem sibylref01_Shl.mono : ∀ a0 a1 k, LeO (sibylref01_Shl.f k a0 a1) (sibylref01_Shl.f (k + 1) a0 a1) := by
  intro a0 a1 k
  have ih0 := sibylref01_Shl.mono_l k
  unfold sibylref01_Shl.f
  repeat' first
      | (with_reducible exact ih0 _ _ _ _ _)
      | (with_reducible exact sibylref01_Trim.mono _ _)
      | (with_reducible exact LeO.refl _)
      | (with_reducible exact LeO.none _)
      | (with_reducible refine LeO.ite ?_ ?_)
      | (with_reducible refine LeO.bind ?_ (fun _ => ?_))
      | exact ih0 _ _ _ _ _
      | exact sibylref01_Trim.mono _ _
      | exact LeO.none _
      | refine LeO.ite ?_ ?_
      | refine LeO.bind ?_ (fun _ => ?_)
set_option maxHeartbeats 8000000 in
set_option maxRecDepth 100000 in
theorem sibylref01_Shl.calls (k : Nat) (A0 : Option Addr) (c0 : Nat) (l0 : List Int) (a1 : Int) (r : List Int) (w : World) (hr0 : Kd.C (Kd.int .u32) w A0 l0.length l0) (hc0 : l0.length ≤ c0) (h : sibylref01_Shl.f k l0 a1 = some r) :
    Calls Try.prog 69 #[.slice A0 l0.length c0, .int .i64 a1] w fun e w' => ∃ v0_ : Value, e = .returned (v0_) ∧ Kd.R (Kd.int .u32) 99 w' w.heap.size (fun _ => True) v0_ r ∧ Below w.heap.size w w' := by
  have HR0 := Aside0.mk hr0
  have HC0 := Aside0.mk hc0
  clear hr0 hc0
  have HB := Aside0.mk (Below.refl w.heap.size w)
  have H : (if 0 ≤ (wrap64 (Int.tdiv a1 32)) then (if (wrap64 (Int.tdiv a1 32) : Int).toNat ≤ 70368744177664 then (sibylref01_Shl.l0 k l0 a1 (List.replicate (wrap64 (Int.tdiv a1 32) : Int).toNat 0) 0 0) else (none)) else (none)) = some r := h
  clear h
  obtain ⟨ji3, hji3⟩ : ∃ j_ : Int, (wrap64 (Int.tdiv a1 32)) = j_ := ⟨_, rfl⟩
  replace H : (if 0 ≤ (ji3) then (if (ji3 : Int).toNat ≤ 70368744177664 then (sibylref01_Shl.l0 k l0 a1 (List.replicate (ji3 : Int).toNat 0) 0 0) else (none)) else (none)) = some r := by first | (rw [hji3] at H; exact H) | (simp only [hji3] at H ⊢; exact H)
  have hji3w : (IntKind.i64.wrap (Int.tdiv a1 32)) = ji3 := (i64_w _).trans hji3
  by_cases c4 : 0 ≤ (ji3)
  · rw [if_pos c4] at H
    have c4b0 := eq_true c4
    have c4b1 : decide (0 ≤ (ji3)) = true := decide_eq_true c4
    clear c4
    by_cases c5 : (ji3 : Int).toNat ≤ 70368744177664
    · rw [if_pos c5] at H
      have c5b0 := eq_true c5
      have c5b1 : decide ((ji3 : Int).toNat ≤ 70368744177664) = true := decide_eq_true c5
      clear c5
      obtain ⟨y225, hy225⟩ : ∃ y_ : List Int, y_ = (List.replicate (ji3 : Int).toNat 0) := ⟨_, rfl⟩
      replace H : (sibylref01_Shl.l0 k l0 a1 y225 0 0) = some r := by first | (rw [hy225]; with_reducible exact H) | (have H2_ := (Option.bind_some _ _).symm.trans H; rw [hy225]; with_reducible exact H2_) | (have H2_ := (Option.bind_some _ _).symm.trans H; with_reducible exact H2_) | with_reducible exact H | (rw [hy225]; exact H) | exact H
      have Ny225 := Aside0.mk hy225
      clear hy225
      have H' := Aside0.mk H
      clear H
      go_enter Try.func69, Try.ntmps69
      go_wp2_with (first | ((with_reducible refine gate_dst (N := 11) rfl ?_); refine Kd.R_make (Kd.int .u32) _ 99 rfl (N := 11) rfl 34 _ _ rfl ji3 rfl rfl Try.underlying34 (.int .u32 0) 4 info99 rfl (by decide) (by omega) 0 (ok := fun _ => True) (okp := fun _ => True) rfl (fun _ hk => hk) trivial (of_decide_eq_true (by first | (with_reducible assumption) | assumption)) (Nat.le_trans (Nat.mul_le_mul_right _ (of_decide_eq_true (by first | (with_reducible assumption) | assumption) : ji3.toNat ≤ 70368744177664)) (by omega)) (Below.refl _ _) (Nat.le_refl _) ?_; intro v226 w6 ho7 hb hg_ hnew_; clear hg_ hnew_; (first | rw [← Ny225.out] at ho7 | (simp only [Int.reduceToNat] at ho7; rw [← Ny225.out] at ho7)); have n0_ := Aside0.mk (Kd.R_lower ho7 (below_size (by repeat (first | (with_reducible first | exact HB.out | apply below_alloc | apply pw_below_drewN | apply below_drew1) | exact HB.out)))); have n1_ := Aside0.mk (below_step (by repeat (first | (with_reducible first | exact HB.out | apply below_alloc | apply pw_below_drewN | apply below_drew1) | exact HB.out)) hb); clear HB; have HO227 := n0_; have HB := n1_; clear n0_ n1_; clear hb ho7))
      go_loopg [5, 6, 7] k (fun kq v5 v6 v7 w' => ∃ (x5_1 : List Int) (x6_1 : Int) (x7_1 : Int), v6 = .int .u64 x6_1 ∧ v7 = .int .i64 x7_1 ∧ Aside0 (sibylref01_Shl.l0 kq l0 a1 x5_1 x6_1 x7_1 = some r) ∧ Aside0 (kq ≤ k) ∧ Aside0 (Kd.R (Kd.int .u32) 99 w' w.heap.size (fun _ => True) v5 x5_1) ∧ Aside0 (Below w.heap.size w w'))
      case atStart => exact ⟨(y225), (0), (0), (by first | rfl | (simp; done) | (simp [*]; done)), (by first | rfl | (simp; done) | (simp [*]; done)), H', ⟨Nat.le_refl _⟩, ⟨by (with_reducible repeat (first | apply Kd.R_alloc | apply Kd.R_drewN | apply Kd.R_drew)); exact HO227.out⟩, ⟨by repeat (first | (with_reducible first | exact HB.out | apply below_alloc | apply pw_below_drewN | apply below_drew1) | exact HB.out)⟩⟩
      case round =>
        clear H'
        try clear p2
        try clear c4
        try clear c4b0
        try clear c4b1
        try clear c5
        try clear c5b0
        try clear c5b1
        try clear c6
        try clear p6
        obtain ⟨x5_1, x6_1, x7_1, rfl, rfl, HA, HK1, HO_5, HB⟩ := hrel
        cases gk with
        | zero => exact absurd HA.out (by simp [sibylref01_Shl.l0])
        | succ k1 =>
          have H := HA.out
          clear HA
          simp only [sibylref01_Shl.l0] at H
          by_cases c8 : x7_1 < (l0.length : Int)
          · rw [if_pos c8] at H
            have c8b0 : decide (x7_1 < (l0.length : Int)) = true := decide_eq_true c8
            clear c8
            by_cases c9 : 0 ≤ x7_1
            · rw [if_pos c9] at H
              have c9b0 : decide (0 ≤ x7_1) = true := decide_eq_true c9
              clear c9
              obtain ⟨ji10, hji10⟩ : ∃ j_ : Int, (IntKind.u64.wrap (Int.tmod a1 32)) = j_ := ⟨_, rfl⟩
              replace H : (if 0 ≤ (ji10) then (if x5_1.length < 35184372088832 then (sibylref01_Shl.l0 k1 l0 a1 (x5_1 ++ [(Int.tmod (IntKind.u64.wrap ((shl .u64 (IntKind.u64.wrap (rd l0 x7_1)) (ji10)) + x6_1)) 4294967296) % 4294967296]) (IntKind.u64.wrap (Int.tdiv (IntKind.u64.wrap ((shl .u64 (IntKind.u64.wrap (rd l0 x7_1)) (ji10)) + x6_1)) 4294967296)) (wrap64 (x7_1 + 1))) else (none)) else (none)) = some r := by first | (rw [hji10] at H; exact H) | (simp only [hji10] at H ⊢; exact H)
              by_cases c11 : 0 ≤ (ji10)
              · rw [if_pos c11] at H
                have c11b0 := eq_true c11
                have c11b1 : decide (0 ≤ (ji10)) = true := decide_eq_true c11
                clear c11
                obtain ⟨ji12, hji12⟩ : ∃ j_ : Int, (shl .u64 (IntKind.u64.wrap (rd l0 x7_1)) (ji10)) = j_ := ⟨_, rfl⟩
                replace H : (if x5_1.length < 35184372088832 then (sibylref01_Shl.l0 k1 l0 a1 (x5_1 ++ [(Int.tmod (IntKind.u64.wrap ((ji12) + x6_1)) 4294967296) % 4294967296]) (IntKind.u64.wrap (Int.tdiv (IntKind.u64.wrap ((ji12) + x6_1)) 4294967296)) (wrap64 (x7_1 + 1))) else (none)) = some r := by first | (rw [hji12] at H; exact H) | (simp only [hji12] at H ⊢; exact H)
                have hji12_ : (IntKind.u64.wrap ((IntKind.u64.wrap (rd l0 x7_1)) * 2 ^ min (ji10).toNat 64)) = ji12 := hji12
                have hji12z : (ji10) ≤ 64 → (IntKind.u64.wrap ((IntKind.u64.wrap (rd l0 x7_1)) * 2 ^ (ji10).toNat)) = ji12 := shl_small hji12
                by_cases c13 : x5_1.length < 35184372088832
                · rw [if_pos c13] at H
                  have LMc13 := Aside0.mk c13
                  clear c13
                  obtain ⟨y229, hy229⟩ : ∃ y_ : List Int, y_ = (x5_1 ++ [(Int.tmod (IntKind.u64.wrap ((ji12) + x6_1)) 4294967296) % 4294967296]) := ⟨_, rfl⟩
                  replace H : (sibylref01_Shl.l0 k1 l0 a1 y229 (IntKind.u64.wrap (Int.tdiv (IntKind.u64.wrap ((ji12) + x6_1)) 4294967296)) (wrap64 (x7_1 + 1))) = some r := by first | (rw [hy229]; with_reducible exact H) | (have H2_ := (Option.bind_some _ _).symm.trans H; rw [hy229]; with_reducible exact H2_) | (have H2_ := (Option.bind_some _ _).symm.trans H; with_reducible exact H2_) | with_reducible exact H | (rw [hy229]; exact H) | exact H
                  have Ny229 := Aside0.mk hy229
                  clear hy229
                  have H' := Aside0.mk H
                  clear H
                  have p228 : 0 ≤ (x7_1 : Int) := of_decide_eq_true (by first | (with_reducible assumption) | assumption)
                  have q228 : x7_1 < (l0.length : Int) := of_decide_eq_true (by first | (with_reducible assumption) | assumption)
                  obtain ⟨ad228, e228, hx228_0⟩ := Kd.at_int HR0.out x7_1 p228 q228
                  cases e228
                  replace hx228_0 := (HB.out.cell (World.block_lt_of_cell? w _ hx228_0)).trans hx228_0
                  replace p228 := eq_true p228
                  replace q228 := eq_true q228
                  go_wp2_with (first | ((with_reducible refine gate_builtin (b := .append) (xs := #[.tmp 29, .tmp 33]) rfl ?_); at_builtin; refine Kd.R_append (Kd.int .u32) (w0 := w) w.heap.size rfl (.tmp 29) (.tmp 33) 34 99 (.int .u32 0) 4 rfl Try.underlying34 info99 rfl (by decide) (by omega) u5 x5_1 ((Int.tmod (IntKind.u64.wrap ((ji12) + x6_1)) 4294967296) % 4294967296) [.int .u32 ((Int.tmod (IntKind.u64.wrap ((ji12) + x6_1)) 4294967296) % 4294967296)] (fun _ => True) (fun _ => False) rfl rfl ?aP (fun _ hk => hk.elim) ?aF ?aO ?aB ?aS ?aL ?_; (case aP => exact rfl); (case aB => exact (by repeat (first | (with_reducible first | exact HB.out | apply below_alloc | apply pw_below_drewN | apply below_drew1) | exact HB.out))); (case aF => exact (fun _ _ => trivial)); (case aO => exact (by (with_reducible repeat (first | apply Kd.R_alloc | apply Kd.R_drewN | apply Kd.R_drew)); exact HO_5.out)); (case aS => exact (below_size (by repeat (first | (with_reducible first | exact HB.out | apply below_alloc | apply pw_below_drewN | apply below_drew1) | exact HB.out)))); (case aL => have := LMc13.out; omega); intro v230 w14 ho hb hg hat; rw [← Ny229.out] at ho; have n0_ := Aside0.mk (hb); have n1_ := Aside0.mk (ho); clear HB; clear HO_5; have HB := n0_; have HO231 := n1_; clear n0_ n1_; clear ho hb hg hat))
                  go_roundg k1
                  case measure => have := HK1.out; omega
                  case rel => exact ⟨(y229), (IntKind.u64.wrap (Int.tdiv (IntKind.u64.wrap ((ji12) + x6_1)) 4294967296)), (wrap64 (x7_1 + 1)), (by first | rfl | (simp; done) | (simp only [← hji12] <;> (first | rfl | simp)) | (simp [*]; done)), (by first | rfl | (simp; done) | (simp [*]; done)), H', ⟨by have := HK1.out; omega⟩, ⟨by (with_reducible repeat (first | apply Kd.R_alloc | apply Kd.R_drewN | apply Kd.R_drew)); exact HO231.out⟩, ⟨by repeat (first | (with_reducible first | exact HB.out | apply below_alloc | apply pw_below_drewN | apply below_drew1) | exact HB.out)⟩⟩
                · rw [if_neg c13] at H
                  exact absurd H (by simp)
              · rw [if_neg c11] at H
                exact absurd H (by simp)
            · rw [if_neg c9] at H
              exact absurd H (by simp)
          · rw [if_neg c8] at H
            have c8b0 : decide (x7_1 < (l0.length : Int)) = false := decide_eq_false c8
            clear c8
            by_cases c15 : x5_1.length < 35184372088832
            · rw [if_pos c15] at H
              have LMc15 := Aside0.mk c15
              clear c15
              obtain ⟨y232, hy232⟩ : ∃ y_ : List Int, y_ = (x5_1 ++ [(x6_1) % 4294967296]) := ⟨_, rfl⟩
              replace H : ((sibylref01_Trim.f k1 y232).bind fun t235 => (some t235)) = some r := by first | (rw [hy232]; with_reducible exact H) | (have H2_ := (Option.bind_some _ _).symm.trans H; rw [hy232]; with_reducible exact H2_) | (have H2_ := (Option.bind_some _ _).symm.trans H; with_reducible exact H2_) | with_reducible exact H | (rw [hy232]; exact H) | exact H
              have Ny232 := Aside0.mk hy232
              clear hy232
              replace H := Option.bind_eq_some_iff.mp H
              obtain ⟨t235, A160, H⟩ := H
              replace H : (some t235) = some r := H
              have A16 := Aside0.mk A160
              clear A160
              obtain rfl := Option.some.inj H
              go_wp2_with (first | ((with_reducible refine gate_builtin (b := .append) (xs := #[.tmp 37, .tmp 40]) rfl ?_); at_builtin; refine Kd.R_append (Kd.int .u32) (w0 := w) w.heap.size rfl (.tmp 37) (.tmp 40) 34 99 (.int .u32 0) 4 rfl Try.underlying34 info99 rfl (by decide) (by omega) u5 x5_1 ((x6_1) % 4294967296) [.int .u32 ((x6_1) % 4294967296)] (fun _ => True) (fun _ => False) rfl rfl ?aP (fun _ hk => hk.elim) ?aF ?aO ?aB ?aS ?aL ?_; (case aP => exact rfl); (case aB => exact (by repeat (first | (with_reducible first | exact HB.out | apply below_alloc | apply pw_below_drewN | apply below_drew1) | exact HB.out))); (case aF => exact (fun _ _ => trivial)); (case aO => exact (by (with_reducible repeat (first | apply Kd.R_alloc | apply Kd.R_drewN | apply Kd.R_drew)); exact HO_5.out)); (case aS => exact (below_size (by repeat (first | (with_reducible first | exact HB.out | apply below_alloc | apply pw_below_drewN | apply below_drew1) | exact HB.out)))); (case aL => have := LMc15.out; omega); intro v233 w17 ho hb hg hat; rw [← Ny232.out] at ho; have n0_ := Aside0.mk (hb); have n1_ := Aside0.mk (ho); clear HB; clear HO_5; have HB := n0_; have HO234 := n1_; clear n0_ n1_; clear ho hb hg hat; obtain ⟨Ao18, co18, eo18⟩ := Kd.R_slice HO234.out; subst eo18) | ((with_reducible refine gate_callee (f := 83) rfl ?_); refine goesL_ (some 43) rfl rfl Try.func83 (by kernel_rfl) rfl #[.slice Ao18 y232.length co18] rfl (by (try simp only [List.map_toArray, List.map_cons, List.map_nil]); first | done | rfl | (simp only [List.length_drop, List.length_take]; rfl)) ?_; (with_reducible refine (sibylref01_Trim.calls k1 _ _ y232 t235 _ ?side1 ?side2 A16.out).mono ?_); (case side1 => repeat (first | exact (Kd.R_reads' HO234.out).2.2 | (with_reducible refine Kd.C_alloc ?_ _) | (with_reducible refine Kd.C_drewN ?_ _) | (with_reducible refine Kd.C_drew ?_))); (case side2 => exact (Kd.R_reads' HO234.out).2.1); rintro e w19 ⟨v236, rfl, ho0, hb⟩; refine ⟨_, rfl, ?_⟩; have n0_ := Aside0.mk (Kd.R_elder' (by (with_reducible repeat (first | apply Kd.R_alloc | apply Kd.R_drewN | apply Kd.R_drew)); exact HO234.out) (Kd.R_base ho0) hb); have n1_ := Aside0.mk (Kd.R_lower (Kd.R_new' ho0 (Kd.R_lt (by (with_reducible repeat (first | apply Kd.R_alloc | apply Kd.R_drewN | apply Kd.R_drew)); exact HO234.out))) (below_size (by repeat (first | (with_reducible first | exact HB.out | apply below_alloc | apply pw_below_drewN | apply below_drew1) | exact HB.out)))); have n2_ := Aside0.mk (below_step (by repeat (first | (with_reducible first | exact HB.out | apply below_alloc | apply pw_below_drewN | apply below_drew1) | exact HB.out)) hb); clear HO234; clear HB; have HO234 := n0_; have HO237 := n1_; have HB := n2_; clear n0_ n1_ n2_; (try clear hb); (try clear hb2); (try clear hk); (try clear hi); (try clear ho0)))
              go_ret
              exact ⟨_, by first | rfl | (simp [errW_none, errW_some] <;> rfl) | (simp only [← hji3]; first | rfl | (simp [errW_none, errW_some] <;> rfl)) | (simp [*, errW_none, errW_some] <;> rfl), by (with_reducible repeat (first | apply Kd.R_alloc | apply Kd.R_drewN | apply Kd.R_drew)); exact Kd.R_mono HO237.out (fun _ hk => trivial), by repeat (first | (with_reducible first | exact HB.out | apply below_alloc | apply pw_below_drewN | apply below_drew1) | exact HB.out)⟩
            · rw [if_neg c15] at H
              exact absurd H (by simp)
    · rw [if_neg c5] at H
      exact absurd H (by simp)
  · rw [if_neg c4] at H
    exact absurd H (by simp)

/-! ### sibylref01_Cmp: function 70 -/
def sibylref01_Cmp.l0 : Nat → List Int → List Int → Int → Option (Int)
  | 0, _, _, _ => none
  | k + 1, x5, x6, x7 => if x7 ≥ 0 then (if 0 ≤ x7 then (if x7 < (x5.length : Int) then (if x7 < (x6.length : Int) then (if (rd x5 x7) < (rd x6 x7) then (some (-1)) else (if (rd x5 x7) > (rd x6 x7) then (some 1) else (sibylref01_Cmp.l0 k x5 x6 (wrap64 (x7 - 1))))) else (none)) else (none)) else (none)) else (some 0)
def sibylref01_Cmp.f (k : Nat) (l0 : List Int) (l1 : List Int) : Option (Int) := (sibylref01_Trim.f k l0).bind fun t238 => ((sibylref01_Trim.f k l1).bind fun t241 => (if (t238.length : Int) < (t241.length : Int) then (some (-1)) else (if (t238.length : Int) > (t241.length : Int) then (some 1) else (sibylref01_Cmp.l0 k t238 t241 (wrap64 ((t238.length : Int) - 1))))))
theorem sibylref01_Cmp.mono_l : ∀ k, (∀ y0 y1 y2, LeO (sibylref01_Cmp.l0 k y0 y1 y2) (sibylref01_Cmp.l0 (k + 1) y0 y1 y2))
  | 0 => fun _ _ _ r h => by simp [sibylref01_Cmp.l0] at h
  | k + 1 => by
    have ih0 := sibylref01_Cmp.mono_l k
    · intro y0 y1 y2
      unfold sibylref01_Cmp.l0
      repeat' first
      | (with_reducible exact ih0 _ _ _)
      | (with_reducible exact sibylref01_Trim.mono _ _)
      | (with_reducible exact LeO.refl _)
      | (with_reducible exact LeO.none _)
      | (with_reducible refine LeO.ite ?_ ?_)
      | (with_reducible refine LeO.bind ?_ (fun _ => ?_))
      | exact ih0 _ _ _
      | exact sibylref01_Trim.mono _ _
      | exact LeO.none _
      | refine LeO.ite ?_ ?_
      | refine LeO.bind ?_ (fun _ => ?_)
theorem sibylref01_Cmp.mono : ∀ a0 a1 k, LeO (sibylref01_Cmp.f k a0 a1) (sibylref01_Cmp.f (k + 1) a0 a1) := by
  intro a0 a1 k
  have ih0 := sibylref01_Cmp.mono_l k
  unfold sibylref01_Cmp.f
  repeat' first
      | (with_reducible exact ih0 _ _ _)
      | (with_reducible exact sibylref01_Trim.mono _ _)
      | (with_reducible exact LeO.refl _)
      | (with_reducible exact LeO.none _)
      | (with_reducible refine LeO.ite ?_ ?_)
      | (with_reducible refine LeO.bind ?_ (fun _ => ?_))
      | exact ih0 _ _ _
      | exact sibylref01_Trim.mono _ _
      | exact LeO.none _
      | refine LeO.ite ?_ ?_
      | refine LeO.bind ?_ (fun _ => ?_)
set_option maxHeartbeats 8000000 in
set_option maxRecDepth 100000 in
theorem sibylref01_Cmp.calls (k : Nat) (A0 : Option Addr) (c0 : Nat) (l0 : List Int) (A1 : Option Addr) (c1 : Nat) (l1 : List Int) (r : Int) (w : World) (hr0 : Kd.C (Kd.int .u32) w A0 l0.length l0) (hc0 : l0.length ≤ c0) (hr1 : Kd.C (Kd.int .u32) w A1 l1.length l1) (hc1 : l1.length ≤ c1) (h : sibylref01_Cmp.f k l0 l1 = some r) :
    Calls Try.prog 70 #[.slice A0 l0.length c0, .slice A1 l1.length c1] w fun e w' => e = .returned (.int .i64 r) ∧ Below w.heap.size w w' := by
  have HR0 := Aside0.mk hr0
  have HC0 := Aside0.mk hc0
  clear hr0 hc0
  have HR1 := Aside0.mk hr1
  have HC1 := Aside0.mk hc1
  clear hr1 hc1
  have HB := Aside0.mk (Below.refl w.heap.size w)
  have H : ((sibylref01_Trim.f k l0).bind fun t238 => ((sibylref01_Trim.f k l1).bind fun t241 => (if (t238.length : Int) < (t241.length : Int) then (some (-1)) else (if (t238.length : Int) > (t241.length : Int) then (some 1) else (sibylref01_Cmp.l0 k t238 t241 (wrap64 ((t238.length : Int) - 1))))))) = some r := h
  clear h
  replace H := Option.bind_eq_some_iff.mp H
  obtain ⟨t238, A30, H⟩ := H
  replace H : ((sibylref01_Trim.f k l1).bind fun t241 => (if (t238.length : Int) < (t241.length : Int) then (some (-1)) else (if (t238.length : Int) > (t241.length : Int) then (some 1) else (sibylref01_Cmp.l0 k t238 t241 (wrap64 ((t238.length : Int) - 1)))))) = some r := H
  have A3 := Aside0.mk A30
  clear A30
  replace H := Option.bind_eq_some_iff.mp H
  obtain ⟨t241, A40, H⟩ := H
  replace H : (if (t238.length : Int) < (t241.length : Int) then (some (-1)) else (if (t238.length : Int) > (t241.length : Int) then (some 1) else (sibylref01_Cmp.l0 k t238 t241 (wrap64 ((t238.length : Int) - 1))))) = some r := H
  have A4 := Aside0.mk A40
  clear A40
  by_cases c5 : (t238.length : Int) < (t241.length : Int)
  · rw [if_pos c5] at H
    have c5b0 : decide ((t238.length : Int) < (t241.length : Int)) = true := decide_eq_true c5
    have c5b1 : decide (t238.length < t241.length) = true := decide_eq_true (Int.ofNat_lt.mp c5)
    clear c5
    obtain rfl := Option.some.inj H
    go_enter Try.func70, Try.ntmps70
    go_wp2_with (first | (go_at_call 83; (with_reducible refine (sibylref01_Trim.calls k _ _ l0 t238 _ ?side1 ?side2 A3.out).mono ?_); (case side1 => repeat (first | exact HR0.out | (with_reducible refine Kd.C_alloc ?_ _) | (with_reducible refine Kd.C_drewN ?_ _) | (with_reducible refine Kd.C_drew ?_))); (case side2 => exact HC0.out); rintro e w6 ⟨v239, rfl, ho0, hb⟩; have n0_ := Aside0.mk (Kd.R_lower ho0 (below_size (by repeat (first | (with_reducible first | exact HB.out | apply below_alloc | apply pw_below_drewN | apply below_drew1) | exact HB.out)))); have n1_ := Aside0.mk (below_step (by repeat (first | (with_reducible first | exact HB.out | apply below_alloc | apply pw_below_drewN | apply below_drew1) | exact HB.out)) hb); clear HB; have HO240 := n0_; have HB := n1_; clear n0_ n1_; (try clear hb); (try clear hb2); (try clear hk); (try clear hi); (try clear ho0)) | (go_at_call 83; (with_reducible refine (sibylref01_Trim.calls k _ _ l1 t241 _ ?side1 ?side2 A4.out).mono ?_); (case side1 => repeat (first | exact (Kd.C_below HR1.out HB.out) | (with_reducible refine Kd.C_alloc ?_ _) | (with_reducible refine Kd.C_drewN ?_ _) | (with_reducible refine Kd.C_drew ?_))); (case side2 => exact HC1.out); rintro e w7 ⟨v242, rfl, ho0, hb⟩; have n0_ := Aside0.mk (Kd.R_elder' (by (with_reducible repeat (first | apply Kd.R_alloc | apply Kd.R_drewN | apply Kd.R_drew)); exact HO240.out) (Kd.R_base ho0) hb); have n1_ := Aside0.mk (Kd.R_lower (Kd.R_new' ho0 (Kd.R_lt (by (with_reducible repeat (first | apply Kd.R_alloc | apply Kd.R_drewN | apply Kd.R_drew)); exact HO240.out))) (below_size (by repeat (first | (with_reducible first | exact HB.out | apply below_alloc | apply pw_below_drewN | apply below_drew1) | exact HB.out)))); have n2_ := Aside0.mk (below_step (by repeat (first | (with_reducible first | exact HB.out | apply below_alloc | apply pw_below_drewN | apply below_drew1) | exact HB.out)) hb); clear HO240; clear HB; have HO240 := n0_; have HO243 := n1_; have HB := n2_; clear n0_ n1_ n2_; (try clear hb); (try clear hb2); (try clear hk); (try clear hi); (try clear ho0); obtain ⟨Ao8, co8, eo8⟩ := Kd.R_slice HO240.out; subst eo8; obtain ⟨Ao9, co9, eo9⟩ := Kd.R_slice HO243.out; subst eo9))
    repeat (go_quiet (first | (go_at_call 83; (with_reducible refine (sibylref01_Trim.calls k _ _ l0 t238 _ ?side1 ?side2 A3.out).mono ?_); (case side1 => repeat (first | exact HR0.out | (with_reducible refine Kd.C_alloc ?_ _) | (with_reducible refine Kd.C_drewN ?_ _) | (with_reducible refine Kd.C_drew ?_))); (case side2 => exact HC0.out); rintro e w6 ⟨v239, rfl, ho0, hb⟩; have n0_ := Aside0.mk (Kd.R_lower ho0 (below_size (by repeat (first | (with_reducible first | exact HB.out | apply below_alloc | apply pw_below_drewN | apply below_drew1) | exact HB.out)))); have n1_ := Aside0.mk (below_step (by repeat (first | (with_reducible first | exact HB.out | apply below_alloc | apply pw_below_drewN | apply below_drew1) | exact HB.out)) hb); clear HB; have HO240 := n0_; have HB := n1_; clear n0_ n1_; (try clear hb); (try clear hb2); (try clear hk); (try clear hi); (try clear ho0)) | (go_at_call 83; (with_reducible refine (sibylref01_Trim.calls k _ _ l1 t241 _ ?side1 ?side2 A4.out).mono ?_); (case side1 => repeat (first | exact (Kd.C_below HR1.out HB.out) | (with_reducible refine Kd.C_alloc ?_ _) | (with_reducible refine Kd.C_drewN ?_ _) | (with_reducible refine Kd.C_drew ?_))); (case side2 => exact HC1.out); rintro e w7 ⟨v242, rfl, ho0, hb⟩; have n0_ := Aside0.mk (Kd.R_elder' (by (with_reducible repeat (first | apply Kd.R_alloc | apply Kd.R_drewN | apply Kd.R_drew)); exact HO240.out) (Kd.R_base ho0) hb); have n1_ := Aside0.mk (Kd.R_lower (Kd.R_new' ho0 (Kd.R_lt (by (with_reducible repeat (first | apply Kd.R_alloc | apply Kd.R_drewN | apply Kd.R_drew)); exact HO240.out))) (below_size (by repeat (first | (with_reducible first | exact HB.out | apply below_alloc | apply pw_below_drewN | apply below_drew1) | exact HB.out)))); have n2_ := Aside0.mk (below_step (by repeat (first | (with_reducible first | exact HB.out | apply below_alloc | apply pw_below_drewN | apply below_drew1) | exact HB.out)) hb); clear HO240; clear HB; have HO240 := n0_; have HO243 := n1_; have HB := n2_; clear n0_ n1_ n2_; (try clear hb); (try clear hb2); (try clear hk); (try clear hi); (try clear ho0); obtain ⟨Ao8, co8, eo8⟩ := Kd.R_slice HO240.out; subst eo8; obtain ⟨Ao9, co9, eo9⟩ := Kd.R_slice HO243.out; subst eo9)); try go_wp2_with (first | (go_at_call 83; (with_reducible refine (sibylref01_Trim.calls k _ _ l0 t238 _ ?side1 ?side2 A3.out).mono ?_); (case side1 => repeat (first | exact HR0.out | (with_reducible refine Kd.C_alloc ?_ _) | (with_reducible refine Kd.C_drewN ?_ _) | (with_reducible refine Kd.C_drew ?_))); (case side2 => exact HC0.out); rintro e w6 ⟨v239, rfl, ho0, hb⟩; have n0_ := Aside0.mk (Kd.R_lower ho0 (below_size (by repeat (first | (with_reducible first | exact HB.out | apply below_alloc | apply pw_below_drewN | apply below_drew1) | exact HB.out)))); have n1_ := Aside0.mk (below_step (by repeat (first | (with_reducible first | exact HB.out | apply below_alloc | apply pw_below_drewN | apply below_drew1) | exact HB.out)) hb); clear HB; have HO240 := n0_; have HB := n1_; clear n0_ n1_; (try clear hb); (try clear hb2); (try clear hk); (try clear hi); (try clear ho0)) | (go_at_call 83; (with_reducible refine (sibylref01_Trim.calls k _ _ l1 t241 _ ?side1 ?side2 A4.out).mono ?_); (case side1 => repeat (first | exact (Kd.C_below HR1.out HB.out) | (with_reducible refine Kd.C_alloc ?_ _) | (with_reducible refine Kd.C_drewN ?_ _) | (with_reducible refine Kd.C_drew ?_))); (case side2 => exact HC1.out); rintro e w7 ⟨v242, rfl, ho0, hb⟩; have n0_ := Aside0.mk (Kd.R_elder' (by (with_reducible repeat (first | apply Kd.R_alloc | apply Kd.R_drewN | apply Kd.R_drew)); exact HO240.out) (Kd.R_base ho0) hb); have n1_ := Aside0.mk (Kd.R_lower (Kd.R_new' ho0 (Kd.R_lt (by (with_reducible repeat (first | apply Kd.R_alloc | apply Kd.R_drewN | apply Kd.R_drew)); exact HO240.out))) (below_size (by repeat (first | (with_reducible first | exact HB.out | apply below_alloc | apply pw_below_drewN | apply below_drew1) | exact HB.out)))); have n2_ := Aside0.mk (below_step (by repeat (first | (with_reducible first | exact HB.out | apply below_alloc | apply pw_below_drewN | apply below_drew1) | exact HB.out)) hb); clear HO240; clear HB; have HO240 := n0_; have HO243 := n1_; have HB := n2_; clear n0_ n1_ n2_; (try clear hb); (try clear hb2); (try clear hk); (try clear hi); (try clear ho0); obtain ⟨Ao8, co8, eo8⟩ := Kd.R_slice HO240.out; subst eo8; obtain ⟨Ao9, co9, eo9⟩ := Kd.R_slice HO243.out; subst eo9)))
    go_ret
    exact ⟨by first | rfl | (simp [errW_none, errW_some] <;> rfl) | (simp [*, errW_none, errW_some] <;> rfl), by repeat (first | (with_reducible first | exact HB.out | apply below_alloc | apply pw_below_drewN | apply below_drew1) | exact HB.out)⟩
  · rw [if_neg c5] at H
    have c5b0 : decide ((t238.length : Int) < (t241.length : Int)) = false := decide_eq_false c5
    have c5b1 : decide (t238.length < t241.length) = false := decide_eq_false (fun h => c5 (Int.ofNat_lt.mpr h))
    clear c5
    by_cases c10 : (t238.length : Int) > (t241.length : Int)
    · rw [if_pos c10] at H
      have c10b0 : decide ((t241.length : Int) < (t238.length : Int)) = true := decide_eq_true c10
      have c10b1 : decide (t241.length < t238.length) = true := decide_eq_true (Int.ofNat_lt.mp c10)
      clear c10
      obtain rfl := Option.some.inj H
      go_enter Try.func70, Try.ntmps70
      go_wp2_with (first | (go_at_call 83; (with_reducible refine (sibylref01_Trim.calls k _ _ l0 t238 _ ?side1 ?side2 A3.out).mono ?_); (case side1 => repeat (first | exact HR0.out | (with_reducible refine Kd.C_alloc ?_ _) | (with_reducible refine Kd.C_drewN ?_ _) | (with_reducible refine Kd.C_drew ?_))); (case side2 => exact HC0.out); rintro e w11 ⟨v239, rfl, ho0, hb⟩; have n0_ := Aside0.mk (Kd.R_lower ho0 (below_size (by repeat (first | (with_reducible first | exact HB.out | apply below_alloc | apply pw_below_drewN | apply below_drew1) | exact HB.out)))); have n1_ := Aside0.mk (below_step (by repeat (first | (with_reducible first | exact HB.out | apply below_alloc | apply pw_below_drewN | apply below_drew1) | exact HB.out)) hb); clear HB; have HO240 := n0_; have HB := n1_; clear n0_ n1_; (try clear hb); (try clear hb2); (try clear hk); (try clear hi); (try clear ho0)) | (go_at_call 83; (with_reducible refine (sibylref01_Trim.calls k _ _ l1 t241 _ ?side1 ?side2 A4.out).mono ?_); (case side1 => repeat (first | exact (Kd.C_below HR1.out HB.out) | (with_reducible refine Kd.C_alloc ?_ _) | (with_reducible refine Kd.C_drewN ?_ _) | (with_reducible refine Kd.C_drew ?_))); (case side2 => exact HC1.out); rintro e w12 ⟨v242, rfl, ho0, hb⟩; have n0_ := Aside0.mk (Kd.R_elder' (by (with_reducible repeat (first | apply Kd.R_alloc | apply Kd.R_drewN | apply Kd.R_drew)); exact HO240.out) (Kd.R_base ho0) hb); have n1_ := Aside0.mk (Kd.R_lower (Kd.R_new' ho0 (Kd.R_lt (by (with_reducible repeat (first | apply Kd.R_alloc | apply Kd.R_drewN | apply Kd.R_drew)); exact HO240.out))) (below_size (by repeat (first | (with_reducible first | exact HB.out | apply below_alloc | apply pw_below_drewN | apply below_drew1) | exact HB.out)))); have n2_ := Aside0.mk (below_step (by repeat (first | (with_reducible first | exact HB.out | apply below_alloc | apply pw_below_drewN | apply below_drew1) | exact HB.out)) hb); clear HO240; clear HB; have HO240 := n0_; have HO243 := n1_; have HB := n2_; clear n0_ n1_ n2_; (try clear hb); (try clear hb2); (try clear hk); (try clear hi); (try clear ho0); obtain ⟨Ao13, co13, eo13⟩ := Kd.R_slice HO240.out; subst eo13; obtain ⟨Ao14, co14, eo14⟩ := Kd.R_slice HO243.out; subst eo14))
      repeat (go_quiet (first | (go_at_call 83; (with_reducible refine (sibylref01_Trim.calls k _ _ l0 t238 _ ?side1 ?side2 A3.out).mono ?_); (case side1 => repeat (first | exact HR0.out | (with_reducible refine Kd.C_alloc ?_ _) | (with_reducible refine Kd.C_drewN ?_ _) | (with_reducible refine Kd.C_drew ?_))); (case side2 => exact HC0.out); rintro e w11 ⟨v239, rfl, ho0, hb⟩; have n0_ := Aside0.mk (Kd.R_lower ho0 (below_size (by repeat (first | (with_reducible first | exact HB.out | apply below_alloc | apply pw_below_drewN | apply below_drew1) | exact HB.out)))); have n1_ := Aside0.mk (below_step (by repeat (first | (with_reducible first | exact HB.out | apply below_alloc | apply pw_below_drewN | apply below_drew1) | exact HB.out)) hb); clear HB; have HO240 := n0_; have HB := n1_; clear n0_ n1_; (try clear hb); (try clear hb2); (try clear hk); (try clear hi); (try clear ho0)) | (go_at_call 83; (with_reducible refine (sibylref01_Trim.calls k _ _ l1 t241 _ ?side1 ?side2 A4.out).mono ?_); (case side1 => repeat (first | exact (Kd.C_below HR1.out HB.out) | (with_reducible refine Kd.C_alloc ?_ _) | (with_reducible refine Kd.C_drewN ?_ _) | (with_reducible refine Kd.C_drew ?_))); (case side2 => exact HC1.out); rintro e w12 ⟨v242, rfl, ho0, hb⟩; have n0_ := Aside0.mk (Kd.R_elder' (by (with_reducible repeat (first | apply Kd.R_alloc | apply Kd.R_drewN | apply Kd.R_drew)); exact HO240.out) (Kd.R_base ho0) hb); have n1_ := Aside0.mk (Kd.R_lower (Kd.R_new' ho0 (Kd.R_lt (by (with_reducible repeat (first | apply Kd.R_alloc | apply Kd.R_drewN | apply Kd.R_drew)); exact HO240.out))) (below_size (by repeat (first | (with_reducible first | exact HB.out | apply below_alloc | apply pw_below_drewN | apply below_drew1) | exact HB.out)))); have n2_ := Aside0.mk (below_step (by repeat (first | (with_reducible first | exact HB.out | apply below_alloc | apply pw_below_drewN | apply below_drew1) | exact HB.out)) hb); clear HO240; clear HB; have HO240 := n0_; have HO243 := n1_; have HB := n2_; clear n0_ n1_ n2_; (try clear hb); (try clear hb2); (try clear hk); (try clear hi); (try clear ho0); obtain ⟨Ao13, co13, eo13⟩ := Kd.R_slice HO240.out; subst eo13; obtain ⟨Ao14, co14, eo14⟩ := Kd.R_slice HO243.out; subst eo14)); try go_wp2_with (first | (go_at_call 83; (with_reducible refine (sibylref01_Trim.calls k _ _ l0 t238 _ ?side1 ?side2 A3.out).mono ?_); (case side1 => repeat (first | exact HR0.out | (with_reducible refine Kd.C_alloc ?_ _) | (with_reducible refine Kd.C_drewN ?_ _) | (with_reducible refine Kd.C_drew ?_))); (case side2 => exact HC0.out); rintro e w11 ⟨v239, rfl, ho0, hb⟩; have n0_ := Aside0.mk (Kd.R_lower ho0 (below_size (by repeat (first | (with_reducible first | exact HB.out | apply below_alloc | apply pw_below_drewN | apply below_drew1) | exact HB.out)))); have n1_ := Aside0.mk (below_step (by repeat (first | (with_reducible first | exact HB.out | apply below_alloc | apply pw_below_drewN | apply below_drew1) | exact HB.out)) hb); clear HB; have HO240 := n0_; have HB := n1_; clear n0_ n1_; (try clear hb); (try clear hb2); (try clear hk); (try clear hi); (try clear ho0)) | (go_at_call 83; (with_reducible refine (sibylref01_Trim.calls k _ _ l1 t241 _ ?side1 ?side2 A4.out).mono ?_); (case side1 => repeat (first | exact (Kd.C_below HR1.out HB.out) | (with_reducible refine Kd.C_alloc ?_ _) | (with_reducible refine Kd.C_drewN ?_ _) | (with_reducible refine Kd.C_drew ?_))); (case side2 => exact HC1.out); rintro e w12 ⟨v242, rfl, ho0, hb⟩; have n0_ := Aside0.mk (Kd.R_elder' (by (with_reducible repeat (first | apply Kd.R_alloc | apply Kd.R_drewN | apply Kd.R_drew)); exact HO240.out) (Kd.R_base ho0) hb); have n1_ := Aside0.mk (Kd.R_lower (Kd.R_new' ho0 (Kd.R_lt (by (with_reducible repeat (first | apply Kd.R_alloc | apply Kd.R_drewN | apply Kd.R_drew)); exact HO240.out))) (below_size (by repeat (first | (with_reducible first | exact HB.out | apply below_alloc | apply pw_below_drewN | apply below_drew1) | exact HB.out)))); have n2_ := Aside0.mk (below_step (by repeat (first | (with_reducible first | exact HB.out | apply below_alloc | apply pw_below_drewN | apply below_drew1) | exact HB.out)) hb); clear HO240; clear HB; have HO240 := n0_; have HO243 := n1_; have HB := n2_; clear n0_ n1_ n2_; (try clear hb); (try clear hb2); (try clear hk); (try clear hi); (try clear ho0); obtain ⟨Ao13, co13, eo13⟩ := Kd.R_slice HO240.out; subst eo13; obtain ⟨Ao14, co14, eo14⟩ := Kd.R_slice HO243.out; subst eo14)))
      go_ret
      exact ⟨by first | rfl | (simp [errW_none, errW_some] <;> rfl) | (simp [*, errW_none, errW_some] <;> rfl), by repeat (first | (with_reducible first | exact HB.out | apply below_alloc | apply pw_below_drewN | apply below_drew1) | exact HB.out)⟩
    · rw [if_neg c10] at H
      have c10b0 : decide ((t241.length : Int) < (t238.length : Int)) = false := decide_eq_false c10
      have c10b1 : decide (t241.length < t238.length) = false := decide_eq_false (fun h => c10 (Int.ofNat_lt.mpr h))
      clear c10
      have H' := Aside0.mk H
      clear H
      go_enter Try.func70, Try.ntmps70
      go_wp2_with (first | (go_at_call 83; (with_reducible refine (sibylref01_Trim.calls k _ _ l0 t238 _ ?side1 ?side2 A3.out).mono ?_); (case side1 => repeat (first | exact HR0.out | (with_reducible refine Kd.C_alloc ?_ _) | (with_reducible refine Kd.C_drewN ?_ _) | (with_reducible refine Kd.C_drew ?_))); (case side2 => exact HC0.out); rintro e w15 ⟨v239, rfl, ho0, hb⟩; have n0_ := Aside0.mk (Kd.R_lower ho0 (below_size (by repeat (first | (with_reducible first | exact HB.out | apply below_alloc | apply pw_below_drewN | apply below_drew1) | exact HB.out)))); have n1_ := Aside0.mk (below_step (by repeat (first | (with_reducible first | exact HB.out | apply below_alloc | apply pw_below_drewN | apply below_drew1) | exact HB.out)) hb); clear HB; have HO240 := n0_; have HB := n1_; clear n0_ n1_; (try clear hb); (try clear hb2); (try clear hk); (try clear hi); (try clear ho0)) | (go_at_call 83; (with_reducible refine (sibylref01_Trim.calls k _ _ l1 t241 _ ?side1 ?side2 A4.out).mono ?_); (case side1 => repeat (first | exact (Kd.C_below HR1.out HB.out) | (with_reducible refine Kd.C_alloc ?_ _) | (with_reducible refine Kd.C_drewN ?_ _) | (with_reducible refine Kd.C_drew ?_))); (case side2 => exact HC1.out); rintro e w16 ⟨v242, rfl, ho0, hb⟩; have n0_ := Aside0.mk (Kd.R_elder' (by (with_reducible repeat (first | apply Kd.R_alloc | apply Kd.R_drewN | apply Kd.R_drew)); exact HO240.out) (Kd.R_base ho0) hb); have n1_ := Aside0.mk (Kd.R_lower (Kd.R_new' ho0 (Kd.R_lt (by (with_reducible repeat (first | apply Kd.R_alloc | apply Kd.R_drewN | apply Kd.R_drew)); exact HO240.out))) (below_size (by repeat (first | (with_reducible first | exact HB.out | apply below_alloc | apply pw_below_drewN | apply below_drew1) | exact HB.out)))); have n2_ := Aside0.mk (below_step (by repeat (first | (with_reducible first | exact HB.out | apply below_alloc | apply pw_below_drewN | apply below_drew1) | exact HB.out)) hb); clear HO240; clear HB; have HO240 := n0_; have HO243 := n1_; have HB := n2_; clear n0_ n1_ n2_; (try clear hb); (try clear hb2); (try clear hk); (try clear hi); (try clear ho0); obtain ⟨Ao17, co17, eo17⟩ := Kd.R_slice HO240.out; subst eo17; obtain ⟨Ao18, co18, eo18⟩ := Kd.R_slice HO243.out; subst eo18))
      repeat (go_quiet (first | (go_at_call 83; (with_reducible refine (sibylref01_Trim.calls k _ _ l0 t238 _ ?side1 ?side2 A3.out).mono ?_); (case side1 => repeat (first | exact HR0.out | (with_reducible refine Kd.C_alloc ?_ _) | (with_reducible refine Kd.C_drewN ?_ _) | (with_reducible refine Kd.C_drew ?_))); (case side2 => exact HC0.out); rintro e w15 ⟨v239, rfl, ho0, hb⟩; have n0_ := Aside0.mk (Kd.R_lower ho0 (below_size (by repeat (first | (with_reducible first | exact HB.out | apply below_alloc | apply pw_below_drewN | apply below_drew1) | exact HB.out)))); have n1_ := Aside0.mk (below_step (by repeat (first | (with_reducible first | exact HB.out | apply below_alloc | apply pw_below_drewN | apply below_drew1) | exact HB.out)) hb); clear HB; have HO240 := n0_; have HB := n1_; clear n0_ n1_; (try clear hb); (try clear hb2); (try clear hk); (try clear hi); (try clear ho0)) | (go_at_call 83; (with_reducible refine (sibylref01_Trim.calls k _ _ l1 t241 _ ?side1 ?side2 A4.out).mono ?_); (case side1 => repeat (first | exact (Kd.C_below HR1.out HB.out) | (with_reducible refine Kd.C_alloc ?_ _) | (with_reducible refine Kd.C_drewN ?_ _) | (with_reducible refine Kd.C_drew ?_))); (case side2 => exact HC1.out); rintro e w16 ⟨v242, rfl, ho0, hb⟩; have n0_ := Aside0.mk (Kd.R_elder' (by (with_reducible repeat (first | apply Kd.R_alloc | apply Kd.R_drewN | apply Kd.R_drew)); exact HO240.out) (Kd.R_base ho0) hb); have n1_ := Aside0.mk (Kd.R_lower (Kd.R_new' ho0 (Kd.R_lt (by (with_reducible repeat (first | apply Kd.R_alloc | apply Kd.R_drewN | apply Kd.R_drew)); exact HO240.out))) (below_size (by repeat (first | (with_reducible first | exact HB.out | apply below_alloc | apply pw_below_drewN | apply below_drew1) | exact HB.out)))); have n2_ := Aside0.mk (below_step (by repeat (first | (with_reducible first | exact HB.out | apply below_alloc | apply pw_below_drewN | apply below_drew1) | exact HB.out)) hb); clear HO240; clear HB; have HO240 := n0_; have HO243 := n1_; have HB := n2_; clear n0_ n1_ n2_; (try clear hb); (try clear hb2); (try clear hk); (try clear hi); (try clear ho0); obtain ⟨Ao17, co17, eo17⟩ := Kd.R_slice HO240.out; subst eo17; obtain ⟨Ao18, co18, eo18⟩ := Kd.R_slice HO243.out; subst eo18)); try go_wp2_with (first | (go_at_call 83; (with_reducible refine (sibylref01_Trim.calls k _ _ l0 t238 _ ?side1 ?side2 A3.out).mono ?_); (case side1 => repeat (first | exact HR0.out | (with_reducible refine Kd.C_alloc ?_ _) | (with_reducible refine Kd.C_drewN ?_ _) | (with_reducible refine Kd.C_drew ?_))); (case side2 => exact HC0.out); rintro e w15 ⟨v239, rfl, ho0, hb⟩; have n0_ := Aside0.mk (Kd.R_lower ho0 (below_size (by repeat (first | (with_reducible first | exact HB.out | apply below_alloc | apply pw_below_drewN | apply below_drew1) | exact HB.out)))); have n1_ := Aside0.mk (below_step (by repeat (first | (with_reducible first | exact HB.out | apply below_alloc | apply pw_below_drewN | apply below_drew1) | exact HB.out)) hb); clear HB; have HO240 := n0_; have HB := n1_; clear n0_ n1_; (try clear hb); (try clear hb2); (try clear hk); (try clear hi); (try clear ho0)) | (go_at_call 83; (with_reducible refine (sibylref01_Trim.calls k _ _ l1 t241 _ ?side1 ?side2 A4.out).mono ?_); (case side1 => repeat (first | exact (Kd.C_below HR1.out HB.out) | (with_reducible refine Kd.C_alloc ?_ _) | (with_reducible refine Kd.C_drewN ?_ _) | (with_reducible refine Kd.C_drew ?_))); (case side2 => exact HC1.out); rintro e w16 ⟨v242, rfl, ho0, hb⟩; have n0_ := Aside0.mk (Kd.R_elder' (by (with_reducible repeat (first | apply Kd.R_alloc | apply Kd.R_drewN | apply Kd.R_drew)); exact HO240.out) (Kd.R_base ho0) hb); have n1_ := Aside0.mk (Kd.R_lower (Kd.R_new' ho0 (Kd.R_lt (by (with_reducible repeat (first | apply Kd.R_alloc | apply Kd.R_drewN | apply Kd.R_drew)); exact HO240.out))) (below_size (by repeat (first | (with_reducible first | exact HB.out | apply below_alloc | apply pw_below_drewN | apply below_drew1) | exact HB.out)))); have n2_ := Aside0.mk (below_step (by repeat (first | (with_reducible first | exact HB.out | apply below_alloc | apply pw_below_drewN | apply below_drew1) | exact HB.out)) hb); clear HO240; clear HB; have HO240 := n0_; have HO243 := n1_; have HB := n2_; clear n0_ n1_ n2_; (try clear hb); (try clear hb2); (try clear hk); (try clear hi); (try clear ho0); obtain ⟨Ao17, co17, eo17⟩ := Kd.R_slice HO240.out; subst eo17; obtain ⟨Ao18, co18, eo18⟩ := Kd.R_slice HO243.out; subst eo18)))
      go_loopg [7] k (fun kq v7 w' => ∃ (x7_1 : Int), v7 = .int .i64 x7_1 ∧ Aside0 (sibylref01_Cmp.l0 kq t238 t241 x7_1 = some r) ∧ Aside0 (kq ≤ k) ∧ Aside0 (Kd.R (Kd.int .u32) 99 w' w.heap.size (fun k_ => some k_ ≠ ((.slice Ao18 t241.length co18) : Value).ownBlock) (.slice Ao17 t238.length co17) t238) ∧ Aside0 (Kd.R (Kd.int .u32) 99 w' w.heap.size (fun k_ => some k_ ≠ ((.slice Ao17 t238.length co17) : Value).ownBlock) (.slice Ao18 t241.length co18) t241) ∧ Aside0 (Below w.heap.size w w'))
      case atStart => exact ⟨(wrap64 ((t238.length : Int) - 1)), (by first | rfl | (simp; done) | (simp [*]; done)), H', ⟨Nat.le_refl _⟩, ⟨by (with_reducible repeat (first | apply Kd.R_alloc | apply Kd.R_drewN | apply Kd.R_drew)); exact Kd.R_mono HO240.out (fun _ hk => hk.2)⟩, ⟨by (with_reducible repeat (first | apply Kd.R_alloc | apply Kd.R_drewN | apply Kd.R_drew)); exact Kd.R_mono HO243.out (fun _ hk => hk.2)⟩, ⟨by repeat (first | (with_reducible first | exact HB.out | apply below_alloc | apply pw_below_drewN | apply below_drew1) | exact HB.out)⟩⟩
      case round =>
        clear H'
        try clear c1
        try clear p2
        try clear c5
        try clear c5b0
        try clear c5b1
        try clear p6
        try clear c7
        try clear c10
        try clear c10b0
        try clear c10b1
        obtain ⟨x7_1, rfl, HA, HK1, HO_5, HO_6, HB⟩ := hrel
        cases gk with
        | zero => exact absurd HA.out (by simp [sibylref01_Cmp.l0])
        | succ k1 =>
          have H := HA.out
          clear HA
          simp only [sibylref01_Cmp.l0] at H
          by_cases c19 : x7_1 ≥ 0
          · rw [if_pos c19] at H
            have c19b0 : decide (0 ≤ x7_1) = true := decide_eq_true c19
            clear c19
            by_cases c20 : 0 ≤ x7_1
            · rw [if_pos c20] at H
              have c20b0 : decide (0 ≤ x7_1) = true := decide_eq_true c20
              clear c20
              by_cases c21 : x7_1 < (t238.length : Int)
              · rw [if_pos c21] at H
                have c21b0 : decide (x7_1 < (t238.length : Int)) = true := decide_eq_true c21
                clear c21
                by_cases c22 : x7_1 < (t241.length : Int)
                · rw [if_pos c22] at H
                  have c22b0 : decide (x7_1 < (t241.length : Int)) = true := decide_eq_true c22
                  clear c22
                  by_cases c23 : (rd t238 x7_1) < (rd t241 x7_1)
                  · rw [if_pos c23] at H
                    have c23b0 : decide ((rd t238 x7_1) < (rd t241 x7_1)) = true := decide_eq_true c23
                    clear c23
                    obtain rfl := Option.some.inj H
                    have p244 : 0 ≤ (x7_1 : Int) := of_decide_eq_true (by first | (with_reducible assumption) | assumption)
                    have q244 : x7_1 < (t238.length : Int) := of_decide_eq_true (by first | (with_reducible assumption) | assumption)
                    obtain ⟨ad244, e244, hx244_0⟩ := Kd.at_int (Kd.R_reads' HO_5.out).2.2 x7_1 p244 q244
                    cases e244
                    replace p244 := eq_true p244
                    replace q244 := eq_true q244
                    have p245 : 0 ≤ (x7_1 : Int) := of_decide_eq_true (by first | (with_reducible assumption) | assumption)
                    have q245 : x7_1 < (t241.length : Int) := of_decide_eq_true (by first | (with_reducible assumption) | assumption)
                    obtain ⟨ad245, e245, hx245_0⟩ := Kd.at_int (Kd.R_reads' HO_6.out).2.2 x7_1 p245 q245
                    cases e245
                    replace p245 := eq_true p245
                    replace q245 := eq_true q245
                    go_wp2
                    repeat (go_quiet (fail); try go_wp2)
                    go_ret
                    exact ⟨by first | rfl | (simp [errW_none, errW_some] <;> rfl) | (simp [*, errW_none, errW_some] <;> rfl), by repeat (first | (with_reducible first | exact HB.out | apply below_alloc | apply pw_below_drewN | apply below_drew1) | exact HB.out)⟩
                  · rw [if_neg c23] at H
                    have c23b0 : decide ((rd t238 x7_1) < (rd t241 x7_1)) = false := decide_eq_false c23
                    clear c23
                    by_cases c24 : (rd t238 x7_1) > (rd t241 x7_1)
                    · rw [if_pos c24] at H
                      have c24b0 : decide ((rd t241 x7_1) < (rd t238 x7_1)) = true := decide_eq_true c24
                      clear c24
                      obtain rfl := Option.some.inj H
                      have p244 : 0 ≤ (x7_1 : Int) := of_decide_eq_true (by first | (with_reducible assumption) | assumption)
                      have q244 : x7_1 < (t238.length : Int) := of_decide_eq_true (by first | (with_reducible assumption) | assumption)
                      obtain ⟨ad244, e244, hx244_0⟩ := Kd.at_int (Kd.R_reads' HO_5.out).2.2 x7_1 p244 q244
                      cases e244
                      replace p244 := eq_true p244
                      replace q244 := eq_true q244
                      have p245 : 0 ≤ (x7_1 : Int) := of_decide_eq_true (by first | (with_reducible assumption) | assumption)
                      have q245 : x7_1 < (t241.length : Int) := of_decide_eq_true (by first | (with_reducible assumption) | assumption)
                      obtain ⟨ad245, e245, hx245_0⟩ := Kd.at_int (Kd.R_reads' HO_6.out).2.2 x7_1 p245 q245
                      cases e245
                      replace p245 := eq_true p245
                      replace q245 := eq_true q245
                      have p246 : 0 ≤ (x7_1 : Int) := of_decide_eq_true (by first | (with_reducible assumption) | assumption)
                      have q246 : x7_1 < (t238.length : Int) := of_decide_eq_true (by first | (with_reducible assumption) | assumption)
                      obtain ⟨ad246, e246, hx246_0⟩ := Kd.at_int (Kd.R_reads' HO_5.out).2.2 x7_1 p246 q246
                      obtain rfl : ad244 = ad246 := (by injection e246)
                      replace p246 := eq_true p246
                      replace q246 := eq_true q246
                      have p247 : 0 ≤ (x7_1 : Int) := of_decide_eq_true (by first | (with_reducible assumption) | assumption)
                      have q247 : x7_1 < (t241.length : Int) := of_decide_eq_true (by first | (with_reducible assumption) | assumption)
                      obtain ⟨ad247, e247, hx247_0⟩ := Kd.at_int (Kd.R_reads' HO_6.out).2.2 x7_1 p247 q247
                      obtain rfl : ad245 = ad247 := (by injection e247)
                      replace p247 := eq_true p247
                      replace q247 := eq_true q247
                      go_wp2
                      repeat (go_quiet (fail); try go_wp2)
                      go_ret
                      exact ⟨by first | rfl | (simp [errW_none, errW_some] <;> rfl) | (simp [*, errW_none, errW_some] <;> rfl), by repeat (first | (with_reducible first | exact HB.out | apply below_alloc | apply pw_below_drewN | apply below_drew1) | exact HB.out)⟩
                    · rw [if_neg c24] at H
                      have c24b0 : decide ((rd t241 x7_1) < (rd t238 x7_1)) = false := decide_eq_false c24
                      clear c24
                      have H' := Aside0.mk H
                      clear H
                      have p244 : 0 ≤ (x7_1 : Int) := of_decide_eq_true (by first | (with_reducible assumption) | assumption)
                      have q244 : x7_1 < (t238.length : Int) := of_decide_eq_true (by first | (with_reducible assumption) | assumption)
                      obtain ⟨ad244, e244, hx244_0⟩ := Kd.at_int (Kd.R_reads' HO_5.out).2.2 x7_1 p244 q244
                      cases e244
                      replace p244 := eq_true p244
                      replace q244 := eq_true q244
                      have p245 : 0 ≤ (x7_1 : Int) := of_decide_eq_true (by first | (with_reducible assumption) | assumption)
                      have q245 : x7_1 < (t241.length : Int) := of_decide_eq_true (by first | (with_reducible assumption) | assumption)
                      obtain ⟨ad245, e245, hx245_0⟩ := Kd.at_int (Kd.R_reads' HO_6.out).2.2 x7_1 p245 q245
                      cases e245
                      replace p245 := eq_true p245
                      replace q245 := eq_true q245
                      have p246 : 0 ≤ (x7_1 : Int) := of_decide_eq_true (by first | (with_reducible assumption) | assumption)
                      have q246 : x7_1 < (t238.length : Int) := of_decide_eq_true (by first | (with_reducible assumption) | assumption)
                      obtain ⟨ad246, e246, hx246_0⟩ := Kd.at_int (Kd.R_reads' HO_5.out).2.2 x7_1 p246 q246
                      obtain rfl : ad244 = ad246 := (by injection e246)
                      replace p246 := eq_true p246
                      replace q246 := eq_true q246
                      have p247 : 0 ≤ (x7_1 : Int) := of_decide_eq_true (by first | (with_reducible assumption) | assumption)
                      have q247 : x7_1 < (t241.length : Int) := of_decide_eq_true (by first | (with_reducible assumption) | assumption)
                      obtain ⟨ad247, e247, hx247_0⟩ := Kd.at_int (Kd.R_reads' HO_6.out).2.2 x7_1 p247 q247
                      obtain rfl : ad245 = ad247 := (by injection e247)
                      replace p247 := eq_true p247
                      replace q247 := eq_true q247
                      go_wp2
                      repeat (go_quiet (fail); try go_wp2)
                      go_roundg k1
                      case measure => have := HK1.out; omega
                      case rel => exact ⟨(wrap64 (x7_1 - 1)), (by first | rfl | (simp; done) | (simp [*]; done)), H', ⟨by have := HK1.out; omega⟩, ⟨by (with_reducible repeat (first | apply Kd.R_alloc | apply Kd.R_drewN | apply Kd.R_drew)); exact HO_5.out⟩, ⟨by (with_reducible repeat (first | apply Kd.R_alloc | apply Kd.R_drewN | apply Kd.R_drew)); exact HO_6.out⟩, ⟨by repeat (first | (with_reducible first | exact HB.out | apply below_alloc | apply pw_below_drewN | apply below_drew1) | exact HB.out)⟩⟩
                · rw [if_neg c22] at H
                  exact absurd H (by simp)
              · rw [if_neg c21] at H
                exact absurd H (by simp)
            · rw [if_neg c20] at H
              exact absurd H (by simp)
          · rw [if_neg c19] at H
            have c19b0 : decide (0 ≤ x7_1) = false := decide_eq_false c19
            clear c19
            obtain rfl := Option.some.inj H
            go_wp2
            repeat (go_quiet (fail); try go_wp2)
            go_ret
            exact ⟨by first | rfl | (simp [errW_none, errW_some] <;> rfl) | (simp [*, errW_none, errW_some] <;> rfl), by repeat (first | (with_reducible first | exact HB.out | apply below_alloc | apply pw_below_drewN | apply below_drew1) | exact HB.out)⟩

/-! ### sibylref01_Minus: function 71 -/
def sibylref01_Minus.l0 : Nat → List Int → List Int → Int → Int → Option (List Int)
  | 0, _, _, _, _ => none
  | k + 1, x5, x6, x7, x8 => if x8 < (x5.length : Int) then (if 0 ≤ x8 then (if x8 < (x6.length : Int) then (if (wrap64 ((wrap64 ((wrap64 (rd x5 x8)) - x7)) - (wrap64 (rd x6 x8)))) < 0 then (sibylref01_Minus.l0 k (x5.set (x8 : Int).toNat ((wrap64 ((wrap64 ((wrap64 ((wrap64 (rd x5 x8)) - x7)) - (wrap64 (rd x6 x8)))) + 4294967296)) % 4294967296)) x6 1 (wrap64 (x8 + 1))) else (sibylref01_Minus.l0 k (x5.set (x8 : Int).toNat ((wrap64 ((wrap64 ((wrap64 (rd x5 x8)) - x7)) - (wrap64 (rd x6 x8)))) % 4294967296)) x6 0 (wrap64 (x8 + 1)))) else (if (wrap64 ((wrap64 (rd x5 x8)) - x7)) < 0 then (sibylref01_Minus.l0 k (x5.set (x8 : Int).toNat ((wrap64 ((wrap64 ((wrap64 (rd x5 x8)) - x7)) + 4294967296)) % 4294967296)) x6 1 (wrap64 (x8 + 1))) else (sibylref01_Minus.l0 k (x5.set (x8 : Int).toNat ((wrap64 ((wrap64 (rd x5 x8)) - x7)) % 4294967296)) x6 0 (wrap64 (x8 + 1))))) else (none)) else ((sibylref01_Trim.f k x5).bind fun t254 => (some t254))
def sibylref01_Minus.f (k : Nat) (l0 : List Int) (l1 : List Int) : Option (List Int) := (sibylref01_Trim.f k l0).bind fun t248 => ((sibylref01_Trim.f k l1).bind fun t251 => (sibylref01_Minus.l0 k t248 t251 0 0))
theorem sibylref01_Minus.mono_l : ∀ k, (∀ y0 y1 y2 y3, LeO (sibylref01_Minus.l0 k y0 y1 y2 y3) (sibylref01_Minus.l0 (k + 1) y0 y1 y2 y3))
  | 0 => fun _ _ _ _ r h => by simp [sibylref01_Minus.l0] at h
  | k + 1 => by
    have ih0 := sibylref01_Minus.mono_l k
    · intro y0 y1 y2 y3
      unfold sibylref01_Minus.l0
      repeat' first
      | (with_reducible exact ih0 _ _ _ _)
      | (with_reducible exact sibylref01_Trim.mono _ _)
      | (with_reducible exact LeO.refl _)
      | (with_reducible exact LeO.none _)
      | (with_reducible refine LeO.ite ?_ ?_)
      | (with_reducible refine LeO.bind ?_ (fun _ => ?_))
      | exact ih0 _ _ _ _
      | exact sibylref01_Trim.mono _ _
      | exact LeO.none _
      | refine LeO.ite ?_ ?_
      | refine LeO.bind ?_ (fun _ => ?_)
theorem sibylref01_Minus.mono : ∀ a0 a1 k, LeO (sibylref01_Minus.f k a0 a1) (sibylref01_Minus.f (k + 1) a0 a1) := by
  intro a0 a1 k
  have ih0 := sibylref01_Minus.mono_l k
  unfold sibylref01_Minus.f
  repeat' first
      | (with_reducible exact ih0 _ _ _ _)
      | (with_reducible exact sibylref01_Trim.mono _ _)
      | (with_reducible exact LeO.refl _)
      | (with_reducible exact LeO.none _)
      | (with_reducible refine LeO.ite ?_ ?_)
      | (with_reducible refine LeO.bind ?_ (fun _ => ?_))
      | exact ih0 _ _ _ _
      | exact sibylref01_Trim.mono _ _
      | exact LeO.none _
      | refine LeO.ite ?_ ?_
      | refine LeO.bind ?_ (fun _ => ?_)
set_option maxHeartbeats 8000000 in
set_option maxRecDepth 100000 in
theorem sibylref01_Minus.calls (k : Nat) (A0 : Option Addr) (c0 : Nat) (l0 : List Int) (A1 : Option Addr) (c1 : Nat) (l1 : List Int) (r : List Int) (w : World) (hr0 : Kd.C (Kd.int .u32) w A0 l0.length l0) (hc0 : l0.length ≤ c0) (hr1 : Kd.C (Kd.int .u32) w A1 l1.length l1) (hc1 : l1.length ≤ c1) (h : sibylref01_Minus.f k l0 l1 = some r) :
    Calls Try.prog 71 #[.slice A0 l0.length c0, .slice A1 l1.length c1] w fun e w' => ∃ v0_ : Value, e = .returned (v0_) ∧ Kd.R (Kd.int .u32) 99 w' w.heap.size (fun _ => True) v0_ r ∧ Below w.heap.size w w' := by
  have HR0 := Aside0.mk hr0
  have HC0 := Aside0.mk hc0
  clear hr0 hc0
  have HR1 := Aside0.mk hr1
  have HC1 := Aside0.mk hc1
  clear hr1 hc1
  have HB := Aside0.mk (Below.refl w.heap.size w)
  have H : ((sibylref01_Trim.f k l0).bind fun t248 => ((sibylref01_Trim.f k l1).bind fun t251 => (sibylref01_Minus.l0 k t248 t251 0 0))) = some r := h
  clear h
  replace H := Option.bind_eq_some_iff.mp H
  obtain ⟨t248, A30, H⟩ := H
  replace H : ((sibylref01_Trim.f k l1).bind fun t251 => (sibylref01_Minus.l0 k t248 t251 0 0)) = some r := H
  have A3 := Aside0.mk A30
  clear A30
  replace H := Option.bind_eq_some_iff.mp H
  obtain ⟨t251, A40, H⟩ := H
  replace H : (sibylref01_Minus.l0 k t248 t251 0 0) = some r := H
  have A4 := Aside0.mk A40
  clear A40
  have H' := Aside0.mk H
  clear H
  go_enter Try.func71, Try.ntmps71
  go_wp2_with (first | ((with_reducible refine gate_callee (f := 83) rfl ?_); refine goesL_ (some 11) rfl rfl Try.func83 (by kernel_rfl) rfl #[.slice A0 l0.length c0] rfl (by (try simp only [List.map_toArray, List.map_cons, List.map_nil]); first | done | rfl | (simp only [List.length_drop, List.length_take]; rfl)) ?_; (with_reducible refine (sibylref01_Trim.calls k _ _ l0 t248 _ ?side1 ?side2 A3.out).mono ?_); (case side1 => repeat (first | exact HR0.out | (with_reducible refine Kd.C_alloc ?_ _) | (with_reducible refine Kd.C_drewN ?_ _) | (with_reducible refine Kd.C_drew ?_))); (case side2 => exact HC0.out); rintro e w5 ⟨v249, rfl, ho0, hb⟩; refine ⟨_, rfl, ?_⟩; have n0_ := Aside0.mk (Kd.R_lower ho0 (below_size (by repeat (first | (with_reducible first | exact HB.out | apply below_alloc | apply pw_below_drewN | apply below_drew1) | exact HB.out)))); have n1_ := Aside0.mk (below_step (by repeat (first | (with_reducible first | exact HB.out | apply below_alloc | apply pw_below_drewN | apply below_drew1) | exact HB.out)) hb); clear HB; have HO250 := n0_; have HB := n1_; clear n0_ n1_; (try clear hb); (try clear hb2); (try clear hk); (try clear hi); (try clear ho0)) | ((with_reducible refine gate_callee (f := 83) rfl ?_); refine goesL_ (some 13) rfl rfl Try.func83 (by kernel_rfl) rfl #[.slice A1 l1.length c1] rfl (by (try simp only [List.map_toArray, List.map_cons, List.map_nil]); first | done | rfl | (simp only [List.length_drop, List.length_take]; rfl)) ?_; (with_reducible refine (sibylref01_Trim.calls k _ _ l1 t251 _ ?side1 ?side2 A4.out).mono ?_); (case side1 => repeat (first | exact (Kd.C_below HR1.out HB.out) | (with_reducible refine Kd.C_alloc ?_ _) | (with_reducible refine Kd.C_drewN ?_ _) | (with_reducible refine Kd.C_drew ?_))); (case side2 => exact HC1.out); rintro e w6 ⟨v252, rfl, ho0, hb⟩; refine ⟨_, rfl, ?_⟩; have n0_ := Aside0.mk (Kd.R_elder' (by (with_reducible repeat (first | apply Kd.R_alloc | apply Kd.R_drewN | apply Kd.R_drew)); exact HO250.out) (Kd.R_base ho0) hb); have n1_ := Aside0.mk (Kd.R_lower (Kd.R_new' ho0 (Kd.R_lt (by (with_reducible repeat (first | apply Kd.R_alloc | apply Kd.R_drewN | apply Kd.R_drew)); exact HO250.out))) (below_size (by repeat (first | (with_reducible first | exact HB.out | apply below_alloc | apply pw_below_drewN | apply below_drew1) | exact HB.out)))); have n2_ := Aside0.mk (below_step (by repeat (first | (with_reducible first | exact HB.out | apply below_alloc | apply pw_below_drewN | apply below_drew1) | exact HB.out)) hb); clear HO250; clear HB; have HO250 := n0_; have HO253 := n1_; have HB := n2_; clear n0_ n1_ n2_; (try clear hb); (try clear hb2); (try clear hk); (try clear hi); (try clear ho0)))
  go_loopg [7, 8] k (fun kq v7 v8 w' => ∃ (x5_1 : List Int) (x7_1 : Int) (x8_1 : Int), v7 = .int .i64 x7_1 ∧ v8 = .int .i64 x8_1 ∧ Aside0 (sibylref01_Minus.l0 kq x5_1 t251 x7_1 x8_1 = some r) ∧ Aside0 (kq ≤ k) ∧ Aside0 (Kd.R (Kd.int .u32) 99 w' w.heap.size (fun k_ => some k_ ≠ (v252 : Value).ownBlock) v249 x5_1) ∧ Aside0 (Kd.R (Kd.int .u32) 99 w' w.heap.size (fun k_ => some k_ ≠ (v249 : Value).ownBlock) v252 t251) ∧ Aside0 (Below w.heap.size w w'))
  case atStart => exact ⟨(t248), (0), (0), (by first | rfl | (simp; done) | (simp [*]; done)), (by first | rfl | (simp; done) | (simp [*]; done)), H', ⟨Nat.le_refl _⟩, ⟨by (with_reducible repeat (first | apply Kd.R_alloc | apply Kd.R_drewN | apply Kd.R_drew)); exact Kd.R_mono HO250.out (fun _ hk => hk.2)⟩, ⟨by (with_reducible repeat (first | apply Kd.R_alloc | apply Kd.R_drewN | apply Kd.R_drew)); exact Kd.R_mono HO253.out (fun _ hk => hk.2)⟩, ⟨by repeat (first | (with_reducible first | exact HB.out | apply below_alloc | apply pw_below_drewN | apply below_drew1) | exact HB.out)⟩⟩
  case round =>
    clear H'
    try clear c1
    try clear p2
    obtain ⟨x5_1, x7_1, x8_1, rfl, rfl, HA, HK1, HO_5, HO_6, HB⟩ := hrel
    cases gk with
    | zero => exact absurd HA.out (by simp [sibylref01_Minus.l0])
    | succ k1 =>
      have H := HA.out
      clear HA
      simp only [sibylref01_Minus.l0] at H
      by_cases c7 : x8_1 < (x5_1.length : Int)
      · rw [if_pos c7] at H
        have c7b0 : decide (x8_1 < (x5_1.length : Int)) = true := decide_eq_true c7
        clear c7
        by_cases c8 : 0 ≤ x8_1
        · rw [if_pos c8] at H
          have c8b0 : decide (0 ≤ x8_1) = true := decide_eq_true c8
          clear c8
          by_cases c9 : x8_1 < (t251.length : Int)
          · rw [if_pos c9] at H
            have c9b0 : decide (x8_1 < (t251.length : Int)) = true := decide_eq_true c9
            clear c9
            by_cases c10 : (wrap64 ((wrap64 ((wrap64 (rd x5_1 x8_1)) - x7_1)) - (wrap64 (rd t251 x8_1)))) < 0
            · rw [if_pos c10] at H
              have c10b0 : decide ((wrap64 ((wrap64 ((wrap64 (rd x5_1 x8_1)) - x7_1)) - (wrap64 (rd t251 x8_1)))) < 0) = true := decide_eq_true c10
              clear c10
              obtain ⟨y259, hy259⟩ : ∃ y_ : List Int, y_ = (x5_1.set (x8_1 : Int).toNat ((wrap64 ((wrap64 ((wrap64 ((wrap64 (rd x5_1 x8_1)) - x7_1)) - (wrap64 (rd t251 x8_1)))) + 4294967296)) % 4294967296)) := ⟨_, rfl⟩
              replace H : (sibylref01_Minus.l0 k1 y259 t251 1 (wrap64 (x8_1 + 1))) = some r := by first | (rw [hy259]; with_reducible exact H) | (have H2_ := (Option.bind_some _ _).symm.trans H; rw [hy259]; with_reducible exact H2_) | (have H2_ := (Option.bind_some _ _).symm.trans H; with_reducible exact H2_) | with_reducible exact H | (rw [hy259]; exact H) | exact H
              have Ny259 := Aside0.mk hy259
              clear hy259
              have H' := Aside0.mk H
              clear H
              obtain ⟨Ao12, co12, eo12⟩ := Kd.R_slice HO_5.out
              subst eo12
              have p257 : 0 ≤ (x8_1 : Int) := of_decide_eq_true (by first | (with_reducible assumption) | assumption)
              have q257 : x8_1 < (x5_1.length : Int) := of_decide_eq_true (by first | (with_reducible assumption) | assumption)
              obtain ⟨ad257, e257, hx257_0⟩ := Kd.at_int (Kd.R_reads' HO_5.out).2.2 x8_1 p257 q257
              cases e257
              replace p257 := eq_true p257
              replace q257 := eq_true q257
              obtain ⟨Ao13, co13, eo13⟩ := Kd.R_slice HO_6.out
              subst eo13
              have p258 : 0 ≤ (x8_1 : Int) := of_decide_eq_true (by first | (with_reducible assumption) | assumption)
              have q258 : x8_1 < (t251.length : Int) := of_decide_eq_true (by first | (with_reducible assumption) | assumption)
              obtain ⟨ad258, e258, hx258_0⟩ := Kd.at_int (Kd.R_reads' HO_6.out).2.2 x8_1 p258 q258
              cases e258
              replace p258 := eq_true p258
              replace q258 := eq_true q258
              have p11 : 0 ≤ (x8_1 : Int) := of_decide_eq_true (by first | (with_reducible assumption) | assumption)
              have q11 : (x8_1 : Int) < ((x5_1.length : Int) : Int) := of_decide_eq_true (by first | (with_reducible assumption) | assumption)
              obtain ⟨go11, co11, eo11, gb11, gl11, cl11, HG11⟩ := Kd.R_form HO_5.out (by omega)
              (first | cases eo11 | (injection eo11 with ea_ en_ ec_; (first | subst ea_ | (injection ea_ with ea_; subst ea_)); subst ec_; clear en_))
              have GB11 := Aside0.mk gb11
              have GG11 := Aside0.mk HG11
              clear gb11 gl11 HG11
              (first | simp only [add_plain] at hx257_0 | skip)
              obtain ⟨hx11_0, hf11_0⟩ := Kd.R_celln 0 HO_5.out (x8_1 : Int) p11 q11
              replace p11 := eq_true p11
              replace q11 := eq_true q11
              have HP14 := Kd.R_putg HO_5.out (x8_1 : Int) ((wrap64 ((wrap64 ((wrap64 ((wrap64 (rd x5_1 x8_1)) - x7_1)) - (wrap64 (rd t251 x8_1)))) + 4294967296)) % 4294967296)
              go_wp2_with (first | ((with_reducible refine gate_store (t := 99) (p := 46) rfl ?_); refine store_event (t := 99) (p := 46) (v := ?vo_w15) (w1 := (wr.setCell ⟨go11, (x8_1 : Int).toNat, none⟩ (.int .u32 ((wrap64 ((wrap64 ((wrap64 ((wrap64 (rd x5_1 x8_1)) - x7_1)) - (wrap64 (rd t251 x8_1)))) + 4294967296)) % 4294967296)))) ?hg ?ho ?hn ?hr ?_; (case ho => rfl); (case hg => rfl); (case hn => rfl); (case hr => first | (go_simp; done) | (go_simp; rfl)); intro w15 hw; have hg : wr.grownBy w15 (some go11) := (by rw [hw]; exact HP14.2); have hp_ : Kd.R (Kd.int .u32) 99 w15 w.heap.size (fun k_ => some k_ ≠ (.slice (some ad258) t251.length co13 : Value).ownBlock) (.slice (some ⟨go11, 0, none⟩) x5_1.length co12) y259 := (by rw [hw, Ny259.out]; exact HP14.1); clear HP14; have n0_ := Aside0.mk (hp_); have n1_ := Aside0.mk (Kd.R_after (v := (.slice (some ⟨go11, 0, none⟩) x5_1.length co12)) (v1 := (.slice (some ⟨go11, 0, none⟩) x5_1.length co12)) (ok := (fun _ => True)) (by (with_reducible repeat (first | apply Kd.R_alloc | apply Kd.R_drewN | apply Kd.R_drew)); exact Kd.R_mono HO_6.out (fun _ hk => ⟨trivial, hk⟩)) hg (.inl rfl)); have n2_ := Aside0.mk ((by rw [hw]; exact below_set (HB.out) GB11.out : Below w.heap.size w w15)); clear HO_5; clear HO_6; clear HB; have HO_5 := n0_; have HO_6 := n1_; have HB := n2_; clear n0_ n1_ n2_; clear hg hw hp_))
              go_roundg k1
              case measure => have := HK1.out; omega
              case rel => exact ⟨(y259), (1), (wrap64 (x8_1 + 1)), (by first | rfl | (simp; done) | (simp [*]; done)), (by first | rfl | (simp; done) | (simp [*]; done)), H', ⟨by have := HK1.out; omega⟩, ⟨by (with_reducible repeat (first | apply Kd.R_alloc | apply Kd.R_drewN | apply Kd.R_drew)); exact HO_5.out⟩, ⟨by (with_reducible repeat (first | apply Kd.R_alloc | apply Kd.R_drewN | apply Kd.R_drew)); exact Kd.R_mono HO_6.out (fun _ hk => hk.2)⟩, ⟨by repeat (first | (with_reducible first | exact HB.out | apply below_alloc | apply pw_below_drewN | apply below_drew1) | exact HB.out)⟩⟩
            · rw [if_neg c10] at H
              have c10b0 : decide ((wrap64 ((wrap64 ((wrap64 (rd x5_1 x8_1)) - x7_1)) - (wrap64 (rd t251 x8_1)))) < 0) = false := decide_eq_false c10
              clear c10
              obtain ⟨y260, hy260⟩ : ∃ y_ : List Int, y_ = (x5_1.set (x8_1 : Int).toNat ((wrap64 ((wrap64 ((wrap64 (rd x5_1 x8_1)) - x7_1)) - (wrap64 (rd t251 x8_1)))) % 4294967296)) := ⟨_, rfl⟩
              replace H : (sibylref01_Minus.l0 k1 y260 t251 0 (wrap64 (x8_1 + 1))) = some r := by first | (rw [hy260]; with_reducible exact H) | (have H2_ := (Option.bind_some _ _).symm.trans H; rw [hy260]; with_reducible exact H2_) | (have H2_ := (Option.bind_some _ _).symm.trans H; with_reducible exact H2_) | with_reducible exact H | (rw [hy260]; exact H) | exact H
              have Ny260 := Aside0.mk hy260
              clear hy260
              have H' := Aside0.mk H
              clear H
              obtain ⟨Ao17, co17, eo17⟩ := Kd.R_slice HO_5.out
              subst eo17
              have p257 : 0 ≤ (x8_1 : Int) := of_decide_eq_true (by first | (with_reducible assumption) | assumption)
              have q257 : x8_1 < (x5_1.length : Int) := of_decide_eq_true (by first | (with_reducible assumption) | assumption)
              obtain ⟨ad257, e257, hx257_0⟩ := Kd.at_int (Kd.R_reads' HO_5.out).2.2 x8_1 p257 q257
              cases e257
              replace p257 := eq_true p257
              replace q257 := eq_true q257
              obtain ⟨Ao18, co18, eo18⟩ := Kd.R_slice HO_6.out
              subst eo18
              have p258 : 0 ≤ (x8_1 : Int) := of_decide_eq_true (by first | (with_reducible assumption) | assumption)
              have q258 : x8_1 < (t251.length : Int) := of_decide_eq_true (by first | (with_reducible assumption) | assumption)
              obtain ⟨ad258, e258, hx258_0⟩ := Kd.at_int (Kd.R_reads' HO_6.out).2.2 x8_1 p258 q258
              cases e258
              replace p258 := eq_true p258
              replace q258 := eq_true q258
              have p16 : 0 ≤ (x8_1 : Int) := of_decide_eq_true (by first | (with_reducible assumption) | assumption)
              have q16 : (x8_1 : Int) < ((x5_1.length : Int) : Int) := of_decide_eq_true (by first | (with_reducible assumption) | assumption)
              obtain ⟨go16, co16, eo16, gb16, gl16, cl16, HG16⟩ := Kd.R_form HO_5.out (by omega)
              (first | cases eo16 | (injection eo16 with ea_ en_ ec_; (first | subst ea_ | (injection ea_ with ea_; subst ea_)); subst ec_; clear en_))
              have GB16 := Aside0.mk gb16
              have GG16 := Aside0.mk HG16
              clear gb16 gl16 HG16
              (first | simp only [add_plain] at hx257_0 | skip)
              obtain ⟨hx16_0, hf16_0⟩ := Kd.R_celln 0 HO_5.out (x8_1 : Int) p16 q16
              replace p16 := eq_true p16
              replace q16 := eq_true q16
              have HP19 := Kd.R_putg HO_5.out (x8_1 : Int) ((wrap64 ((wrap64 ((wrap64 (rd x5_1 x8_1)) - x7_1)) - (wrap64 (rd t251 x8_1)))) % 4294967296)
              go_wp2_with (first | ((with_reducible refine gate_store (t := 99) (p := 46) rfl ?_); refine store_event (t := 99) (p := 46) (v := ?vo_w20) (w1 := (wr.setCell ⟨go16, (x8_1 : Int).toNat, none⟩ (.int .u32 ((wrap64 ((wrap64 ((wrap64 (rd x5_1 x8_1)) - x7_1)) - (wrap64 (rd t251 x8_1)))) % 4294967296)))) ?hg ?ho ?hn ?hr ?_; (case ho => rfl); (case hg => rfl); (case hn => rfl); (case hr => first | (go_simp; done) | (go_simp; rfl)); intro w20 hw; have hg : wr.grownBy w20 (some go16) := (by rw [hw]; exact HP19.2); have hp_ : Kd.R (Kd.int .u32) 99 w20 w.heap.size (fun k_ => some k_ ≠ (.slice (some ad258) t251.length co18 : Value).ownBlock) (.slice (some ⟨go16, 0, none⟩) x5_1.length co17) y260 := (by rw [hw, Ny260.out]; exact HP19.1); clear HP19; have n0_ := Aside0.mk (hp_); have n1_ := Aside0.mk (Kd.R_after (v := (.slice (some ⟨go16, 0, none⟩) x5_1.length co17)) (v1 := (.slice (some ⟨go16, 0, none⟩) x5_1.length co17)) (ok := (fun _ => True)) (by (with_reducible repeat (first | apply Kd.R_alloc | apply Kd.R_drewN | apply Kd.R_drew)); exact Kd.R_mono HO_6.out (fun _ hk => ⟨trivial, hk⟩)) hg (.inl rfl)); have n2_ := Aside0.mk ((by rw [hw]; exact below_set (HB.out) GB16.out : Below w.heap.size w w20)); clear HO_5; clear HO_6; clear HB; have HO_5 := n0_; have HO_6 := n1_; have HB := n2_; clear n0_ n1_ n2_; clear hg hw hp_))
              go_roundg k1
              case measure => have := HK1.out; omega
              case rel => exact ⟨(y260), (0), (wrap64 (x8_1 + 1)), (by first | rfl | (simp; done) | (simp [*]; done)), (by first | rfl | (simp; done) | (simp [*]; done)), H', ⟨by have := HK1.out; omega⟩, ⟨by (with_reducible repeat (first | apply Kd.R_alloc | apply Kd.R_drewN | apply Kd.R_drew)); exact HO_5.out⟩, ⟨by (with_reducible repeat (first | apply Kd.R_alloc | apply Kd.R_drewN | apply Kd.R_drew)); exact Kd.R_mono HO_6.out (fun _ hk => hk.2)⟩, ⟨by repeat (first | (with_reducible first | exact HB.out | apply below_alloc | apply pw_below_drewN | apply below_drew1) | exact HB.out)⟩⟩
          · rw [if_neg c9] at H
            have c9b0 : decide (x8_1 < (t251.length : Int)) = false := decide_eq_false c9
            clear c9
            by_cases c21 : (wrap64 ((wrap64 (rd x5_1 x8_1)) - x7_1)) < 0
            · rw [if_pos c21] at H
              have c21b0 : decide ((wrap64 ((wrap64 (rd x5_1 x8_1)) - x7_1)) < 0) = true := decide_eq_true c21
              clear c21
              obtain ⟨y261, hy261⟩ : ∃ y_ : List Int, y_ = (x5_1.set (x8_1 : Int).toNat ((wrap64 ((wrap64 ((wrap64 (rd x5_1 x8_1)) - x7_1)) + 4294967296)) % 4294967296)) := ⟨_, rfl⟩
              replace H : (sibylref01_Minus.l0 k1 y261 t251 1 (wrap64 (x8_1 + 1))) = some r := by first | (rw [hy261]; with_reducible exact H) | (have H2_ := (Option.bind_some _ _).symm.trans H; rw [hy261]; with_reducible exact H2_) | (have H2_ := (Option.bind_some _ _).symm.trans H; with_reducible exact H2_) | with_reducible exact H | (rw [hy261]; exact H) | exact H
              have Ny261 := Aside0.mk hy261
              clear hy261
              have H' := Aside0.mk H
              clear H
              obtain ⟨Ao23, co23, eo23⟩ := Kd.R_slice HO_5.out
              subst eo23
              have p257 : 0 ≤ (x8_1 : Int) := of_decide_eq_true (by first | (with_reducible assumption) | assumption)
              have q257 : x8_1 < (x5_1.length : Int) := of_decide_eq_true (by first | (with_reducible assumption) | assumption)
              obtain ⟨ad257, e257, hx257_0⟩ := Kd.at_int (Kd.R_reads' HO_5.out).2.2 x8_1 p257 q257
              cases e257
              replace p257 := eq_true p257
              replace q257 := eq_true q257
              obtain ⟨Ao24, co24, eo24⟩ := Kd.R_slice HO_6.out
              subst eo24
              have p22 : 0 ≤ (x8_1 : Int) := of_decide_eq_true (by first | (with_reducible assumption) | assumption)
              have q22 : (x8_1 : Int) < ((x5_1.length : Int) : Int) := of_decide_eq_true (by first | (with_reducible assumption) | assumption)
              obtain ⟨go22, co22, eo22, gb22, gl22, cl22, HG22⟩ := Kd.R_form HO_5.out (by omega)
              (first | cases eo22 | (injection eo22 with ea_ en_ ec_; (first | subst ea_ | (injection ea_ with ea_; subst ea_)); subst ec_; clear en_))
              have GB22 := Aside0.mk gb22
              have GG22 := Aside0.mk HG22
              clear gb22 gl22 HG22
              (first | simp only [add_plain] at hx257_0 | skip)
              obtain ⟨hx22_0, hf22_0⟩ := Kd.R_celln 0 HO_5.out (x8_1 : Int) p22 q22
              replace p22 := eq_true p22
              replace q22 := eq_true q22
              have HP25 := Kd.R_putg HO_5.out (x8_1 : Int) ((wrap64 ((wrap64 ((wrap64 (rd x5_1 x8_1)) - x7_1)) + 4294967296)) % 4294967296)
              go_wp2_with (first | ((with_reducible refine gate_store (t := 99) (p := 46) rfl ?_); refine store_event (t := 99) (p := 46) (v := ?vo_w26) (w1 := (wr.setCell ⟨go22, (x8_1 : Int).toNat, none⟩ (.int .u32 ((wrap64 ((wrap64 ((wrap64 (rd x5_1 x8_1)) - x7_1)) + 4294967296)) % 4294967296)))) ?hg ?ho ?hn ?hr ?_; (case ho => rfl); (case hg => rfl); (case hn => rfl); (case hr => first | (go_simp; done) | (go_simp; rfl)); intro w26 hw; have hg : wr.grownBy w26 (some go22) := (by rw [hw]; exact HP25.2); have hp_ : Kd.R (Kd.int .u32) 99 w26 w.heap.size (fun k_ => some k_ ≠ (.slice Ao24 t251.length co24 : Value).ownBlock) (.slice (some ⟨go22, 0, none⟩) x5_1.length co23) y261 := (by rw [hw, Ny261.out]; exact HP25.1); clear HP25; have n0_ := Aside0.mk (hp_); have n1_ := Aside0.mk (Kd.R_after (v := (.slice (some ⟨go22, 0, none⟩) x5_1.length co23)) (v1 := (.slice (some ⟨go22, 0, none⟩) x5_1.length co23)) (ok := (fun _ => True)) (by (with_reducible repeat (first | apply Kd.R_alloc | apply Kd.R_drewN | apply Kd.R_drew)); exact Kd.R_mono HO_6.out (fun _ hk => ⟨trivial, hk⟩)) hg (.inl rfl)); have n2_ := Aside0.mk ((by rw [hw]; exact below_set (HB.out) GB22.out : Below w.heap.size w w26)); clear HO_5; clear HO_6; clear HB; have HO_5 := n0_; have HO_6 := n1_; have HB := n2_; clear n0_ n1_ n2_; clear hg hw hp_))
              go_roundg k1
              case measure => have := HK1.out; omega
              case rel => exact ⟨(y261), (1), (wrap64 (x8_1 + 1)), (by first | rfl | (simp; done) | (simp [*]; done)), (by first | rfl | (simp; done) | (simp [*]; done)), H', ⟨by have := HK1.out; omega⟩, ⟨by (with_reducible repeat (first | apply Kd.R_alloc | apply Kd.R_drewN | apply Kd.R_drew)); exact HO_5.out⟩, ⟨by (with_reducible repeat (first | apply Kd.R_alloc | apply Kd.R_drewN | apply Kd.R_drew)); exact Kd.R_mono HO_6.out (fun _ hk => hk.2)⟩, ⟨by repeat (first | (with_reducible first | exact HB.out | apply below_alloc | apply pw_below_drewN | apply below_drew1) | exact HB.out)⟩⟩
            · rw [if_neg c21] at H
              have c21b0 : decide ((wrap64 ((wrap64 (rd x5_1 x8_1)) - x7_1)) < 0) = false := decide_eq_false c21
              clear c21
              obtain ⟨y262, hy262⟩ : ∃ y_ : List Int, y_ = (x5_1.set (x8_1 : Int).toNat ((wrap64 ((wrap64 (rd x5_1 x8_1)) - x7_1)) % 4294967296)) := ⟨_, rfl⟩
              replace H : (sibylref01_Minus.l0 k1 y262 t251 0 (wrap64 (x8_1 + 1))) = some r := by first | (rw [hy262]; with_reducible exact H) | (have H2_ := (Option.bind_some _ _).symm.trans H; rw [hy262]; with_reducible exact H2_) | (have H2_ := (Option.bind_some _ _).symm.trans H; with_reducible exact H2_) | with_reducible exact H | (rw [hy262]; exact H) | exact H
              have Ny262 := Aside0.mk hy262
              clear hy262
              have H' := Aside0.mk H
              clear H
              obtain ⟨Ao28, co28, eo28⟩ := Kd.R_slice HO_5.out
              subst eo28
              have p257 : 0 ≤ (x8_1 : Int) := of_decide_eq_true (by first | (with_reducible assumption) | assumption)
              have q257 : x8_1 < (x5_1.length : Int) := of_decide_eq_true (by first | (with_reducible assumption) | assumption)
              obtain ⟨ad257, e257, hx257_0⟩ := Kd.at_int (Kd.R_reads' HO_5.out).2.2 x8_1 p257 q257
              cases e257
              replace p257 := eq_true p257
              replace q257 := eq_true q257
              obtain ⟨Ao29, co29, eo29⟩ := Kd.R_slice HO_6.out
              subst eo29
              have p27 : 0 ≤ (x8_1 : Int) := of_decide_eq_true (by first | (with_reducible assumption) | assumption)
              have q27 : (x8_1 : Int) < ((x5_1.length : Int) : Int) := of_decide_eq_true (by first | (with_reducible assumption) | assumption)
              obtain ⟨go27, co27, eo27, gb27, gl27, cl27, HG27⟩ := Kd.R_form HO_5.out (by omega)
              (first | cases eo27 | (injection eo27 with ea_ en_ ec_; (first | subst ea_ | (injection ea_ with ea_; subst ea_)); subst ec_; clear en_))
              have GB27 := Aside0.mk gb27
              have GG27 := Aside0.mk HG27
              clear gb27 gl27 HG27
              (first | simp only [add_plain] at hx257_0 | skip)
              obtain ⟨hx27_0, hf27_0⟩ := Kd.R_celln 0 HO_5.out (x8_1 : Int) p27 q27
              replace p27 := eq_true p27
              replace q27 := eq_true q27
              have HP30 := Kd.R_putg HO_5.out (x8_1 : Int) ((wrap64 ((wrap64 (rd x5_1 x8_1)) - x7_1)) % 4294967296)
              go_wp2_with (first | ((with_reducible refine gate_store (t := 99) (p := 46) rfl ?_); refine store_event (t := 99) (p := 46) (v := ?vo_w31) (w1 := (wr.setCell ⟨go27, (x8_1 : Int).toNat, none⟩ (.int .u32 ((wrap64 ((wrap64 (rd x5_1 x8_1)) - x7_1)) % 4294967296)))) ?hg ?ho ?hn ?hr ?_; (case ho => rfl); (case hg => rfl); (case hn => rfl); (case hr => first | (go_simp; done) | (go_simp; rfl)); intro w31 hw; have hg : wr.grownBy w31 (some go27) := (by rw [hw]; exact HP30.2); have hp_ : Kd.R (Kd.int .u32) 99 w31 w.heap.size (fun k_ => some k_ ≠ (.slice Ao29 t251.length co29 : Value).ownBlock) (.slice (some ⟨go27, 0, none⟩) x5_1.length co28) y262 := (by rw [hw, Ny262.out]; exact HP30.1); clear HP30; have n0_ := Aside0.mk (hp_); have n1_ := Aside0.mk (Kd.R_after (v := (.slice (some ⟨go27, 0, none⟩) x5_1.length co28)) (v1 := (.slice (some ⟨go27, 0, none⟩) x5_1.length co28)) (ok := (fun _ => True)) (by (with_reducible repeat (first | apply Kd.R_alloc | apply Kd.R_drewN | apply Kd.R_drew)); exact Kd.R_mono HO_6.out (fun _ hk => ⟨trivial, hk⟩)) hg (.inl rfl)); have n2_ := Aside0.mk ((by rw [hw]; exact below_set (HB.out) GB27.out : Below w.heap.size w w31)); clear HO_5; clear HO_6; clear HB; have HO_5 := n0_; have HO_6 := n1_; have HB := n2_; clear n0_ n1_ n2_; clear hg hw hp_))
              go_roundg k1
              case measure => have := HK1.out; omega
              case rel => exact ⟨(y262), (0), (wrap64 (x8_1 + 1)), (by first | rfl | (simp; done) | (simp [*]; done)), (by first | rfl | (simp; done) | (simp [*]; done)), H', ⟨by have := HK1.out; omega⟩, ⟨by (with_reducible repeat (first | apply Kd.R_alloc | apply Kd.R_drewN | apply Kd.R_drew)); exact HO_5.out⟩, ⟨by (with_reducible repeat (first | apply Kd.R_alloc | apply Kd.R_drewN | apply Kd.R_drew)); exact Kd.R_mono HO_6.out (fun _ hk => hk.2)⟩, ⟨by repeat (first | (with_reducible first | exact HB.out | apply below_alloc | apply pw_below_drewN | apply below_drew1) | exact HB.out)⟩⟩
        · rw [if_neg c8] at H
          exact absurd H (by simp)
      · rw [if_neg c7] at H
        have c7b0 : decide (x8_1 < (x5_1.length : Int)) = false := decide_eq_false c7
        clear c7
        replace H := Option.bind_eq_some_iff.mp H
        obtain ⟨t254, A320, H⟩ := H
        replace H : (some t254) = some r := H
        have A32 := Aside0.mk A320
        clear A320
        obtain rfl := Option.some.inj H
        obtain ⟨Ao33, co33, eo33⟩ := Kd.R_slice HO_5.out
        subst eo33
        go_wp2_with (first | ((with_reducible refine gate_callee (f := 83) rfl ?_); refine goesL_ (some 48) rfl rfl Try.func83 (by kernel_rfl) rfl #[.slice Ao33 x5_1.length co33] rfl (by (try simp only [List.map_toArray, List.map_cons, List.map_nil]); first | done | rfl | (simp only [List.length_drop, List.length_take]; rfl)) ?_; (with_reducible refine (sibylref01_Trim.calls k1 _ _ x5_1 t254 _ ?side1 ?side2 A32.out).mono ?_); (case side1 => repeat (first | exact (Kd.R_reads' HO_5.out).2.2 | (with_reducible refine Kd.C_alloc ?_ _) | (with_reducible refine Kd.C_drewN ?_ _) | (with_reducible refine Kd.C_drew ?_))); (case side2 => exact (Kd.R_reads' HO_5.out).2.1); rintro e w34 ⟨v255, rfl, ho0, hb⟩; refine ⟨_, rfl, ?_⟩; have n0_ := Aside0.mk (Kd.R_elder' (by (with_reducible repeat (first | apply Kd.R_alloc | apply Kd.R_drewN | apply Kd.R_drew)); exact HO_5.out) (Kd.R_base ho0) hb); have n1_ := Aside0.mk (Kd.R_elder' (by (with_reducible repeat (first | apply Kd.R_alloc | apply Kd.R_drewN | apply Kd.R_drew)); exact HO_6.out) (Kd.R_base ho0) hb); have n2_ := Aside0.mk (Kd.R_lower (Kd.R_new' (Kd.R_new' ho0 (Kd.R_lt (by (with_reducible repeat (first | apply Kd.R_alloc | apply Kd.R_drewN | apply Kd.R_drew)); exact HO_5.out))) (Kd.R_lt (by (with_reducible repeat (first | apply Kd.R_alloc | apply Kd.R_drewN | apply Kd.R_drew)); exact HO_6.out))) (below_size (by repeat (first | (with_reducible first | exact HB.out | apply below_alloc | apply pw_below_drewN | apply below_drew1) | exact HB.out)))); have n3_ := Aside0.mk (below_step (by repeat (first | (with_reducible first | exact HB.out | apply below_alloc | apply pw_below_drewN | apply below_drew1) | exact HB.out)) hb); clear HO_5; clear HO_6; clear HB; have HO_5 := n0_; have HO_6 := n1_; have HO256 := n2_; have HB := n3_; clear n0_ n1_ n2_ n3_; (try clear hb); (try clear hb2); (try clear hk); (try clear hi); (try clear ho0)))
        go_ret
        exact ⟨_, by first | rfl | (simp [errW_none, errW_some] <;> rfl) | (simp [*, errW_none, errW_some] <;> rfl), by (with_reducible repeat (first | apply Kd.R_alloc | apply Kd.R_drewN | apply Kd.R_drew)); exact Kd.R_mono HO256.out (fun _ hk => trivial), by repeat (first | (with_reducible first | exact HB.out | apply below_alloc | apply pw_below_drewN | apply below_drew1) | exact HB.out)⟩

/-! ### sibylref01_Plus: function 72 -/
mutual
def sibylref01_Plus.l0 : Nat → List Int → List Int → List Int → Int → Int → Option (List Int)
  | 0, _, _, _, _, _ => none
  | k + 1, x0, x1, x5, x6, x7 => if x7 < (x0.length : Int) then (sibylref01_Plus.j1 k x0 x1 x5 x6 x7 true) else (sibylref01_Plus.j1 k x0 x1 x5 x6 x7 (decide (x7 < (x1.length : Int))))
def sibylref01_Plus.j1 : Nat → List Int → List Int → List Int → Int → Int → Bool → Option (List Int)
  | 0, _, _, _, _, _, _ => none
  | k + 1, x0, x1, x5, x6, x7, x17 => if x17 = true then (if x7 < (x0.length : Int) then (if 0 ≤ x7 then (if x7 < (x1.length : Int) then (if x5.length < 35184372088832 then (sibylref01_Plus.l0 k x0 x1 (x5 ++ [(Int.tmod (IntKind.u64.wrap ((IntKind.u64.wrap (x6 + (IntKind.u64.wrap (rd x0 x7)))) + (IntKind.u64.wrap (rd x1 x7)))) 4294967296) % 4294967296]) (IntKind.u64.wrap (Int.tdiv (IntKind.u64.wrap ((IntKind.u64.wrap (x6 + (IntKind.u64.wrap (rd x0 x7)))) + (IntKind.u64.wrap (rd x1 x7)))) 4294967296)) (wrap64 (x7 + 1))) else (none)) else (if x5.length < 35184372088832 then (sibylref01_Plus.l0 k x0 x1 (x5 ++ [(Int.tmod (IntKind.u64.wrap (x6 + (IntKind.u64.wrap (rd x0 x7)))) 4294967296) % 4294967296]) (IntKind.u64.wrap (Int.tdiv (IntKind.u64.wrap (x6 + (IntKind.u64.wrap (rd x0 x7)))) 4294967296)) (wrap64 (x7 + 1))) else (none))) else (none)) else (if x7 < (x1.length : Int) then (if 0 ≤ x7 then (if x5.length < 35184372088832 then (sibylref01_Plus.l0 k x0 x1 (x5 ++ [(Int.tmod (IntKind.u64.wrap (x6 + (IntKind.u64.wrap (rd x1 x7)))) 4294967296) % 4294967296]) (IntKind.u64.wrap (Int.tdiv (IntKind.u64.wrap (x6 + (IntKind.u64.wrap (rd x1 x7)))) 4294967296)) (wrap64 (x7 + 1))) else (none)) else (none)) else (if x5.length < 35184372088832 then (sibylref01_Plus.l0 k x0 x1 (x5 ++ [(Int.tmod x6 4294967296) % 4294967296]) (IntKind.u64.wrap (Int.tdiv x6 4294967296)) (wrap64 (x7 + 1))) else (none)))) else (if x5.length < 35184372088832 then ((sibylref01_Trim.f k (x5 ++ [(x6) % 4294967296])).bind fun t266 => (some t266)) else (none))
end
def sibylref01_Plus.f (k : Nat) (l0 : List Int) (l1 : List Int) : Option (List Int) := sibylref01_Plus.l0 k l0 l1 ([] : List Int) 0 0
theorem sibylref01_Plus.mono_l : ∀ k, (∀ y0 y1 y2 y3 y4, LeO (sibylref01_Plus.l0 k y0 y1 y2 y3 y4) (sibylref01_Plus.l0 (k + 1) y0 y1 y2 y3 y4)) ∧ (∀ y0 y1 y2 y3 y4 y5, LeO (sibylref01_Plus.j1 k y0 y1 y2 y3 y4 y5) (sibylref01_Plus.j1 (k + 1) y0 y1 y2 y3 y4 y5))
  | 0 => ⟨fun _ _ _ _ _ r h => by simp [sibylref01_Plus.l0] at h, fun _ _ _ _ _ _ r h => by simp [sibylref01_Plus.j1] at h⟩
  | k + 1 => by
    obtain ⟨ih0, ih1⟩ := sibylref01_Plus.mono_l k
    refine ⟨?_, ?_⟩
    · intro y0 y1 y2 y3 y4
      unfold sibylref01_Plus.l0
      repeat' first
      | (with_reducible exact ih0 _ _ _ _ _)
      | (with_reducible exact ih1 _ _ _ _ _ _)
      | (with_reducible exact sibylref01_Trim.mono _ _)
      | (with_reducible exact LeO.refl _)
      | (with_reducible exact LeO.none _)
      | (with_reducible refine LeO.ite ?_ ?_)
      | (with_reducible refine LeO.bind ?_ (fun _ => ?_))
      | exact ih0 _ _ _ _ _
      | exact ih1 _ _ _ _ _ _
      | exact sibylref01_Trim.mono _ _
      | exact LeO.none _
      | refine LeO.ite ?_ ?_
      | refine LeO.bind ?_ (fun _ => ?_)
    · intro y0 y1 y2 y3 y4 y5
      unfold sibylref01_Plus.j1
      repeat' first
      | (with_reducible exact ih0 _ _ _ _ _)
      | (with_reducible exact ih1 _ _ _ _ _ _)
      | (with_reducible exact sibylref01_Trim.mono _ _)
      | (with_reducible exact LeO.refl _)
      | (with_reducible exact LeO.none _)
      | (with_reducible refine LeO.ite ?_ ?_)
      | (with_reducible refine LeO.bind ?_ (fun _ => ?_))
      | exact ih0 _ _ _ _ _
      | exact ih1 _ _ _ _ _ _
      | exact sibylref01_Trim.mono _ _
      | exact LeO.none _
      | refine LeO.ite ?_ ?_
      | refine LeO.bind ?_ (fun _ => ?_)
theorem sibylref01_Plus.mono : ∀ a0 a1 k, LeO (sibylref01_Plus.f k a0 a1) (sibylref01_Plus.f (k + 1) a0 a1) := by
  intro a0 a1 k
  obtain ⟨ih0, ih1⟩ := sibylref01_Plus.mono_l k
  unfold sibylref01_Plus.f
  repeat' first
      | (with_reducible exact ih0 _ _ _ _ _)
      | (with_reducible exact ih1 _ _ _ _ _ _)
      | (with_reducible exact sibylref01_Trim.mono _ _)
      | (with_reducible exact LeO.refl _)
      | (with_reducible exact LeO.none _)
      | (with_reducible refine LeO.ite ?_ ?_)
      | (with_reducible refine LeO.bind ?_ (fun _ => ?_))
      | exact ih0 _ _ _ _ _
      | exact ih1 _ _ _ _ _ _
      | exact sibylref01_Trim.mono _ _
      | exact LeO.none _
      | refine LeO.ite ?_ ?_
      | refine LeO.bind ?_ (fun _ => ?_)
set_option maxHeartbeats 8000000 in
set_option maxRecDepth 100000 in
theorem sibylref01_Plus.calls (k : Nat) (A0 : Option Addr) (c0 : Nat) (l0 : List Int) (A1 : Option Addr) (c1 : Nat) (l1 : List Int) (r : List Int) (w : World) (hr0 : Kd.C (Kd.int .u32) w A0 l0.length l0) (hc0 : l0.length ≤ c0) (hr1 : Kd.C (Kd.int .u32) w A1 l1.length l1) (hc1 : l1.length ≤ c1) (h : sibylref01_Plus.f k l0 l1 = some r) :
    Calls Try.prog 72 #[.slice A0 l0.length c0, .slice A1 l1.length c1] w fun e w' => ∃ v0_ : Value, e = .returned (v0_) ∧ Kd.R (Kd.int .u32) 99 w' w.heap.size (fun _ => True) v0_ r ∧ Below w.heap.size w w' := by
  have HR0 := Aside0.mk hr0
  have HC0 := Aside0.mk hc0
  clear hr0 hc0
  have HR1 := Aside0.mk hr1
  have HC1 := Aside0.mk hc1
  clear hr1 hc1
  have HB := Aside0.mk (Below.refl w.heap.size w)
  have H : (sibylref01_Plus.l0 k l0 l1 ([] : List Int) 0 0) = some r := h
  clear h
  have H' := Aside0.mk H
  clear H
  go_enter Try.func72, Try.ntmps72
  go_wp2
  go_loopg [5, 6, 7] k (fun kq v5 v6 v7 w' => ∃ (x5_1 : List Int) (x6_1 : Int) (x7_1 : Int), v6 = .int .u64 x6_1 ∧ v7 = .int .i64 x7_1 ∧ Aside0 (sibylref01_Plus.l0 kq l0 l1 x5_1 x6_1 x7_1 = some r) ∧ Aside0 (kq ≤ k) ∧ Aside0 (Kd.R (Kd.int .u32) 99 w' w.heap.size (fun _ => True) v5 x5_1) ∧ Aside0 (Below w.heap.size w w'))
  case atStart => exact ⟨(([] : List Int)), (0), (0), (by first | rfl | (simp; done) | (simp [*]; done)), (by first | rfl | (simp; done) | (simp [*]; done)), H', ⟨Nat.le_refl _⟩, ⟨by first | exact Kd.R_nil _ _ _ _ _ | exact Kd.N_nil _ _ _ _ _ | exact Kd.V_nil _ _ _ _ _ | exact Kd.Q_nil _ _ _ _ _ | exact Kd.S_nil _ _ _ _ _⟩, ⟨by repeat (first | (with_reducible first | exact HB.out | apply below_alloc | apply pw_below_drewN | apply below_drew1) | exact HB.out)⟩⟩
  case round =>
    clear H'
    try clear c1
    try clear p2
    obtain ⟨x5_1, x6_1, x7_1, rfl, rfl, HA, HK1, HO_5, HB⟩ := hrel
    cases gk with
    | zero => exact absurd HA.out (by simp [sibylref01_Plus.l0])
    | succ k1 =>
      have H := HA.out
      clear HA
      simp only [sibylref01_Plus.l0] at H
      have HC3 := Aside0.mk H
      clear H
      go_upto_region 4 with (fail)
      go_cut [17] (fun v17 wc => ∃ (kq : Nat) (x17_2 : Bool), v17 = .bool x17_2 ∧ Aside0 (sibylref01_Plus.j1 kq l0 l1 x5_1 x6_1 x7_1 x17_2 = some r) ∧ Aside0 (kq ≤ k1) ∧ Aside0 (Kd.R (Kd.int .u32) 99 wc w.heap.size (fun _ => True) u5 x5_1) ∧ Aside0 (Below w.heap.size w wc))
      case first =>
        have H := HC3.out
        clear HC3
        by_cases c4 : x7_1 < (l0.length : Int)
        · rw [if_pos c4] at H
          have c4b0 : decide (x7_1 < (l0.length : Int)) = true := decide_eq_true c4
          clear c4
          (first | rw [c4b0] | (simp only [i64_w, i32_w]; rw [c4b0]) | skip)
          have H' := Aside0.mk H
          clear H
          go_wp2
          go_meet
          case rel => exact ⟨_, (true), (by first | rfl | (simp; done) | (simp [*]; done)), H', ⟨by have := HK1.out; first | omega | exact Nat.le_refl _⟩, ⟨by (with_reducible repeat (first | apply Kd.R_alloc | apply Kd.R_drewN | apply Kd.R_drew)); exact HO_5.out⟩, ⟨by repeat (first | (with_reducible first | exact HB.out | apply below_alloc | apply pw_below_drewN | apply below_drew1) | exact HB.out)⟩⟩
        · rw [if_neg c4] at H
          have c4b0 : decide (x7_1 < (l0.length : Int)) = false := decide_eq_false c4
          clear c4
          (first | rw [c4b0] | (simp only [i64_w, i32_w]; rw [c4b0]) | skip)
          have H' := Aside0.mk H
          clear H
          go_wp2
          go_meet
          case rel => exact ⟨_, (decide (x7_1 < (l1.length : Int))), (by first | rfl | (simp; done) | (simp [*]; done)), H', ⟨by have := HK1.out; first | omega | exact Nat.le_refl _⟩, ⟨by (with_reducible repeat (first | apply Kd.R_alloc | apply Kd.R_drewN | apply Kd.R_drew)); exact HO_5.out⟩, ⟨by repeat (first | (with_reducible first | exact HB.out | apply below_alloc | apply pw_below_drewN | apply below_drew1) | exact HB.out)⟩⟩
      case rest =>
        clear HC3
        try clear c1
        try clear p2
        try clear c4
        try clear c4b0
        try clear p2
        obtain ⟨kq, x17_2, rfl, HA, HJ2, HO_5, HB⟩ := hcut
        cases kq with
        | zero => exact absurd HA.out (by simp [sibylref01_Plus.j1])
        | succ kj2 =>
          have H := HA.out
          clear HA
          simp only [sibylref01_Plus.j1] at H
          by_cases c5 : x17_2 = true
          · subst c5
            have H1 : (if x7_1 < (l0.length : Int) then (if 0 ≤ x7_1 then (if x7_1 < (l1.length : Int) then (if x5_1.length < 35184372088832 then (sibylref01_Plus.l0 kj2 l0 l1 (x5_1 ++ [(Int.tmod (IntKind.u64.wrap ((IntKind.u64.wrap (x6_1 + (IntKind.u64.wrap (rd l0 x7_1)))) + (IntKind.u64.wrap (rd l1 x7_1)))) 4294967296) % 4294967296]) (IntKind.u64.wrap (Int.tdiv (IntKind.u64.wrap ((IntKind.u64.wrap (x6_1 + (IntKind.u64.wrap (rd l0 x7_1)))) + (IntKind.u64.wrap (rd l1 x7_1)))) 4294967296)) (wrap64 (x7_1 + 1))) else (none)) else (if x5_1.length < 35184372088832 then (sibylref01_Plus.l0 kj2 l0 l1 (x5_1 ++ [(Int.tmod (IntKind.u64.wrap (x6_1 + (IntKind.u64.wrap (rd l0 x7_1)))) 4294967296) % 4294967296]) (IntKind.u64.wrap (Int.tdiv (IntKind.u64.wrap (x6_1 + (IntKind.u64.wrap (rd l0 x7_1)))) 4294967296)) (wrap64 (x7_1 + 1))) else (none))) else (none)) else (if x7_1 < (l1.length : Int) then (if 0 ≤ x7_1 then (if x5_1.length < 35184372088832 then (sibylref01_Plus.l0 kj2 l0 l1 (x5_1 ++ [(Int.tmod (IntKind.u64.wrap (x6_1 + (IntKind.u64.wrap (rd l1 x7_1)))) 4294967296) % 4294967296]) (IntKind.u64.wrap (Int.tdiv (IntKind.u64.wrap (x6_1 + (IntKind.u64.wrap (rd l1 x7_1)))) 4294967296)) (wrap64 (x7_1 + 1))) else (none)) else (none)) else (if x5_1.length < 35184372088832 then (sibylref01_Plus.l0 kj2 l0 l1 (x5_1 ++ [(Int.tmod x6_1 4294967296) % 4294967296]) (IntKind.u64.wrap (Int.tdiv x6_1 4294967296)) (wrap64 (x7_1 + 1))) else (none)))) = some r := by rw [if_pos rfl] at H; exact H
            clear H
            have H := H1
            clear H1
            by_cases c6 : x7_1 < (l0.length : Int)
            · rw [if_pos c6] at H
              have c6b0 : decide (x7_1 < (l0.length : Int)) = true := decide_eq_true c6
              clear c6
              by_cases c7 : 0 ≤ x7_1
              · rw [if_pos c7] at H
                have c7b0 : decide (0 ≤ x7_1) = true := decide_eq_true c7
                clear c7
                by_cases c8 : x7_1 < (l1.length : Int)
                · rw [if_pos c8] at H
                  have c8b0 : decide (x7_1 < (l1.length : Int)) = true := decide_eq_true c8
                  clear c8
                  by_cases c9 : x5_1.length < 35184372088832
                  · rw [if_pos c9] at H
                    have LMc9 := Aside0.mk c9
                    clear c9
                    obtain ⟨y271, hy271⟩ : ∃ y_ : List Int, y_ = (x5_1 ++ [(Int.tmod (IntKind.u64.wrap ((IntKind.u64.wrap (x6_1 + (IntKind.u64.wrap (rd l0 x7_1)))) + (IntKind.u64.wrap (rd l1 x7_1)))) 4294967296) % 4294967296]) := ⟨_, rfl⟩
                    replace H : (sibylref01_Plus.l0 kj2 l0 l1 y271 (IntKind.u64.wrap (Int.tdiv (IntKind.u64.wrap ((IntKind.u64.wrap (x6_1 + (IntKind.u64.wrap (rd l0 x7_1)))) + (IntKind.u64.wrap (rd l1 x7_1)))) 4294967296)) (wrap64 (x7_1 + 1))) = some r := by first | (rw [hy271]; with_reducible exact H) | (have H2_ := (Option.bind_some _ _).symm.trans H; rw [hy271]; with_reducible exact H2_) | (have H2_ := (Option.bind_some _ _).symm.trans H; with_reducible exact H2_) | with_reducible exact H | (rw [hy271]; exact H) | exact H
                    have Ny271 := Aside0.mk hy271
                    clear hy271
                    have H' := Aside0.mk H
                    clear H
                    have p269 : 0 ≤ (x7_1 : Int) := of_decide_eq_true (by first | (with_reducible assumption) | assumption)
                    have q269 : x7_1 < (l0.length : Int) := of_decide_eq_true (by first | (with_reducible assumption) | assumption)
                    obtain ⟨ad269, e269, hx269_0⟩ := Kd.at_int HR0.out x7_1 p269 q269
                    cases e269
                    replace hx269_0 := (HB.out.cell (World.block_lt_of_cell? w _ hx269_0)).trans hx269_0
                    replace p269 := eq_true p269
                    replace q269 := eq_true q269
                    have p270 : 0 ≤ (x7_1 : Int) := of_decide_eq_true (by first | (with_reducible assumption) | assumption)
                    have q270 : x7_1 < (l1.length : Int) := of_decide_eq_true (by first | (with_reducible assumption) | assumption)
                    obtain ⟨ad270, e270, hx270_0⟩ := Kd.at_int HR1.out x7_1 p270 q270
                    cases e270
                    replace hx270_0 := (HB.out.cell (World.block_lt_of_cell? w _ hx270_0)).trans hx270_0
                    replace p270 := eq_true p270
                    replace q270 := eq_true q270
                    go_wp2_with (first | ((with_reducible refine gate_builtin (b := .append) (xs := #[.tmp 42, .tmp 46]) rfl ?_); (try (refine gate_guard (by rfl) ?_; dsimp only)); at_builtin; refine Kd.R_append (Kd.int .u32) (w0 := w) w.heap.size rfl (.tmp 42) (.tmp 46) 34 99 (.int .u32 0) 4 rfl Try.underlying34 info99 rfl (by decide) (by omega) u5 x5_1 ((Int.tmod (IntKind.u64.wrap ((IntKind.u64.wrap (x6_1 + (IntKind.u64.wrap (rd l0 x7_1)))) + (IntKind.u64.wrap (rd l1 x7_1)))) 4294967296) % 4294967296) [.int .u32 ((Int.tmod (IntKind.u64.wrap ((IntKind.u64.wrap (x6_1 + (IntKind.u64.wrap (rd l0 x7_1)))) + (IntKind.u64.wrap (rd l1 x7_1)))) 4294967296) % 4294967296)] (fun _ => True) (fun _ => False) rfl rfl ?aP (fun _ hk => hk.elim) ?aF ?aO ?aB ?aS ?aL ?_; (case aP => exact rfl); (case aB => exact (by repeat (first | (with_reducible first | exact HB.out | apply below_alloc | apply pw_below_drewN | apply below_drew1) | exact HB.out))); (case aF => exact (fun _ _ => trivial)); (case aO => exact (by (with_reducible repeat (first | apply Kd.R_alloc | apply Kd.R_drewN | apply Kd.R_drew)); exact HO_5.out)); (case aS => exact (below_size (by repeat (first | (with_reducible first | exact HB.out | apply below_alloc | apply pw_below_drewN | apply below_drew1) | exact HB.out)))); (case aL => have := LMc9.out; omega); intro v272 w10 ho hb hg hat; rw [← Ny271.out] at ho; have n0_ := Aside0.mk (hb); have n1_ := Aside0.mk (ho); clear HB; clear HO_5; have HB := n0_; have HO273 := n1_; clear n0_ n1_; clear ho hb hg hat))
                    go_roundg kj2
                    case measure => have := HK1.out; have := HJ2.out; omega
                    case rel => exact ⟨(y271), (IntKind.u64.wrap (Int.tdiv (IntKind.u64.wrap ((IntKind.u64.wrap (x6_1 + (IntKind.u64.wrap (rd l0 x7_1)))) + (IntKind.u64.wrap (rd l1 x7_1)))) 4294967296)), (wrap64 (x7_1 + 1)), (by first | rfl | (simp; done) | (simp [*]; done)), (by first | rfl | (simp; done) | (simp [*]; done)), H', ⟨by have := HK1.out; have := HJ2.out; omega⟩, ⟨by (with_reducible repeat (first | apply Kd.R_alloc | apply Kd.R_drewN | apply Kd.R_drew)); exact HO273.out⟩, ⟨by repeat (first | (with_reducible first | exact HB.out | apply below_alloc | apply pw_below_drewN | apply below_drew1) | exact HB.out)⟩⟩
                  · rw [if_neg c9] at H
                    exact absurd H (by simp)
                · rw [if_neg c8] at H
                  have c8b0 : decide (x7_1 < (l1.length : Int)) = false := decide_eq_false c8
                  clear c8
                  by_cases c11 : x5_1.length < 35184372088832
                  · rw [if_pos c11] at H
                    have LMc11 := Aside0.mk c11
                    clear c11
                    obtain ⟨y274, hy274⟩ : ∃ y_ : List Int, y_ = (x5_1 ++ [(Int.tmod (IntKind.u64.wrap (x6_1 + (IntKind.u64.wrap (rd l0 x7_1)))) 4294967296) % 4294967296]) := ⟨_, rfl⟩
                    replace H : (sibylref01_Plus.l0 kj2 l0 l1 y274 (IntKind.u64.wrap (Int.tdiv (IntKind.u64.wrap (x6_1 + (IntKind.u64.wrap (rd l0 x7_1)))) 4294967296)) (wrap64 (x7_1 + 1))) = some r := by first | (rw [hy274]; with_reducible exact H) | (have H2_ := (Option.bind_some _ _).symm.trans H; rw [hy274]; with_reducible exact H2_) | (have H2_ := (Option.bind_some _ _).symm.trans H; with_reducible exact H2_) | with_reducible exact H | (rw [hy274]; exact H) | exact H
                    have Ny274 := Aside0.mk hy274
                    clear hy274
                    have H' := Aside0.mk H
                    clear H
                    have p269 : 0 ≤ (x7_1 : Int) := of_decide_eq_true (by first | (with_reducible assumption) | assumption)
                    have q269 : x7_1 < (l0.length : Int) := of_decide_eq_true (by first | (with_reducible assumption) | assumption)
                    obtain ⟨ad269, e269, hx269_0⟩ := Kd.at_int HR0.out x7_1 p269 q269
                    cases e269
                    replace hx269_0 := (HB.out.cell (World.block_lt_of_cell? w _ hx269_0)).trans hx269_0
                    replace p269 := eq_true p269
                    replace q269 := eq_true q269
                    go_wp2_with (first | ((with_reducible refine gate_builtin (b := .append) (xs := #[.tmp 42, .tmp 46]) rfl ?_); (try (refine gate_guard (by rfl) ?_; dsimp only)); at_builtin; refine Kd.R_append (Kd.int .u32) (w0 := w) w.heap.size rfl (.tmp 42) (.tmp 46) 34 99 (.int .u32 0) 4 rfl Try.underlying34 info99 rfl (by decide) (by omega) u5 x5_1 ((Int.tmod (IntKind.u64.wrap (x6_1 + (IntKind.u64.wrap (rd l0 x7_1)))) 4294967296) % 4294967296) [.int .u32 ((Int.tmod (IntKind.u64.wrap (x6_1 + (IntKind.u64.wrap (rd l0 x7_1)))) 4294967296) % 4294967296)] (fun _ => True) (fun _ => False) rfl rfl ?aP (fun _ hk => hk.elim) ?aF ?aO ?aB ?aS ?aL ?_; (case aP => exact rfl); (case aB => exact (by repeat (first | (with_reducible first | exact HB.out | apply below_alloc | apply pw_below_drewN | apply below_drew1) | exact HB.out))); (case aF => exact (fun _ _ => trivial)); (case aO => exact (by (with_reducible repeat (first | apply Kd.R_alloc | apply Kd.R_drewN | apply Kd.R_drew)); exact HO_5.out)); (case aS => exact (below_size (by repeat (first | (with_reducible first | exact HB.out | apply below_alloc | apply pw_below_drewN | apply below_drew1) | exact HB.out)))); (case aL => have := LMc11.out; omega); intro v275 w12 ho hb hg hat; rw [← Ny274.out] at ho; have n0_ := Aside0.mk (hb); have n1_ := Aside0.mk (ho); clear HB; clear HO_5; have HB := n0_; have HO276 := n1_; clear n0_ n1_; clear ho hb hg hat))
                    go_roundg kj2
                    case measure => have := HK1.out; have := HJ2.out; omega
                    case rel => exact ⟨(y274), (IntKind.u64.wrap (Int.tdiv (IntKind.u64.wrap (x6_1 + (IntKind.u64.wrap (rd l0 x7_1)))) 4294967296)), (wrap64 (x7_1 + 1)), (by first | rfl | (simp; done) | (simp [*]; done)), (by first | rfl | (simp; done) | (simp [*]; done)), H', ⟨by have := HK1.out; have := HJ2.out; omega⟩, ⟨by (with_reducible repeat (first | apply Kd.R_alloc | apply Kd.R_drewN | apply Kd.R_drew)); exact HO276.out⟩, ⟨by repeat (first | (with_reducible first | exact HB.out | apply below_alloc | apply pw_below_drewN | apply below_drew1) | exact HB.out)⟩⟩
                  · rw [if_neg c11] at H
                    exact absurd H (by simp)
              · rw [if_neg c7] at H
                exact absurd H (by simp)
            · rw [if_neg c6] at H
              have c6b0 : decide (x7_1 < (l0.length : Int)) = false := decide_eq_false c6
              clear c6
              by_cases c13 : x7_1 < (l1.length : Int)
              · rw [if_pos c13] at H
                have c13b0 : decide (x7_1 < (l1.length : Int)) = true := decide_eq_true c13
                clear c13
                by_cases c14 : 0 ≤ x7_1
                · rw [if_pos c14] at H
                  have c14b0 : decide (0 ≤ x7_1) = true := decide_eq_true c14
                  clear c14
                  by_cases c15 : x5_1.length < 35184372088832
                  · rw [if_pos c15] at H
                    have LMc15 := Aside0.mk c15
                    clear c15
                    obtain ⟨y278, hy278⟩ : ∃ y_ : List Int, y_ = (x5_1 ++ [(Int.tmod (IntKind.u64.wrap (x6_1 + (IntKind.u64.wrap (rd l1 x7_1)))) 4294967296) % 4294967296]) := ⟨_, rfl⟩
                    replace H : (sibylref01_Plus.l0 kj2 l0 l1 y278 (IntKind.u64.wrap (Int.tdiv (IntKind.u64.wrap (x6_1 + (IntKind.u64.wrap (rd l1 x7_1)))) 4294967296)) (wrap64 (x7_1 + 1))) = some r := by first | (rw [hy278]; with_reducible exact H) | (have H2_ := (Option.bind_some _ _).symm.trans H; rw [hy278]; with_reducible exact H2_) | (have H2_ := (Option.bind_some _ _).symm.trans H; with_reducible exact H2_) | with_reducible exact H | (rw [hy278]; exact H) | exact H
                    have Ny278 := Aside0.mk hy278
                    clear hy278
                    have H' := Aside0.mk H
                    clear H
                    have p277 : 0 ≤ (x7_1 : Int) := of_decide_eq_true (by first | (with_reducible assumption) | assumption)
                    have q277 : x7_1 < (l1.length : Int) := of_decide_eq_true (by first | (with_reducible assumption) | assumption)
                    obtain ⟨ad277, e277, hx277_0⟩ := Kd.at_int HR1.out x7_1 p277 q277
                    cases e277
                    replace hx277_0 := (HB.out.cell (World.block_lt_of_cell? w _ hx277_0)).trans hx277_0
                    replace p277 := eq_true p277
                    replace q277 := eq_true q277
                    go_wp2_with (first | ((with_reducible refine gate_builtin (b := .append) (xs := #[.tmp 42, .tmp 46]) rfl ?_); (try (refine gate_guard (by rfl) ?_; dsimp only)); at_builtin; refine Kd.R_append (Kd.int .u32) (w0 := w) w.heap.size rfl (.tmp 42) (.tmp 46) 34 99 (.int .u32 0) 4 rfl Try.underlying34 info99 rfl (by decide) (by omega) u5 x5_1 ((Int.tmod (IntKind.u64.wrap (x6_1 + (IntKind.u64.wrap (rd l1 x7_1)))) 4294967296) % 4294967296) [.int .u32 ((Int.tmod (IntKind.u64.wrap (x6_1 + (IntKind.u64.wrap (rd l1 x7_1)))) 4294967296) % 4294967296)] (fun _ => True) (fun _ => False) rfl rfl ?aP (fun _ hk => hk.elim) ?aF ?aO ?aB ?aS ?aL ?_; (case aP => exact rfl); (case aB => exact (by repeat (first | (with_reducible first | exact HB.out | apply below_alloc | apply pw_below_drewN | apply below_drew1) | exact HB.out))); (case aF => exact (fun _ _ => trivial)); (case aO => exact (by (with_reducible repeat (first | apply Kd.R_alloc | apply Kd.R_drewN | apply Kd.R_drew)); exact HO_5.out)); (case aS => exact (below_size (by repeat (first | (with_reducible first | exact HB.out | apply below_alloc | apply pw_below_drewN | apply below_drew1) | exact HB.out)))); (case aL => have := LMc15.out; omega); intro v279 w16 ho hb hg hat; rw [← Ny278.out] at ho; have n0_ := Aside0.mk (hb); have n1_ := Aside0.mk (ho); clear HB; clear HO_5; have HB := n0_; have HO280 := n1_; clear n0_ n1_; clear ho hb hg hat))
                    go_roundg kj2
                    case measure => have := HK1.out; have := HJ2.out; omega
                    case rel => exact ⟨(y278), (IntKind.u64.wrap (Int.tdiv (IntKind.u64.wrap (x6_1 + (IntKind.u64.wrap (rd l1 x7_1)))) 4294967296)), (wrap64 (x7_1 + 1)), (by first | rfl | (simp; done) | (simp [*]; done)), (by first | rfl | (simp; done) | (simp [*]; done)), H', ⟨by have := HK1.out; have := HJ2.out; omega⟩, ⟨by (with_reducible repeat (first | apply Kd.R_alloc | apply Kd.R_drewN | apply Kd.R_drew)); exact HO280.out⟩, ⟨by repeat (first | (with_reducible first | exact HB.out | apply below_alloc | apply pw_below_drewN | apply below_drew1) | exact HB.out)⟩⟩
                  · rw [if_neg c15] at H
                    exact absurd H (by simp)
                · rw [if_neg c14] at H
                  exact absurd H (by simp)
              · rw [if_neg c13] at H
                have c13b0 : decide (x7_1 < (l1.length : Int)) = false := decide_eq_false c13
                clear c13
                by_cases c17 : x5_1.length < 35184372088832
                · rw [if_pos c17] at H
                  have LMc17 := Aside0.mk c17
                  clear c17
                  obtain ⟨y281, hy281⟩ : ∃ y_ : List Int, y_ = (x5_1 ++ [(Int.tmod x6_1 4294967296) % 4294967296]) := ⟨_, rfl⟩
                  replace H : (sibylref01_Plus.l0 kj2 l0 l1 y281 (IntKind.u64.wrap (Int.tdiv x6_1 4294967296)) (wrap64 (x7_1 + 1))) = some r := by first | (rw [hy281]; with_reducible exact H) | (have H2_ := (Option.bind_some _ _).symm.trans H; rw [hy281]; with_reducible exact H2_) | (have H2_ := (Option.bind_some _ _).symm.trans H; with_reducible exact H2_) | with_reducible exact H | (rw [hy281]; exact H) | exact H
                  have Ny281 := Aside0.mk hy281
                  clear hy281
                  have H' := Aside0.mk H
                  clear H
                  go_wp2_with (first | ((with_reducible refine gate_builtin (b := .append) (xs := #[.tmp 42, .tmp 46]) rfl ?_); (try (refine gate_guard (by rfl) ?_; dsimp only)); at_builtin; refine Kd.R_append (Kd.int .u32) (w0 := w) w.heap.size rfl (.tmp 42) (.tmp 46) 34 99 (.int .u32 0) 4 rfl Try.underlying34 info99 rfl (by decide) (by omega) u5 x5_1 ((Int.tmod x6_1 4294967296) % 4294967296) [.int .u32 ((Int.tmod x6_1 4294967296) % 4294967296)] (fun _ => True) (fun _ => False) rfl rfl ?aP (fun _ hk => hk.elim) ?aF ?aO ?aB ?aS ?aL ?_; (case aP => exact rfl); (case aB => exact (by repeat (first | (with_reducible first | exact HB.out | apply below_alloc | apply pw_below_drewN | apply below_drew1) | exact HB.out))); (case aF => exact (fun _ _ => trivial)); (case aO => exact (by (with_reducible repeat (first | apply Kd.R_alloc | apply Kd.R_drewN | apply Kd.R_drew)); exact HO_5.out)); (case aS => exact (below_size (by repeat (first | (with_reducible first | exact HB.out | apply below_alloc | apply pw_below_drewN | apply below_drew1) | exact HB.out)))); (case aL => have := LMc17.out; omega); intro v282 w18 ho hb hg hat; rw [← Ny281.out] at ho; have n0_ := Aside0.mk (hb); have n1_ := Aside0.mk (ho); clear HB; clear HO_5; have HB := n0_; have HO283 := n1_; clear n0_ n1_; clear ho hb hg hat))
                  go_roundg kj2
                  case measure => have := HK1.out; have := HJ2.out; omega
                  case rel => exact ⟨(y281), (IntKind.u64.wrap (Int.tdiv x6_1 4294967296)), (wrap64 (x7_1 + 1)), (by first | rfl | (simp; done) | (simp [*]; done)), (by first | rfl | (simp; done) | (simp [*]; done)), H', ⟨by have := HK1.out; have := HJ2.out; omega⟩, ⟨by (with_reducible repeat (first | apply Kd.R_alloc | apply Kd.R_drewN | apply Kd.R_drew)); exact HO283.out⟩, ⟨by repeat (first | (with_reducible first | exact HB.out | apply below_alloc | apply pw_below_drewN | apply below_drew1) | exact HB.out)⟩⟩
                · rw [if_neg c17] at H
                  exact absurd H (by simp)
          · replace c5 := Bool.eq_false_iff.mpr c5
            subst c5
            have H1 : (if x5_1.length < 35184372088832 then ((sibylref01_Trim.f kj2 (x5_1 ++ [(x6_1) % 4294967296])).bind fun t266 => (some t266)) else (none)) = some r := by rw [if_neg (show ¬ (false = true) by decide)] at H; exact H
            clear H
            have H := H1
            clear H1
            by_cases c19 : x5_1.length < 35184372088832
            · rw [if_pos c19] at H
              have LMc19 := Aside0.mk c19
              clear c19
              obtain ⟨y263, hy263⟩ : ∃ y_ : List Int, y_ = (x5_1 ++ [(x6_1) % 4294967296]) := ⟨_, rfl⟩
              replace H : ((sibylref01_Trim.f kj2 y263).bind fun t266 => (some t266)) = some r := by first | (rw [hy263]; with_reducible exact H) | (have H2_ := (Option.bind_some _ _).symm.trans H; rw [hy263]; with_reducible exact H2_) | (have H2_ := (Option.bind_some _ _).symm.trans H; with_reducible exact H2_) | with_reducible exact H | (rw [hy263]; exact H) | exact H
              have Ny263 := Aside0.mk hy263
              clear hy263
              replace H := Option.bind_eq_some_iff.mp H
              obtain ⟨t266, A200, H⟩ := H
              replace H : (some t266) = some r := H
              have A20 := Aside0.mk A200
              clear A200
              obtain rfl := Option.some.inj H
              go_wp2_with (first | ((with_reducible refine gate_builtin (b := .append) (xs := #[.tmp 50, .tmp 53]) rfl ?_); (try (refine gate_guard (by rfl) ?_; dsimp only)); at_builtin; refine Kd.R_append (Kd.int .u32) (w0 := w) w.heap.size rfl (.tmp 50) (.tmp 53) 34 99 (.int .u32 0) 4 rfl Try.underlying34 info99 rfl (by decide) (by omega) u5 x5_1 ((x6_1) % 4294967296) [.int .u32 ((x6_1) % 4294967296)] (fun _ => True) (fun _ => False) rfl rfl ?aP (fun _ hk => hk.elim) ?aF ?aO ?aB ?aS ?aL ?_; (case aP => exact rfl); (case aB => exact (by repeat (first | (with_reducible first | exact HB.out | apply below_alloc | apply pw_below_drewN | apply below_drew1) | exact HB.out))); (case aF => exact (fun _ _ => trivial)); (case aO => exact (by (with_reducible repeat (first | apply Kd.R_alloc | apply Kd.R_drewN | apply Kd.R_drew)); exact HO_5.out)); (case aS => exact (below_size (by repeat (first | (with_reducible first | exact HB.out | apply below_alloc | apply pw_below_drewN | apply below_drew1) | exact HB.out)))); (case aL => have := LMc19.out; omega); intro v264 w21 ho hb hg hat; rw [← Ny263.out] at ho; have n0_ := Aside0.mk (hb); have n1_ := Aside0.mk (ho); clear HB; clear HO_5; have HB := n0_; have HO265 := n1_; clear n0_ n1_; clear ho hb hg hat; obtain ⟨Ao22, co22, eo22⟩ := Kd.R_slice HO265.out; subst eo22) | ((with_reducible refine gate_callee (f := 83) rfl ?_); refine goesL_ (some 56) rfl rfl Try.func83 (by kernel_rfl) rfl #[.slice Ao22 y263.length co22] rfl (by (try simp only [List.map_toArray, List.map_cons, List.map_nil]); first | done | rfl | (simp only [List.length_drop, List.length_take]; rfl)) ?_; (with_reducible refine (sibylref01_Trim.calls kj2 _ _ y263 t266 _ ?side1 ?side2 A20.out).mono ?_); (case side1 => repeat (first | exact (Kd.R_reads' HO265.out).2.2 | (with_reducible refine Kd.C_alloc ?_ _) | (with_reducible refine Kd.C_drewN ?_ _) | (with_reducible refine Kd.C_drew ?_))); (case side2 => exact (Kd.R_reads' HO265.out).2.1); rintro e w23 ⟨v267, rfl, ho0, hb⟩; refine ⟨_, rfl, ?_⟩; have n0_ := Aside0.mk (Kd.R_elder' (by (with_reducible repeat (first | apply Kd.R_alloc | apply Kd.R_drewN | apply Kd.R_drew)); exact HO265.out) (Kd.R_base ho0) hb); have n1_ := Aside0.mk (Kd.R_lower (Kd.R_new' ho0 (Kd.R_lt (by (with_reducible repeat (first | apply Kd.R_alloc | apply Kd.R_drewN | apply Kd.R_drew)); exact HO265.out))) (below_size (by repeat (first | (with_reducible first | exact HB.out | apply below_alloc | apply pw_below_drewN | apply below_drew1) | exact HB.out)))); have n2_ := Aside0.mk (below_step (by repeat (first | (with_reducible first | exact HB.out | apply below_alloc | apply pw_below_drewN | apply below_drew1) | exact HB.out)) hb); clear HO265; clear HB; have HO265 := n0_; have HO268 := n1_; have HB := n2_; clear n0_ n1_ n2_; (try clear hb); (try clear hb2); (try clear hk); (try clear hi); (try clear ho0)))
              go_ret
              exact ⟨_, by first | rfl | (simp [errW_none, errW_some] <;> rfl) | (simp [*, errW_none, errW_some] <;> rfl), by (with_reducible repeat (first | apply Kd.R_alloc | apply Kd.R_drewN | apply Kd.R_drew)); exact Kd.R_mono HO268.out (fun _ hk => trivial), by repeat (first | (with_reducible first | exact HB.out | apply below_alloc | apply pw_below_drewN | apply below_drew1) | exact HB.out)⟩
            · rw [if_neg c19] at H
              exact absurd H (by simp)

/-! ### sibylref01_Shr: function 87 -/
def sibylref01_Shr.l0 : Nat → List Int → Int → List Int → Int → Option (List Int)
  | 0, _, _, _, _ => none
  | k + 1, x0, x1, x5, x6 => if x6 < (x0.length : Int) then (if 0 ≤ x6 then (if (wrap64 (x6 + 1)) < (x0.length : Int) then (if 0 ≤ (wrap64 (x6 + 1)) then (if 0 ≤ (IntKind.u64.wrap (Int.tmod x1 32)) then (if x5.length < 35184372088832 then (sibylref01_Shr.l0 k x0 x1 (x5 ++ [(Int.tmod (shr .u64 (IntKind.u64.wrap ((IntKind.u64.wrap (rd x0 x6)) + (IntKind.u64.wrap ((IntKind.u64.wrap (rd x0 (wrap64 (x6 + 1)))) * 4294967296)))) (IntKind.u64.wrap (Int.tmod x1 32))) 4294967296) % 4294967296]) (wrap64 (x6 + 1))) else (none)) else (none)) else (none)) else (if 0 ≤ (IntKind.u64.wrap (Int.tmod x1 32)) then (if x5.length < 35184372088832 then (sibylref01_Shr.l0 k x0 x1 (x5 ++ [(Int.tmod (shr .u64 (IntKind.u64.wrap (rd x0 x6)) (IntKind.u64.wrap (Int.tmod x1 32))) 4294967296) % 4294967296]) (wrap64 (x6 + 1))) else (none)) else (none))) else (none)) else ((sibylref01_Trim.f k x5).bind fun t292 => (some t292))
def sibylref01_Shr.f (k : Nat) (l0 : List Int) (a1 : Int) : Option (List Int) := sibylref01_Shr.l0 k l0 a1 ([] : List Int) (wrap64 (Int.tdiv a1 32))
theorem sibylref01_Shr.mono_l : ∀ k, (∀ y0 y1 y2 y3, LeO (sibylref01_Shr.l0 k y0 y1 y2 y3) (sibylref01_Shr.l0 (k + 1) y0 y1 y2 y3))
  | 0 => fun _ _ _ _ r h => by simp [sibylref01_Shr.l0] at h
  | k + 1 => by
    have ih0 := sibylref01_Shr.mono_l k
    · intro y0 y1 y2 y3
      unfold sibylref01_Shr.l0
      repeat' first
      | (with_reducible exact ih0 _ _ _ _)
      | (with_reducible exact sibylref01_Trim.mono _ _)
      | (with_reducible exact LeO.refl _)
      | (with_reducible exact LeO.none _)
      | (with_reducible refine LeO.ite ?_ ?_)
      | (with_reducible refine LeO.bind ?_ (fun _ => ?_))
      | exact ih0 _ _ _ _
      | exact sibylref01_Trim.mono _ _
      | exact LeO.none _
      | refine LeO.ite ?_ ?_
      | refine LeO.bind ?_ (fun _ => ?_)
theorem sibylref01_Shr.mono : ∀ a0 a1 k, LeO (sibylref01_Shr.f k a0 a1) (sibylref01_Shr.f (k + 1) a0 a1) := by
  intro a0 a1 k
  have ih0 := sibylref01_Shr.mono_l k
  unfold sibylref01_Shr.f
  repeat' first
      | (with_reducible exact ih0 _ _ _ _)
      | (with_reducible exact sibylref01_Trim.mono _ _)
      | (with_reducible exact LeO.refl _)
      | (with_reducible exact LeO.none _)
      | (with_reducible refine LeO.ite ?_ ?_)
      | (with_reducible refine LeO.bind ?_ (fun _ => ?_))
      | exact ih0 _ _ _ _
      | exact sibylref01_Trim.mono _ _
      | exact LeO.none _
      | refine LeO.ite ?_ ?_
      | refine LeO.bind ?_ (fun _ => ?_)
set_option maxHeartbeats 8000000 in
set_option maxRecDepth 100000 in
theorem sibylref01_Shr.calls (k : Nat) (A0 : Option Addr) (c0 : Nat) (l0 : List Int) (a1 : Int) (r : List Int) (w : World) (hr0 : Kd.C (Kd.int .u32) w A0 l0.length l0) (hc0 : l0.length ≤ c0) (h : sibylref01_Shr.f k l0 a1 = some r) :
    Calls Try.prog 87 #[.slice A0 l0.length c0, .int .i64 a1] w fun e w' => ∃ v0_ : Value, e = .returned (v0_) ∧ Kd.R (Kd.int .u32) 99 w' w.heap.size (fun _ => True) v0_ r ∧ Below w.heap.size w w' := by
  have HR0 := Aside0.mk hr0
  have HC0 := Aside0.mk hc0
  clear hr0 hc0
  have HB := Aside0.mk (Below.refl w.heap.size w)
  have H : (sibylref01_Shr.l0 k l0 a1 ([] : List Int) (wrap64 (Int.tdiv a1 32))) = some r := h
  clear h
  have H' := Aside0.mk H
  clear H
  go_enter Try.func87, Try.ntmps87
  go_wp2
  go_loopg [5, 6] k (fun kq v5 v6 w' => ∃ (x5_1 : List Int) (x6_1 : Int), v6 = .int .i64 x6_1 ∧ Aside0 (sibylref01_Shr.l0 kq l0 a1 x5_1 x6_1 = some r) ∧ Aside0 (kq ≤ k) ∧ Aside0 (Kd.R (Kd.int .u32) 99 w' w.heap.size (fun _ => True) v5 x5_1) ∧ Aside0 (Below w.heap.size w w'))
  case atStart => exact ⟨(([] : List Int)), (wrap64 (Int.tdiv a1 32)), (by first | rfl | (simp; done) | (simp [*]; done)), H', ⟨Nat.le_refl _⟩, ⟨by first | exact Kd.R_nil _ _ _ _ _ | exact Kd.N_nil _ _ _ _ _ | exact Kd.V_nil _ _ _ _ _ | exact Kd.Q_nil _ _ _ _ _ | exact Kd.S_nil _ _ _ _ _⟩, ⟨by repeat (first | (with_reducible first | exact HB.out | apply below_alloc | apply pw_below_drewN | apply below_drew1) | exact HB.out)⟩⟩
  case round =>
    clear H'
    try clear p2
    obtain ⟨x5_1, x6_1, rfl, HA, HK1, HO_5, HB⟩ := hrel
    cases gk with
    | zero => exact absurd HA.out (by simp [sibylref01_Shr.l0])
    | succ k1 =>
      have H := HA.out
      clear HA
      simp only [sibylref01_Shr.l0] at H
      by_cases c3 : x6_1 < (l0.length : Int)
      · rw [if_pos c3] at H
        have c3b0 : decide (x6_1 < (l0.length : Int)) = true := decide_eq_true c3
        clear c3
        by_cases c4 : 0 ≤ x6_1
        · rw [if_pos c4] at H
          have c4b0 : decide (0 ≤ x6_1) = true := decide_eq_true c4
          clear c4
          by_cases c5 : (wrap64 (x6_1 + 1)) < (l0.length : Int)
          · rw [if_pos c5] at H
            have c5b0 : decide ((wrap64 (x6_1 + 1)) < (l0.length : Int)) = true := decide_eq_true c5
            clear c5
            obtain ⟨ji6, hji6⟩ : ∃ j_ : Int, (wrap64 (x6_1 + 1)) = j_ := ⟨_, rfl⟩
            replace H : (if 0 ≤ (ji6) then (if 0 ≤ (IntKind.u64.wrap (Int.tmod a1 32)) then (if x5_1.length < 35184372088832 then (sibylref01_Shr.l0 k1 l0 a1 (x5_1 ++ [(Int.tmod (shr .u64 (IntKind.u64.wrap ((IntKind.u64.wrap (rd l0 x6_1)) + (IntKind.u64.wrap ((IntKind.u64.wrap (rd l0 (ji6))) * 4294967296)))) (IntKind.u64.wrap (Int.tmod a1 32))) 4294967296) % 4294967296]) ji6) else (none)) else (none)) else (none)) = some r := by first | (rw [hji6] at H; exact H) | (simp only [hji6] at H ⊢; exact H)
            (try rw [hji6] at c5b0)
            have hji6w : (IntKind.i64.wrap (x6_1 + 1)) = ji6 := (i64_w _).trans hji6
            by_cases c7 : 0 ≤ (ji6)
            · rw [if_pos c7] at H
              have c7b0 : decide (0 ≤ (ji6)) = true := decide_eq_true c7
              clear c7
              obtain ⟨ji8, hji8⟩ : ∃ j_ : Int, (IntKind.u64.wrap (Int.tmod a1 32)) = j_ := ⟨_, rfl⟩
              replace H : (if 0 ≤ (ji8) then (if x5_1.length < 35184372088832 then (sibylref01_Shr.l0 k1 l0 a1 (x5_1 ++ [(Int.tmod (shr .u64 (IntKind.u64.wrap ((IntKind.u64.wrap (rd l0 x6_1)) + (IntKind.u64.wrap ((IntKind.u64.wrap (rd l0 (ji6))) * 4294967296)))) (ji8)) 4294967296) % 4294967296]) ji6) else (none)) else (none)) = some r := by first | (rw [hji8] at H; exact H) | (simp only [hji8] at H ⊢; exact H)
              by_cases c9 : 0 ≤ (ji8)
              · rw [if_pos c9] at H
                have c9b0 := eq_true c9
                have c9b1 : decide (0 ≤ (ji8)) = true := decide_eq_true c9
                clear c9
                obtain ⟨ji10, hji10⟩ : ∃ j_ : Int, (shr .u64 (IntKind.u64.wrap ((IntKind.u64.wrap (rd l0 x6_1)) + (IntKind.u64.wrap ((IntKind.u64.wrap (rd l0 (ji6))) * 4294967296)))) (ji8)) = j_ := ⟨_, rfl⟩
                replace H : (if x5_1.length < 35184372088832 then (sibylref01_Shr.l0 k1 l0 a1 (x5_1 ++ [(Int.tmod (ji10) 4294967296) % 4294967296]) ji6) else (none)) = some r := by first | (rw [hji10] at H; exact H) | (simp only [hji10] at H ⊢; exact H)
                have hji10_ : ((IntKind.u64.wrap ((IntKind.u64.wrap (rd l0 x6_1)) + (IntKind.u64.wrap ((IntKind.u64.wrap (rd l0 (ji6))) * 4294967296)))) / 2 ^ min (ji8).toNat 64) = ji10 := hji10
                have hji10z : (ji8) ≤ 64 → ((IntKind.u64.wrap ((IntKind.u64.wrap (rd l0 x6_1)) + (IntKind.u64.wrap ((IntKind.u64.wrap (rd l0 (ji6))) * 4294967296)))) / 2 ^ (ji8).toNat) = ji10 := shr_small hji10
                by_cases c11 : x5_1.length < 35184372088832
                · rw [if_pos c11] at H
                  have LMc11 := Aside0.mk c11
                  clear c11
                  obtain ⟨y286, hy286⟩ : ∃ y_ : List Int, y_ = (x5_1 ++ [(Int.tmod (ji10) 4294967296) % 4294967296]) := ⟨_, rfl⟩
                  replace H : (sibylref01_Shr.l0 k1 l0 a1 y286 ji6) = some r := by first | (rw [hy286]; with_reducible exact H) | (have H2_ := (Option.bind_some _ _).symm.trans H; rw [hy286]; with_reducible exact H2_) | (have H2_ := (Option.bind_some _ _).symm.trans H; with_reducible exact H2_) | with_reducible exact H | (rw [hy286]; exact H) | exact H
                  have Ny286 := Aside0.mk hy286
                  clear hy286
                  have H' := Aside0.mk H
                  clear H
                  have p284 : 0 ≤ (x6_1 : Int) := of_decide_eq_true (by first | (with_reducible assumption) | assumption)
                  have q284 : x6_1 < (l0.length : Int) := of_decide_eq_true (by first | (with_reducible assumption) | assumption)
                  obtain ⟨ad284, e284, hx284_0⟩ := Kd.at_int HR0.out x6_1 p284 q284
                  cases e284
                  replace hx284_0 := (HB.out.cell (World.block_lt_of_cell? w _ hx284_0)).trans hx284_0
                  replace p284 := eq_true p284
                  replace q284 := eq_true q284
                  have p285 : 0 ≤ ((ji6) : Int) := of_decide_eq_true (by first | (with_reducible assumption) | assumption)
                  have q285 : (ji6) < (l0.length : Int) := of_decide_eq_true (by first | (with_reducible assumption) | assumption)
                  obtain ⟨ad285, e285, hx285_0⟩ := Kd.at_int HR0.out (ji6) p285 q285
                  obtain rfl : ad284 = ad285 := (by injection e285)
                  replace hx285_0 := (HB.out.cell (World.block_lt_of_cell? w _ hx285_0)).trans hx285_0
                  replace p285 := eq_true p285
                  replace q285 := eq_true q285
                  go_wp2_with (first | ((with_reducible refine gate_builtin (b := .append) (xs := #[.tmp 35, .tmp 43]) rfl ?_); at_builtin; refine Kd.R_append (Kd.int .u32) (w0 := w) w.heap.size rfl (.tmp 35) (.tmp 43) 34 99 (.int .u32 0) 4 rfl Try.underlying34 info99 rfl (by decide) (by omega) u5 x5_1 ((Int.tmod (ji10) 4294967296) % 4294967296) [.int .u32 ((Int.tmod (ji10) 4294967296) % 4294967296)] (fun _ => True) (fun _ => False) rfl rfl ?aP (fun _ hk => hk.elim) ?aF ?aO ?aB ?aS ?aL ?_; (case aP => exact rfl); (case aB => exact (by repeat (first | (with_reducible first | exact HB.out | apply below_alloc | apply pw_below_drewN | apply below_drew1) | exact HB.out))); (case aF => exact (fun _ _ => trivial)); (case aO => exact (by (with_reducible repeat (first | apply Kd.R_alloc | apply Kd.R_drewN | apply Kd.R_drew)); exact HO_5.out)); (case aS => exact (below_size (by repeat (first | (with_reducible first | exact HB.out | apply below_alloc | apply pw_below_drewN | apply below_drew1) | exact HB.out)))); (case aL => have := LMc11.out; omega); intro v287 w12 ho hb hg hat; rw [← Ny286.out] at ho; have n0_ := Aside0.mk (hb); have n1_ := Aside0.mk (ho); clear HB; clear HO_5; have HB := n0_; have HO288 := n1_; clear n0_ n1_; clear ho hb hg hat))
                  go_roundg k1
                  case measure => have := HK1.out; omega
                  case rel => exact ⟨(y286), (ji6), (by first | rfl | (simp; done) | (simp only [← hji6] <;> (first | rfl | simp)) | (simp [*]; done)), H', ⟨by have := HK1.out; omega⟩, ⟨by (with_reducible repeat (first | apply Kd.R_alloc | apply Kd.R_drewN | apply Kd.R_drew)); exact HO288.out⟩, ⟨by repeat (first | (with_reducible first | exact HB.out | apply below_alloc | apply pw_below_drewN | apply below_drew1) | exact HB.out)⟩⟩
                · rw [if_neg c11] at H
                  exact absurd H (by simp)
              · rw [if_neg c9] at H
                exact absurd H (by simp)
            · rw [if_neg c7] at H
              exact absurd H (by simp)
          · rw [if_neg c5] at H
            have c5b0 : decide ((wrap64 (x6_1 + 1)) < (l0.length : Int)) = false := decide_eq_false c5
            clear c5
            obtain ⟨ji13, hji13⟩ : ∃ j_ : Int, (IntKind.u64.wrap (Int.tmod a1 32)) = j_ := ⟨_, rfl⟩
            replace H : (if 0 ≤ (ji13) then (if x5_1.length < 35184372088832 then (sibylref01_Shr.l0 k1 l0 a1 (x5_1 ++ [(Int.tmod (shr .u64 (IntKind.u64.wrap (rd l0 x6_1)) (ji13)) 4294967296) % 4294967296]) (wrap64 (x6_1 + 1))) else (none)) else (none)) = some r := by first | (rw [hji13] at H; exact H) | (simp only [hji13] at H ⊢; exact H)
            by_cases c14 : 0 ≤ (ji13)
            · rw [if_pos c14] at H
              have c14b0 := eq_true c14
              have c14b1 : decide (0 ≤ (ji13)) = true := decide_eq_true c14
              clear c14
              obtain ⟨ji15, hji15⟩ : ∃ j_ : Int, (shr .u64 (IntKind.u64.wrap (rd l0 x6_1)) (ji13)) = j_ := ⟨_, rfl⟩
              replace H : (if x5_1.length < 35184372088832 then (sibylref01_Shr.l0 k1 l0 a1 (x5_1 ++ [(Int.tmod (ji15) 4294967296) % 4294967296]) (wrap64 (x6_1 + 1))) else (none)) = some r := by first | (rw [hji15] at H; exact H) | (simp only [hji15] at H ⊢; exact H)
              have hji15_ : ((IntKind.u64.wrap (rd l0 x6_1)) / 2 ^ min (ji13).toNat 64) = ji15 := hji15
              have hji15z : (ji13) ≤ 64 → ((IntKind.u64.wrap (rd l0 x6_1)) / 2 ^ (ji13).toNat) = ji15 := shr_small hji15
              by_cases c16 : x5_1.length < 35184372088832
              · rw [if_pos c16] at H
                have LMc16 := Aside0.mk c16
                clear c16
                obtain ⟨y289, hy289⟩ : ∃ y_ : List Int, y_ = (x5_1 ++ [(Int.tmod (ji15) 4294967296) % 4294967296]) := ⟨_, rfl⟩
                replace H : (sibylref01_Shr.l0 k1 l0 a1 y289 (wrap64 (x6_1 + 1))) = some r := by first | (rw [hy289]; with_reducible exact H) | (have H2_ := (Option.bind_some _ _).symm.trans H; rw [hy289]; with_reducible exact H2_) | (have H2_ := (Option.bind_some _ _).symm.trans H; with_reducible exact H2_) | with_reducible exact H | (rw [hy289]; exact H) | exact H
                have Ny289 := Aside0.mk hy289
                clear hy289
                have H' := Aside0.mk H
                clear H
                have p284 : 0 ≤ (x6_1 : Int) := of_decide_eq_true (by first | (with_reducible assumption) | assumption)
                have q284 : x6_1 < (l0.length : Int) := of_decide_eq_true (by first | (with_reducible assumption) | assumption)
                obtain ⟨ad284, e284, hx284_0⟩ := Kd.at_int HR0.out x6_1 p284 q284
                cases e284
                replace hx284_0 := (HB.out.cell (World.block_lt_of_cell? w _ hx284_0)).trans hx284_0
                replace p284 := eq_true p284
                replace q284 := eq_true q284
                go_wp2_with (first | ((with_reducible refine gate_builtin (b := .append) (xs := #[.tmp 35, .tmp 43]) rfl ?_); at_builtin; refine Kd.R_append (Kd.int .u32) (w0 := w) w.heap.size rfl (.tmp 35) (.tmp 43) 34 99 (.int .u32 0) 4 rfl Try.underlying34 info99 rfl (by decide) (by omega) u5 x5_1 ((Int.tmod (ji15) 4294967296) % 4294967296) [.int .u32 ((Int.tmod (ji15) 4294967296) % 4294967296)] (fun _ => True) (fun _ => False) rfl rfl ?aP (fun _ hk => hk.elim) ?aF ?aO ?aB ?aS ?aL ?_; (case aP => exact rfl); (case aB => exact (by repeat (first | (with_reducible first | exact HB.out | apply below_alloc | apply pw_below_drewN | apply below_drew1) | exact HB.out))); (case aF => exact (fun _ _ => trivial)); (case aO => exact (by (with_reducible repeat (first | apply Kd.R_alloc | apply Kd.R_drewN | apply Kd.R_drew)); exact HO_5.out)); (case aS => exact (below_size (by repeat (first | (with_reducible first | exact HB.out | apply below_alloc | apply pw_below_drewN | apply below_drew1) | exact HB.out)))); (case aL => have := LMc16.out; omega); intro v290 w17 ho hb hg hat; rw [← Ny289.out] at ho; have n0_ := Aside0.mk (hb); have n1_ := Aside0.mk (ho); clear HB; clear HO_5; have HB := n0_; have HO291 := n1_; clear n0_ n1_; clear ho hb hg hat))
                go_roundg k1
                case measure => have := HK1.out; omega
                case rel => exact ⟨(y289), (wrap64 (x6_1 + 1)), (by first | rfl | (simp; done) | (simp [*]; done)), H', ⟨by have := HK1.out; omega⟩, ⟨by (with_reducible repeat (first | apply Kd.R_alloc | apply Kd.R_drewN | apply Kd.R_drew)); exact HO291.out⟩, ⟨by repeat (first | (with_reducible first | exact HB.out | apply below_alloc | apply pw_below_drewN | apply below_drew1) | exact HB.out)⟩⟩
              · rw [if_neg c16] at H
                exact absurd H (by simp)
            · rw [if_neg c14] at H
              exact absurd H (by simp)
        · rw [if_neg c4] at H
          exact absurd H (by simp)
      · rw [if_neg c3] at H
        have c3b0 : decide (x6_1 < (l0.length : Int)) = false := decide_eq_false c3
        clear c3
        replace H := Option.bind_eq_some_iff.mp H
        obtain ⟨t292, A180, H⟩ := H
        replace H : (some t292) = some r := H
        have A18 := Aside0.mk A180
        clear A180
        obtain rfl := Option.some.inj H
        obtain ⟨Ao19, co19, eo19⟩ := Kd.R_slice HO_5.out
        subst eo19
        go_wp2_with (first | ((with_reducible refine gate_callee (f := 83) rfl ?_); refine goesL_ (some 46) rfl rfl Try.func83 (by kernel_rfl) rfl #[.slice Ao19 x5_1.length co19] rfl (by (try simp only [List.map_toArray, List.map_cons, List.map_nil]); first | done | rfl | (simp only [List.length_drop, List.length_take]; rfl)) ?_; (with_reducible refine (sibylref01_Trim.calls k1 _ _ x5_1 t292 _ ?side1 ?side2 A18.out).mono ?_); (case side1 => repeat (first | exact (Kd.R_reads' HO_5.out).2.2 | (with_reducible refine Kd.C_alloc ?_ _) | (with_reducible refine Kd.C_drewN ?_ _) | (with_reducible refine Kd.C_drew ?_))); (case side2 => exact (Kd.R_reads' HO_5.out).2.1); rintro e w20 ⟨v293, rfl, ho0, hb⟩; refine ⟨_, rfl, ?_⟩; have n0_ := Aside0.mk (Kd.R_elder' (by (with_reducible repeat (first | apply Kd.R_alloc | apply Kd.R_drewN | apply Kd.R_drew)); exact HO_5.out) (Kd.R_base ho0) hb); have n1_ := Aside0.mk (Kd.R_lower (Kd.R_new' ho0 (Kd.R_lt (by (with_reducible repeat (first | apply Kd.R_alloc | apply Kd.R_drewN | apply Kd.R_drew)); exact HO_5.out))) (below_size (by repeat (first | (with_reducible first | exact HB.out | apply below_alloc | apply pw_below_drewN | apply below_drew1) | exact HB.out)))); have n2_ := Aside0.mk (below_step (by repeat (first | (with_reducible first | exact HB.out | apply below_alloc | apply pw_below_drewN | apply below_drew1) | exact HB.out)) hb); clear HO_5; clear HB; have HO_5 := n0_; have HO294 := n1_; have HB := n2_; clear n0_ n1_ n2_; (try clear hb); (try clear hb2); (try clear hk); (try clear hi); (try clear ho0)))
        go_ret
        exact ⟨_, by first | rfl | (simp [errW_none, errW_some] <;> rfl) | (simp [*, errW_none, errW_some] <;> rfl), by (with_reducible repeat (first | apply Kd.R_alloc | apply Kd.R_drewN | apply Kd.R_drew)); exact Kd.R_mono HO294.out (fun _ hk => trivial), by repeat (first | (with_reducible first | exact HB.out | apply below_alloc | apply pw_below_drewN | apply below_drew1) | exact HB.out)⟩

/-! ### sibylref01_Bit: function 95 -/
def sibylref01_Bit.f (l0 : List Int) (a1 : Int) : Option (Bool) := if a1 < 0 then (some false) else (if (wrap64 (Int.tdiv a1 32)) ≥ (l0.length : Int) then (some false) else (if 0 ≤ (wrap64 (Int.tdiv a1 32)) then (if (wrap64 (Int.tdiv a1 32)) < (l0.length : Int) then (if 0 ≤ (IntKind.u64.wrap (Int.tmod a1 32)) then (some ((Int.tmod (shr .u32 (rd l0 (wrap64 (Int.tdiv a1 32))) (IntKind.u64.wrap (Int.tmod a1 32))) 2) == 1)) else (none)) else (none)) else (none)))
set_option maxHeartbeats 8000000 in
set_option maxRecDepth 100000 in
theorem sibylref01_Bit.calls (A0 : Option Addr) (c0 : Nat) (l0 : List Int) (a1 : Int) (r : Bool) (w : World) (hr0 : Kd.C (Kd.int .u32) w A0 l0.length l0) (hc0 : l0.length ≤ c0) (h : sibylref01_Bit.f l0 a1 = some r) :
    Calls Try.prog 95 #[.slice A0 l0.length c0, .int .i64 a1] w fun e w' => e = .returned (.bool r) ∧ Drawn0 w w' := by
  have HR0 := Aside0.mk hr0
  have HC0 := Aside0.mk hc0
  clear hr0 hc0
  have H : (if a1 < 0 then (some false) else (if (wrap64 (Int.tdiv a1 32)) ≥ (l0.length : Int) then (some false) else (if 0 ≤ (wrap64 (Int.tdiv a1 32)) then (if (wrap64 (Int.tdiv a1 32)) < (l0.length : Int) then (if 0 ≤ (IntKind.u64.wrap (Int.tmod a1 32)) then (some ((Int.tmod (shr .u32 (rd l0 (wrap64 (Int.tdiv a1 32))) (IntKind.u64.wrap (Int.tmod a1 32))) 2) == 1)) else (none)) else (none)) else (none)))) = some r := h
  clear h
  by_cases c3 : a1 < 0
  · rw [if_pos c3] at H
    have c3b0 : decide (a1 < 0) = true := decide_eq_true c3
    clear c3
    obtain rfl := Option.some.inj H
    go_enter Try.func95, Try.ntmps95
    go_wp2
    go_ret
    exact ⟨by first | rfl | (simp; done) | (simp [*]; done), by repeat (first | exact Drawn0.refl _ | apply Drawn0.step)⟩
  · rw [if_neg c3] at H
    have c3b0 : decide (a1 < 0) = false := decide_eq_false c3
    clear c3
    by_cases c4 : (wrap64 (Int.tdiv a1 32)) ≥ (l0.length : Int)
    · rw [if_pos c4] at H
      have c4b0 : decide ((l0.length : Int) ≤ (wrap64 (Int.tdiv a1 32))) = true := decide_eq_true c4
      clear c4
      obtain rfl := Option.some.inj H
      go_enter Try.func95, Try.ntmps95
      go_wp2
      go_ret
      exact ⟨by first | rfl | (simp; done) | (simp [*]; done), by repeat (first | exact Drawn0.refl _ | apply Drawn0.step)⟩
    · rw [if_neg c4] at H
      have c4b0 : decide ((l0.length : Int) ≤ (wrap64 (Int.tdiv a1 32))) = false := decide_eq_false c4
      clear c4
      obtain ⟨ji5, hji5⟩ : ∃ j_ : Int, (wrap64 (Int.tdiv a1 32)) = j_ := ⟨_, rfl⟩
      replace H : (if 0 ≤ (ji5) then (if (ji5) < (l0.length : Int) then (if 0 ≤ (IntKind.u64.wrap (Int.tmod a1 32)) then (some ((Int.tmod (shr .u32 (rd l0 (ji5)) (IntKind.u64.wrap (Int.tmod a1 32))) 2) == 1)) else (none)) else (none)) else (none)) = some r := by first | (rw [hji5] at H; exact H) | (simp only [hji5] at H ⊢; exact H)
      (try rw [hji5] at c4b0)
      have hji5w : (IntKind.i64.wrap (Int.tdiv a1 32)) = ji5 := (i64_w _).trans hji5
      by_cases c6 : 0 ≤ (ji5)
      · rw [if_pos c6] at H
        have c6b0 : decide (0 ≤ (ji5)) = true := decide_eq_true c6
        clear c6
        by_cases c7 : (ji5) < (l0.length : Int)
        · rw [if_pos c7] at H
          have c7b0 : decide ((ji5) < (l0.length : Int)) = true := decide_eq_true c7
          clear c7
          obtain ⟨ji8, hji8⟩ : ∃ j_ : Int, (IntKind.u64.wrap (Int.tmod a1 32)) = j_ := ⟨_, rfl⟩
          replace H : (if 0 ≤ (ji8) then (some ((Int.tmod (shr .u32 (rd l0 (ji5)) (ji8)) 2) == 1)) else (none)) = some r := by first | (rw [hji8] at H; exact H) | (simp only [hji8] at H ⊢; exact H)
          by_cases c9 : 0 ≤ (ji8)
          · rw [if_pos c9] at H
            have c9b0 := eq_true c9
            have c9b1 : decide (0 ≤ (ji8)) = true := decide_eq_true c9
            clear c9
            obtain ⟨ji10, hji10⟩ : ∃ j_ : Int, (shr .u32 (rd l0 (ji5)) (ji8)) = j_ := ⟨_, rfl⟩
            replace H : (some ((Int.tmod (ji10) 2) == 1)) = some r := by first | (rw [hji10] at H; exact H) | (simp only [hji10] at H ⊢; exact H)
            have hji10_ : ((rd l0 (ji5)) / 2 ^ min (ji8).toNat 32) = ji10 := hji10
            have hji10z : (ji8) ≤ 32 → ((rd l0 (ji5)) / 2 ^ (ji8).toNat) = ji10 := shr_small hji10
            obtain rfl := Option.some.inj H
            have p295 : 0 ≤ ((ji5) : Int) := of_decide_eq_true (by first | (with_reducible assumption) | assumption)
            have q295 : (ji5) < (l0.length : Int) := of_decide_eq_true (by first | (with_reducible assumption) | assumption)
            obtain ⟨ad295, e295, hx295_0⟩ := Kd.at_int HR0.out (ji5) p295 q295
            cases e295
            replace p295 := eq_true p295
            replace q295 := eq_true q295
            go_enter Try.func95, Try.ntmps95
            go_wp2
            go_ret
            exact ⟨by first | rfl | (simp; done) | (simp only [← hji5, ← hji8, ← hji10] <;> (first | rfl | simp)) | (simp [*]; done), by repeat (first | exact Drawn0.refl _ | apply Drawn0.step)⟩
          · rw [if_neg c9] at H
            exact absurd H (by simp)
        · rw [if_neg c7] at H
          exact absurd H (by simp)
      · rw [if_neg c6] at H
        exact absurd H (by simp)

end Go.Proofs.Ytjppanekddljbaa.Pr
