/- OddsTotals returns true whatever the input, and the input reads as it did. Conditions: none but those of the given row (part 1) -/
import Derived.Test.YtjppanekddljbaaT0
set_option linter.unusedVariables false
set_option linter.unusedSimpArgs false
/- What the kit's print wrote for these functions, taken together by wip/pick.py: each function's Lean function and that the Go code comes to it. -/
namespace Go.Proofs.Ytjppanekddljbaa.Pr
open Go.RowKit Go.Proofs.YtjppanekddljbaaW.PrintWords Go.Proofs.YtjppanekddljbaaW.PrintLast Go.Proofs.YtjppanekddljbaaW.PrintMore
attribute [local go_sem] max2_int min2_int max_two min_two max_three min_three max_four min_four
def sibylref01_Same.l0 : Nat → List Int → List Int → Int → Option (Bool)
 | 0, _, _, _ => none
 | k + 1, x0, x1, x5 => if x5 < (x0.length : Int) then (if 0 ≤ x5 then (if x5 < (x1.length : Int) then (if (rd x0 x5) = (rd x1 x5) then (sibylref01_Same.l0 k x0 x1 (wrap64 (x5 + 1))) else (some false)) else (none)) else (none)) else (some true)
def sibylref01_Same.f (k : Nat) (l0 : List Int) (l1 : List Int) : Option (Bool) := if (l0.length : Int) = (l1.length : Int) then (sibylref01_Same.l0 k l0 l1 0) else (some false)
set_option maxHeartbeats 8000000 in
set_option maxRecDepth 100000 in
theorem sibylref01_Same.calls (k : Nat) (A0 : Option Addr) (c0 : Nat) (l0 : List Int) (A1 : Option Addr) (c1 : Nat) (l1 : List Int) (r : Bool) (w : World) (hr0 : Kd.C (Kd.int .u32) w A0 l0.length l0) (hc0 : l0.length ≤ c0) (hr1 : Kd.C (Kd.int .u32) w A1 l1.length l1) (hc1 : l1.length ≤ c1) (h : sibylref01_Same.f k l0 l1 = some r) :
  Calls Try.prog 36 #[.slice A0 l0.length c0, .slice A1 l1.length c1] w fun e w' => e = .returned (.bool r) ∧ Drawn0 w w' := by
 have HR0 := Aside0.mk hr0
 have HC0 := Aside0.mk hc0
 clear hr0 hc0
 have HR1 := Aside0.mk hr1
 have HC1 := Aside0.mk hc1
 clear hr1 hc1
 have H : (if (l0.length : Int) = (l1.length : Int) then (sibylref01_Same.l0 k l0 l1 0) else (some false)) = some r := h
 clear h
 by_cases c3 : (l0.length : Int) = (l1.length : Int)
 ·rw [if_pos c3] at H
  have c3b0 : ((l0.length : Int) == (l1.length : Int)) = true := beq_iff_eq.mpr c3
  have c3b1 : ((l0.length : Int) != (l1.length : Int)) = false := bne_eq_false_iff_eq.mpr c3
  have c3b2 : (l0.length == l1.length) = true := by first | simpa using c3 | (simp at c3 ⊢; omega)
  clear c3
  have H' := Aside0.mk H
  clear H
  go_enter Try.func36, Try.ntmps36
  go_wp2
  repeat (go_quiet (fail); try go_wp2)
  go_loopg [5] k (fun kq v5 w' => ∃ (x5_1 : Int), v5 = .int .i64 x5_1 ∧ Aside0 (sibylref01_Same.l0 kq l0 l1 x5_1 = some r) ∧ Aside0 (kq ≤ k) ∧ Drawn0 w w')
  case atStart => exact ⟨(0), (by first | rfl | (simp; done) | (simp [*]; done)), H', ⟨Nat.le_refl _⟩, by repeat (first | exact Drawn0.refl _ | apply Drawn0.step)⟩
  case round =>
   clear H'
   try clear c1
   try clear p2
   try clear c3
   try clear c3b0
   try clear c3b1
   try clear c3b2
   obtain ⟨x5_1, rfl, HA, HK1, ⟨m1, rfl⟩⟩ := hrel
   cases gk with
   | zero => exact absurd HA.out (by simp [sibylref01_Same.l0])
   | succ k1 =>
    have H := HA.out
    clear HA
    simp only [sibylref01_Same.l0] at H
    by_cases c4 : x5_1 < (l0.length : Int)
    ·rw [if_pos c4] at H
     have c4b0 : decide (x5_1 < (l0.length : Int)) = true := decide_eq_true c4
     clear c4
     by_cases c5 : 0 ≤ x5_1
     ·rw [if_pos c5] at H
      have c5b0 : decide (0 ≤ x5_1) = true := decide_eq_true c5
      clear c5
      by_cases c6 : x5_1 < (l1.length : Int)
      ·rw [if_pos c6] at H
       have c6b0 : decide (x5_1 < (l1.length : Int)) = true := decide_eq_true c6
       clear c6
       by_cases c7 : (rd l0 x5_1) = (rd l1 x5_1)
       ·rw [if_pos c7] at H
        have c7b0 : ((rd l0 x5_1) == (rd l1 x5_1)) = true := beq_iff_eq.mpr c7
        have c7b1 : ((rd l0 x5_1) != (rd l1 x5_1)) = false := bne_eq_false_iff_eq.mpr c7
        clear c7
        have H' := Aside0.mk H
        clear H
        have p217 : 0 ≤ (x5_1 : Int) := of_decide_eq_true (by first | (with_reducible assumption) | assumption)
        have q217 : x5_1 < (l0.length : Int) := of_decide_eq_true (by first | (with_reducible assumption) | assumption)
        obtain ⟨ad217, e217, hx217_0⟩ := Kd.at_int HR0.out x5_1 p217 q217
        cases e217
        replace p217 := eq_true p217
        replace q217 := eq_true q217
        have p218 : 0 ≤ (x5_1 : Int) := of_decide_eq_true (by first | (with_reducible assumption) | assumption)
        have q218 : x5_1 < (l1.length : Int) := of_decide_eq_true (by first | (with_reducible assumption) | assumption)
        obtain ⟨ad218, e218, hx218_0⟩ := Kd.at_int HR1.out x5_1 p218 q218
        cases e218
        replace p218 := eq_true p218
        replace q218 := eq_true q218
        go_wp2
        repeat (go_quiet (fail); try go_wp2)
        go_roundg k1
        case measure => have := HK1.out; omega
        case rel => exact ⟨(wrap64 (x5_1 + 1)), (by first | rfl | (simp; done) | (simp [*]; done)), H', ⟨by have := HK1.out; omega⟩, by repeat (first | exact Drawn0.refl _ | apply Drawn0.step)⟩
       ·rw [if_neg c7] at H
        have c7b0 : ((rd l0 x5_1) == (rd l1 x5_1)) = false := beq_eq_false_iff_ne.mpr c7
        have c7b1 : ((rd l0 x5_1) != (rd l1 x5_1)) = true := bne_iff_ne.mpr c7
        obtain rfl := Option.some.inj H
        have p217 : 0 ≤ (x5_1 : Int) := of_decide_eq_true (by first | (with_reducible assumption) | assumption)
        have q217 : x5_1 < (l0.length : Int) := of_decide_eq_true (by first | (with_reducible assumption) | assumption)
        obtain ⟨ad217, e217, hx217_0⟩ := Kd.at_int HR0.out x5_1 p217 q217
        cases e217
        replace p217 := eq_true p217
        replace q217 := eq_true q217
        have p218 : 0 ≤ (x5_1 : Int) := of_decide_eq_true (by first | (with_reducible assumption) | assumption)
        have q218 : x5_1 < (l1.length : Int) := of_decide_eq_true (by first | (with_reducible assumption) | assumption)
        obtain ⟨ad218, e218, hx218_0⟩ := Kd.at_int HR1.out x5_1 p218 q218
        cases e218
        replace p218 := eq_true p218
        replace q218 := eq_true q218
        go_wp2
        repeat (go_quiet (fail); try go_wp2)
        go_ret
        exact ⟨by first | rfl | (simp; done) | (simp [*]; done), by repeat (first | exact Drawn0.refl _ | apply Drawn0.step)⟩
      ·rw [if_neg c6] at H
       exact absurd H (by simp)
     ·rw [if_neg c5] at H
      exact absurd H (by simp)
    ·rw [if_neg c4] at H
     have c4b0 : decide (x5_1 < (l0.length : Int)) = false := decide_eq_false c4
     clear c4
     obtain rfl := Option.some.inj H
     go_wp2
     repeat (go_quiet (fail); try go_wp2)
     go_ret
     exact ⟨by first | rfl | (simp; done) | (simp [*]; done), by repeat (first | exact Drawn0.refl _ | apply Drawn0.step)⟩
 ·rw [if_neg c3] at H
  have c3b0 : ((l0.length : Int) == (l1.length : Int)) = false := beq_eq_false_iff_ne.mpr c3
  have c3b1 : ((l0.length : Int) != (l1.length : Int)) = true := bne_iff_ne.mpr c3
  have c3b2 : (l0.length == l1.length) = false := by first | simpa using c3 | (simp at c3 ⊢; omega)
  obtain rfl := Option.some.inj H
  go_enter Try.func36, Try.ntmps36
  go_wp2
  repeat (go_quiet (fail); try go_wp2)
  go_ret
  exact ⟨by first | rfl | (simp; done) | (simp [*]; done), by repeat (first | exact Drawn0.refl _ | apply Drawn0.step)⟩
def sibylref01_Form.f (l0 : List Int) : Option (Bool) := if (l0.length : Int) ≤ 16 then (if (l0.length : Int) = 0 then (some true) else (if 0 ≤ (wrap64 ((l0.length : Int) - 1)) then (if (wrap64 ((l0.length : Int) - 1)) < (l0.length : Int) then (some ((rd l0 (wrap64 ((l0.length : Int) - 1))) != 0)) else (none)) else (none))) else (some false)
set_option maxHeartbeats 8000000 in
set_option maxRecDepth 100000 in
theorem sibylref01_Form.calls (A0 : Option Addr) (c0 : Nat) (l0 : List Int) (r : Bool) (w : World) (hr0 : Kd.C (Kd.int .u32) w A0 l0.length l0) (hc0 : l0.length ≤ c0) (h : sibylref01_Form.f l0 = some r) :
  Calls Try.prog 80 #[.slice A0 l0.length c0] w fun e w' => e = .returned (.bool r) ∧ Drawn0 w w' := by
 have HR0 := Aside0.mk hr0
 have HC0 := Aside0.mk hc0
 clear hr0 hc0
 have H : (if (l0.length : Int) ≤ 16 then (if (l0.length : Int) = 0 then (some true) else (if 0 ≤ (wrap64 ((l0.length : Int) - 1)) then (if (wrap64 ((l0.length : Int) - 1)) < (l0.length : Int) then (some ((rd l0 (wrap64 ((l0.length : Int) - 1))) != 0)) else (none)) else (none))) else (some false)) = some r := h
 clear h
 by_cases c2 : (l0.length : Int) ≤ 16
 ·rw [if_pos c2] at H
  have c2b0 : decide ((l0.length : Int) ≤ 16) = true := decide_eq_true c2
  have c2b1 : decide (l0.length ≤ 16) = true := decide_eq_true (by omega)
  clear c2
  by_cases c3 : (l0.length : Int) = 0
  ·rw [if_pos c3] at H
   have c3b0 : ((l0.length : Int) == 0) = true := beq_iff_eq.mpr c3
   have c3b1 : ((l0.length : Int) != 0) = false := bne_eq_false_iff_eq.mpr c3
   clear c3
   obtain rfl := Option.some.inj H
   go_enter Try.func80, Try.ntmps80
   go_wp2
   go_ret
   exact ⟨by first | rfl | (simp; done) | (simp [*]; done), by repeat (first | exact Drawn0.refl _ | apply Drawn0.step)⟩
  ·rw [if_neg c3] at H
   have c3b0 : ((l0.length : Int) == 0) = false := beq_eq_false_iff_ne.mpr c3
   have c3b1 : ((l0.length : Int) != 0) = true := bne_iff_ne.mpr c3
   have c3b2 : ¬ (l0 = []) := fun h_ => c3 (by rw [h_]; rfl)
   obtain ⟨ji4, hji4⟩ : ∃ j_ : Int, (wrap64 ((l0.length : Int) - 1)) = j_ := ⟨_, rfl⟩
   replace H : (if 0 ≤ (ji4) then (if (ji4) < (l0.length : Int) then (some ((rd l0 (ji4)) != 0)) else (none)) else (none)) = some r := by first | (rw [hji4] at H; exact H) | (simp only [hji4] at H ⊢; exact H)
   have hji4w : (IntKind.i64.wrap ((l0.length : Int) - 1)) = ji4 := (i64_w _).trans hji4
   by_cases c5 : 0 ≤ (ji4)
   ·rw [if_pos c5] at H
    have c5b0 : decide (0 ≤ (ji4)) = true := decide_eq_true c5
    clear c5
    by_cases c6 : (ji4) < (l0.length : Int)
    ·rw [if_pos c6] at H
     have c6b0 : decide ((ji4) < (l0.length : Int)) = true := decide_eq_true c6
     clear c6
     obtain rfl := Option.some.inj H
     have p219 : 0 ≤ ((ji4) : Int) := of_decide_eq_true (by first | (with_reducible assumption) | assumption)
     have q219 : (ji4) < (l0.length : Int) := of_decide_eq_true (by first | (with_reducible assumption) | assumption)
     obtain ⟨ad219, e219, hx219_0⟩ := Kd.at_int HR0.out (ji4) p219 q219
     cases e219
     replace p219 := eq_true p219
     replace q219 := eq_true q219
     go_enter Try.func80, Try.ntmps80
     go_wp2
     go_ret
     exact ⟨by first | rfl | (simp; done) | (simp only [← hji4] <;> (first | rfl | simp)) | (simp [*]; done), by repeat (first | exact Drawn0.refl _ | apply Drawn0.step)⟩
    ·rw [if_neg c6] at H
     exact absurd H (by simp)
   ·rw [if_neg c5] at H
    exact absurd H (by simp)
 ·rw [if_neg c2] at H
  have c2b0 : decide ((l0.length : Int) ≤ 16) = false := decide_eq_false c2
  have c2b1 : decide (l0.length ≤ 16) = false := decide_eq_false (by omega)
  clear c2
  obtain rfl := Option.some.inj H
  go_enter Try.func80, Try.ntmps80
  go_wp2
  go_ret
  exact ⟨by first | rfl | (simp; done) | (simp [*]; done), by repeat (first | exact Drawn0.refl _ | apply Drawn0.step)⟩
mutual
def sibylref01_Trim.j1 : Nat → List Int → Int → Option (List Int)
 | 0, _, _ => none
 | k + 1, x0, x3 => sibylref01_Trim.l1 k x0 x3 ([] : List Int) 0
def sibylref01_Trim.l1 : Nat → List Int → Int → List Int → Int → Option (List Int)
 | 0, _, _, _, _ => none
 | k + 1, x0, x3, x4, x5 => if x5 < x3 then (if 0 ≤ x5 then (if x5 < (x0.length : Int) then (if x4.length < 35184372088832 then (sibylref01_Trim.l1 k x0 x3 (x4 ++ [rd x0 x5]) (wrap64 (x5 + 1))) else (none)) else (none)) else (none)) else (some x4)
def sibylref01_Trim.l0 : Nat → List Int → Int → Option (List Int)
 | 0, _, _ => none
 | k + 1, x0, x3 => if x3 > 0 then (if 0 ≤ (wrap64 (x3 - 1)) then (if (wrap64 (x3 - 1)) < (x0.length : Int) then (if (rd x0 (wrap64 (x3 - 1))) = 0 then (sibylref01_Trim.l0 k x0 (wrap64 (x3 - 1))) else (sibylref01_Trim.j1 k x0 x3)) else (none)) else (none)) else (sibylref01_Trim.j1 k x0 x3)
end
def sibylref01_Trim.f (k : Nat) (l0 : List Int) : Option (List Int) := sibylref01_Trim.l0 k l0 (l0.length : Int)
set_option maxHeartbeats 8000000 in
set_option maxRecDepth 100000 in
theorem sibylref01_Trim.calls (k : Nat) (A0 : Option Addr) (c0 : Nat) (l0 : List Int) (r : List Int) (w : World) (hr0 : Kd.C (Kd.int .u32) w A0 l0.length l0) (hc0 : l0.length ≤ c0) (h : sibylref01_Trim.f k l0 = some r) :
  Calls Try.prog 83 #[.slice A0 l0.length c0] w fun e w' => ∃ v0_ : Value, e = .returned (v0_) ∧ Kd.R (Kd.int .u32) 99 w' w.heap.size (fun _ => True) v0_ r ∧ Below w.heap.size w w' := by
 have HR0 := Aside0.mk hr0
 have HC0 := Aside0.mk hc0
 clear hr0 hc0
 have HB := Aside0.mk (Below.refl w.heap.size w)
 have H : (sibylref01_Trim.l0 k l0 (l0.length : Int)) = some r := h
 clear h
 have HC2 := Aside0.mk H
 clear H
 go_enter Try.func83, Try.ntmps83
 go_upto_block 0 with (fail)
 go_cut [3] (fun v3 wc => ∃ (kq : Nat) (x3_1 : Int), v3 = .int .i64 x3_1 ∧ Aside0 (sibylref01_Trim.j1 kq l0 x3_1 = some r) ∧ Aside0 (kq ≤ k) ∧ Aside0 (Below w.heap.size w wc))
 case first =>
  have H := HC2.out
  clear HC2
  have H' := Aside0.mk H
  clear H
  go_wp2
  go_loopg [3] k (fun kq v3 w' => ∃ (x3_1 : Int), v3 = .int .i64 x3_1 ∧ Aside0 (sibylref01_Trim.l0 kq l0 x3_1 = some r) ∧ Aside0 (kq ≤ k) ∧ Aside0 (Below w.heap.size w w'))
  case atStart => exact ⟨((l0.length : Int)), (by first | rfl | (simp; done) | (simp [*]; done)), H', ⟨Nat.le_refl _⟩, ⟨bl HB⟩⟩
  case round =>
   clear H'
   try clear p2
   obtain ⟨x3_1, rfl, HA, HK1, HB⟩ := hrel
   cases gk with
   | zero => exact absurd HA.out (by simp [sibylref01_Trim.l0])
   | succ k1 =>
    have H := HA.out
    clear HA
    simp only [sibylref01_Trim.l0] at H
    by_cases c3 : x3_1 > 0
    ·rw [if_pos c3] at H
     have c3b0 : decide (0 < x3_1) = true := decide_eq_true c3
     clear c3
     (first | rw [c3b0] | (simp only [i64_w, i32_w]; rw [c3b0]) | skip)
     obtain ⟨ji4, hji4⟩ : ∃ j_ : Int, (wrap64 (x3_1 - 1)) = j_ := ⟨_, rfl⟩
     replace H : (if 0 ≤ (ji4) then (if (ji4) < (l0.length : Int) then (if (rd l0 (ji4)) = 0 then (sibylref01_Trim.l0 k1 l0 ji4) else (sibylref01_Trim.j1 k1 l0 x3_1)) else (none)) else (none)) = some r := by first | (rw [hji4] at H; exact H) | (simp only [hji4] at H ⊢; exact H)
     have hji4w : (IntKind.i64.wrap (x3_1 - 1)) = ji4 := (i64_w _).trans hji4
     by_cases c5 : 0 ≤ (ji4)
     ·rw [if_pos c5] at H
      have c5b0 : decide (0 ≤ (ji4)) = true := decide_eq_true c5
      clear c5
      by_cases c6 : (ji4) < (l0.length : Int)
      ·rw [if_pos c6] at H
       have c6b0 : decide ((ji4) < (l0.length : Int)) = true := decide_eq_true c6
       clear c6
       by_cases c7 : (rd l0 (ji4)) = 0
       ·rw [if_pos c7] at H
        have c7b0 : ((rd l0 (ji4)) == 0) = true := beq_iff_eq.mpr c7
        have c7b1 : ((rd l0 (ji4)) != 0) = false := bne_eq_false_iff_eq.mpr c7
        clear c7
        have H' := Aside0.mk H
        clear H
        have p220 : 0 ≤ ((ji4) : Int) := of_decide_eq_true (by first | (with_reducible assumption) | assumption)
        have q220 : (ji4) < (l0.length : Int) := of_decide_eq_true (by first | (with_reducible assumption) | assumption)
        obtain ⟨ad220, e220, hx220_0⟩ := Kd.at_int HR0.out (ji4) p220 q220
        cases e220
        replace hx220_0 := (HB.out.cell (World.block_lt_of_cell? w _ hx220_0)).trans hx220_0
        replace p220 := eq_true p220
        replace q220 := eq_true q220
        go_wp2
        go_roundg k1
        case measure => have := HK1.out; omega
        case rel => exact ⟨(ji4), (by first | rfl | (simp; done) | (simp only [← hji4] <;> (first | rfl | simp)) | (simp [*]; done)), H', ⟨by have := HK1.out; omega⟩, ⟨bl HB⟩⟩
       ·rw [if_neg c7] at H
        have c7b0 : ((rd l0 (ji4)) == 0) = false := beq_eq_false_iff_ne.mpr c7
        have c7b1 : ((rd l0 (ji4)) != 0) = true := bne_iff_ne.mpr c7
        have H' := Aside0.mk H
        clear H
        have p220 : 0 ≤ ((ji4) : Int) := of_decide_eq_true (by first | (with_reducible assumption) | assumption)
        have q220 : (ji4) < (l0.length : Int) := of_decide_eq_true (by first | (with_reducible assumption) | assumption)
        obtain ⟨ad220, e220, hx220_0⟩ := Kd.at_int HR0.out (ji4) p220 q220
        cases e220
        replace hx220_0 := (HB.out.cell (World.block_lt_of_cell? w _ hx220_0)).trans hx220_0
        replace p220 := eq_true p220
        replace q220 := eq_true q220
        go_wp2
        go_meet
        case rel => exact ⟨_, (x3_1), (by first | rfl | (simp; done) | (simp [*]; done)), H', ⟨by have := HK1.out; first | omega | exact Nat.le_refl _⟩, ⟨bl HB⟩⟩
      ·rw [if_neg c6] at H
       exact absurd H (by simp)
     ·rw [if_neg c5] at H
      exact absurd H (by simp)
    ·rw [if_neg c3] at H
     have c3b0 : decide (0 < x3_1) = false := decide_eq_false c3
     clear c3
     (first | rw [c3b0] | (simp only [i64_w, i32_w]; rw [c3b0]) | skip)
     have H' := Aside0.mk H
     clear H
     go_wp2
     go_meet
     case rel => exact ⟨_, (x3_1), (by first | rfl | (simp; done) | (simp [*]; done)), H', ⟨by have := HK1.out; first | omega | exact Nat.le_refl _⟩, ⟨bl HB⟩⟩
 case rest =>
  clear HC2
  try clear p2
  try clear q2
  try clear hx2
  try clear c3
  try clear c3b0
  try clear c5
  try clear c5b0
  try clear c6
  try clear c6b0
  try clear p6
  try clear c7
  try clear c7b0
  try clear c7b1
  try clear hx220_0
  try clear p2
  try clear p220
  try clear q220
  obtain ⟨kq, x3_1, rfl, HA, HJ1, HB⟩ := hcut
  cases kq with
  | zero => exact absurd HA.out (by simp [sibylref01_Trim.j1])
  | succ kj1 =>
   have H := HA.out
   clear HA
   simp only [sibylref01_Trim.j1] at H
   have H' := Aside0.mk H
   clear H
   go_wp2
   go_loopg [4, 5] kj1 (fun kq v4 v5 w' => ∃ (x4_2 : List Int) (x5_2 : Int), v5 = .int .i64 x5_2 ∧ Aside0 (sibylref01_Trim.l1 kq l0 x3_1 x4_2 x5_2 = some r) ∧ Aside0 (kq ≤ kj1) ∧ Aside0 (Kd.R (Kd.int .u32) 99 w' w.heap.size (fun _ => True) v4 x4_2) ∧ Aside0 (Below w.heap.size w w'))
   case atStart => exact ⟨(([] : List Int)), (0), (by first | rfl | (simp; done) | (simp [*]; done)), H', ⟨Nat.le_refl _⟩, ⟨by first | exact Kd.R_nil _ _ _ _ _ | exact Kd.V_nil _ _ _ _ _⟩, ⟨bl HB⟩⟩
   case round =>
    clear H'
    try clear p2
    try clear q2
    try clear hx2
    try clear c3
    try clear c3b0
    try clear c5
    try clear c5b0
    try clear c6
    try clear c6b0
    try clear p6
    try clear c7
    try clear c7b0
    try clear c7b1
    try clear hx220_0
    try clear p2
    try clear p220
    try clear p6
    try clear q2
    try clear q220
    obtain ⟨x4_2, x5_2, rfl, HA, HK2, HO_4, HB⟩ := hrel
    cases gk with
    | zero => exact absurd HA.out (by simp [sibylref01_Trim.l1])
    | succ k2 =>
     have H := HA.out
     clear HA
     simp only [sibylref01_Trim.l1] at H
     by_cases c8 : x5_2 < x3_1
     ·rw [if_pos c8] at H
      have c8b0 : decide (x5_2 < x3_1) = true := decide_eq_true c8
      clear c8
      by_cases c9 : 0 ≤ x5_2
      ·rw [if_pos c9] at H
       have c9b0 : decide (0 ≤ x5_2) = true := decide_eq_true c9
       clear c9
       by_cases c10 : x5_2 < (l0.length : Int)
       ·rw [if_pos c10] at H
        have c10b0 : decide (x5_2 < (l0.length : Int)) = true := decide_eq_true c10
        clear c10
        by_cases c11 : x4_2.length < 35184372088832
        ·rw [if_pos c11] at H
         have LMc11 := Aside0.mk c11
         clear c11
         obtain ⟨y222, hy222⟩ : ∃ y_ : List Int, y_ = (x4_2 ++ [rd l0 x5_2]) := ⟨_, rfl⟩
         replace H : (sibylref01_Trim.l1 k2 l0 x3_1 y222 (wrap64 (x5_2 + 1))) = some r := by rw [hy222]; exact H
         have Ny222 := Aside0.mk hy222
         clear hy222
         have H' := Aside0.mk H
         clear H
         have p221 : 0 ≤ (x5_2 : Int) := of_decide_eq_true (by first | (with_reducible assumption) | assumption)
         have q221 : x5_2 < (l0.length : Int) := of_decide_eq_true (by first | (with_reducible assumption) | assumption)
         obtain ⟨ad221, e221, hx221_0⟩ := Kd.at_int HR0.out x5_2 p221 q221
         cases e221
         replace hx221_0 := (HB.out.cell (World.block_lt_of_cell? w _ hx221_0)).trans hx221_0
         replace p221 := eq_true p221
         replace q221 := eq_true q221
         go_wp2_with (first | ((with_reducible refine gate_builtin (b := .append) (xs := #[.tmp 25, .tmp 30]) rfl ?_); at_builtin; refine Kd.R_append (Kd.int .u32) (w0 := w) w.heap.size rfl (.tmp 25) (.tmp 30) 34 99 (.int .u32 0) 4 rfl Try.underlying34 info99 rfl (by decide) (by omega) u4 x4_2 (rd l0 x5_2) [.int .u32 (rd l0 x5_2)] (fun _ => True) (fun _ => False) rfl rfl ?aP (fun _ hk => hk.elim) ?aF ?aO ?aB ?aS ?aL ?_; (case aP => exact rfl); (case aB => exact (bl HB)); (case aF => exact (fun _ _ => trivial)); (case aO => exact (ra HO_4.out)); (case aS => exact (below_size (bl HB))); (case aL => have := LMc11.out; omega); intro v223 w12 ho hb hg hat; rw [← Ny222.out] at ho; have n_ := mk2 (hb) (ho); clear HB HO_4; obtain ⟨HB, HO224⟩ := n_; clear ho hb hg hat))
         go_roundg k2
         case measure => have := HJ1.out; have := HK2.out; omega
         case rel => exact ⟨(y222), (wrap64 (x5_2 + 1)), (by first | rfl | (simp; done) | (simp [*]; done)), H', ⟨by have := HJ1.out; have := HK2.out; omega⟩, ⟨ra HO224.out⟩, ⟨bl HB⟩⟩
        ·rw [if_neg c11] at H
         exact absurd H (by simp)
       ·rw [if_neg c10] at H
        exact absurd H (by simp)
      ·rw [if_neg c9] at H
       exact absurd H (by simp)
     ·rw [if_neg c8] at H
      have c8b0 : decide (x5_2 < x3_1) = false := decide_eq_false c8
      clear c8
      obtain rfl := Option.some.inj H
      go_wp2
      go_ret
      exact ⟨_, by first | rfl | simp [*], ra HO_4.out, bl HB⟩
def sibylref01_Shl.l0 : Nat → List Int → Int → List Int → Int → Int → Option (List Int)
 | 0, _, _, _, _, _ => none
 | k + 1, x0, x1, x5, x6, x7 => if x7 < (x0.length : Int) then (if 0 ≤ x7 then (if 0 ≤ (IntKind.u64.wrap (Int.tmod x1 32)) then (if x5.length < 35184372088832 then (sibylref01_Shl.l0 k x0 x1 (x5 ++ [(Int.tmod (IntKind.u64.wrap ((shl .u64 (IntKind.u64.wrap (rd x0 x7)) (IntKind.u64.wrap (Int.tmod x1 32))) + x6)) 4294967296) % 4294967296]) (IntKind.u64.wrap (Int.tdiv (IntKind.u64.wrap ((shl .u64 (IntKind.u64.wrap (rd x0 x7)) (IntKind.u64.wrap (Int.tmod x1 32))) + x6)) 4294967296)) (wrap64 (x7 + 1))) else (none)) else (none)) else (none)) else (if x5.length < 35184372088832 then ((sibylref01_Trim.f k (x5 ++ [(x6) % 4294967296])).bind fun t235 => (some t235)) else (none))
def sibylref01_Shl.f (k : Nat) (l0 : List Int) (a1 : Int) : Option (List Int) := if 0 ≤ (wrap64 (Int.tdiv a1 32)) then (if (wrap64 (Int.tdiv a1 32) : Int).toNat ≤ 70368744177664 then (sibylref01_Shl.l0 k l0 a1 (List.replicate (wrap64 (Int.tdiv a1 32) : Int).toNat 0) 0 0) else (none)) else (none)
set_option maxHeartbeats 8000000 in
set_option maxRecDepth 100000 in
theorem sibylref01_Shl.calls (k : Nat) (A0 : Option Addr) (c0 : Nat) (l0 : List Int) (a1 : Int) (r : List Int) (w : World) (hr0 : Kd.C (Kd.int .u32) w A0 l0.length l0) (hc0 : l0.length ≤ c0) (h : sibylref01_Shl.f k l0 a1 = some r) :
  Calls Try.prog 69 #[.slice A0 l0.length c0, .int .i64 a1] w fun e w' => ∃ v0_ : Value, e = .returned (v0_) ∧ Kd.R (Kd.int .u32) 99 w' w.heap.size (fun _ => True) v0_ r ∧ Below w.heap.size w w' := by
 have HR0 := Aside0.mk hr0
 have HC0 := Aside0.mk hc0
 clear hr0 hc0
 have HB := Aside0.mk (Below.refl w.heap.size w)
 have H : (if 0 ≤ (wrap64 (Int.tdiv a1 32)) then (if (wrap64 (Int.tdiv a1 32) : Int).toNat ≤ 70368744177664 then (sibylref01_Shl.l0 k l0 a1 (List.replicate (wrap64 (Int.tdiv a1 32) : Int).toNat 0) 0 0) else (none)) else (none)) = some r := h
 clear h
 obtain ⟨ji3, hji3⟩ : ∃ j_ : Int, (wrap64 (Int.tdiv a1 32)) = j_ := ⟨_, rfl⟩
 replace H : (if 0 ≤ (ji3) then (if (ji3 : Int).toNat ≤ 70368744177664 then (sibylref01_Shl.l0 k l0 a1 (List.replicate (ji3 : Int).toNat 0) 0 0) else (none)) else (none)) = some r := by first | (rw [hji3] at H; exact H) | (simp only [hji3] at H ⊢; exact H)
 have hji3w : (IntKind.i64.wrap (Int.tdiv a1 32)) = ji3 := (i64_w _).trans hji3
 by_cases c4 : 0 ≤ (ji3)
 ·rw [if_pos c4] at H
  have c4b0 := eq_true c4
  have c4b1 : decide (0 ≤ (ji3)) = true := decide_eq_true c4
  clear c4
  by_cases c5 : (ji3 : Int).toNat ≤ 70368744177664
  ·rw [if_pos c5] at H
   have c5b0 := eq_true c5
   have c5b1 : decide ((ji3 : Int).toNat ≤ 70368744177664) = true := decide_eq_true c5
   clear c5
   obtain ⟨y225, hy225⟩ : ∃ y_ : List Int, y_ = (List.replicate (ji3 : Int).toNat 0) := ⟨_, rfl⟩
   replace H : (sibylref01_Shl.l0 k l0 a1 y225 0 0) = some r := by rw [hy225]; exact H
   have Ny225 := Aside0.mk hy225
   clear hy225
   have H' := Aside0.mk H
   clear H
   go_enter Try.func69, Try.ntmps69
   go_wp2_with (first | ((with_reducible refine gate_dst (N := 11) rfl ?_); refine Kd.R_make (Kd.int .u32) _ 99 rfl (N := 11) rfl 34 _ _ rfl ji3 rfl rfl Try.underlying34 (.int .u32 0) 4 info99 rfl (by decide) (by omega) 0 (ok := fun _ => True) (okp := fun _ => True) rfl (fun _ hk => hk) trivial (of_decide_eq_true (by first | (with_reducible assumption) | assumption)) (Nat.le_trans (Nat.mul_le_mul_right _ (of_decide_eq_true (by first | (with_reducible assumption) | assumption) : ji3.toNat ≤ 70368744177664)) (by omega)) (Below.refl _ _) (Nat.le_refl _) ?_; intro v226 w6 ho7 hb hg_ hnew_; clear hg_ hnew_; (first | rw [← Ny225.out] at ho7 | (simp only [Int.reduceToNat] at ho7; rw [← Ny225.out] at ho7)); have n_ := mk2 (Kd.R_lower ho7 (below_size (bl HB))) (below_step (bl HB) hb); clear HB; obtain ⟨HO227, HB⟩ := n_; clear hb ho7))
   go_loopg [5, 6, 7] k (fun kq v5 v6 v7 w' => ∃ (x5_1 : List Int) (x6_1 : Int) (x7_1 : Int), v6 = .int .u64 x6_1 ∧ v7 = .int .i64 x7_1 ∧ Aside0 (sibylref01_Shl.l0 kq l0 a1 x5_1 x6_1 x7_1 = some r) ∧ Aside0 (kq ≤ k) ∧ Aside0 (Kd.R (Kd.int .u32) 99 w' w.heap.size (fun _ => True) v5 x5_1) ∧ Aside0 (Below w.heap.size w w'))
   case atStart => exact ⟨(y225), (0), (0), (by first | rfl | (simp; done) | (simp [*]; done)), (by first | rfl | (simp; done) | (simp [*]; done)), H', ⟨Nat.le_refl _⟩, ⟨ra HO227.out⟩, ⟨bl HB⟩⟩
   case round =>
    clear H'
    try clear p2
    try clear c4
    try clear c4b0
    try clear c4b1
    try clear c5
    try clear c5b0
    try clear c5b1
    try clear c6
    try clear p6
    obtain ⟨x5_1, x6_1, x7_1, rfl, rfl, HA, HK1, HO_5, HB⟩ := hrel
    cases gk with
    | zero => exact absurd HA.out (by simp [sibylref01_Shl.l0])
    | succ k1 =>
     have H := HA.out
     clear HA
     simp only [sibylref01_Shl.l0] at H
     by_cases c8 : x7_1 < (l0.length : Int)
     ·rw [if_pos c8] at H
      have c8b0 : decide (x7_1 < (l0.length : Int)) = true := decide_eq_true c8
      clear c8
      by_cases c9 : 0 ≤ x7_1
      ·rw [if_pos c9] at H
       have c9b0 : decide (0 ≤ x7_1) = true := decide_eq_true c9
       clear c9
       obtain ⟨ji10, hji10⟩ : ∃ j_ : Int, (IntKind.u64.wrap (Int.tmod a1 32)) = j_ := ⟨_, rfl⟩
       replace H : (if 0 ≤ (ji10) then (if x5_1.length < 35184372088832 then (sibylref01_Shl.l0 k1 l0 a1 (x5_1 ++ [(Int.tmod (IntKind.u64.wrap ((shl .u64 (IntKind.u64.wrap (rd l0 x7_1)) (ji10)) + x6_1)) 4294967296) % 4294967296]) (IntKind.u64.wrap (Int.tdiv (IntKind.u64.wrap ((shl .u64 (IntKind.u64.wrap (rd l0 x7_1)) (ji10)) + x6_1)) 4294967296)) (wrap64 (x7_1 + 1))) else (none)) else (none)) = some r := by first | (rw [hji10] at H; exact H) | (simp only [hji10] at H ⊢; exact H)
       by_cases c11 : 0 ≤ (ji10)
       ·rw [if_pos c11] at H
        have c11b0 := eq_true c11
        have c11b1 : decide (0 ≤ (ji10)) = true := decide_eq_true c11
        clear c11
        obtain ⟨ji12, hji12⟩ : ∃ j_ : Int, (shl .u64 (IntKind.u64.wrap (rd l0 x7_1)) (ji10)) = j_ := ⟨_, rfl⟩
        replace H : (if x5_1.length < 35184372088832 then (sibylref01_Shl.l0 k1 l0 a1 (x5_1 ++ [(Int.tmod (IntKind.u64.wrap ((ji12) + x6_1)) 4294967296) % 4294967296]) (IntKind.u64.wrap (Int.tdiv (IntKind.u64.wrap ((ji12) + x6_1)) 4294967296)) (wrap64 (x7_1 + 1))) else (none)) = some r := by first | (rw [hji12] at H; exact H) | (simp only [hji12] at H ⊢; exact H)
        have hji12_ : (IntKind.u64.wrap ((IntKind.u64.wrap (rd l0 x7_1)) * 2 ^ min (ji10).toNat 64)) = ji12 := hji12
        have hji12z : (ji10) ≤ 64 → (IntKind.u64.wrap ((IntKind.u64.wrap (rd l0 x7_1)) * 2 ^ (ji10).toNat)) = ji12 := shl_small hji12
        by_cases c13 : x5_1.length < 35184372088832
        ·rw [if_pos c13] at H
         have LMc13 := Aside0.mk c13
         clear c13
         obtain ⟨y229, hy229⟩ : ∃ y_ : List Int, y_ = (x5_1 ++ [(Int.tmod (IntKind.u64.wrap ((ji12) + x6_1)) 4294967296) % 4294967296]) := ⟨_, rfl⟩
         replace H : (sibylref01_Shl.l0 k1 l0 a1 y229 (IntKind.u64.wrap (Int.tdiv (IntKind.u64.wrap ((ji12) + x6_1)) 4294967296)) (wrap64 (x7_1 + 1))) = some r := by rw [hy229]; exact H
         have Ny229 := Aside0.mk hy229
         clear hy229
         have H' := Aside0.mk H
         clear H
         have p228 : 0 ≤ (x7_1 : Int) := of_decide_eq_true (by first | (with_reducible assumption) | assumption)
         have q228 : x7_1 < (l0.length : Int) := of_decide_eq_true (by first | (with_reducible assumption) | assumption)
         obtain ⟨ad228, e228, hx228_0⟩ := Kd.at_int HR0.out x7_1 p228 q228
         cases e228
         replace hx228_0 := (HB.out.cell (World.block_lt_of_cell? w _ hx228_0)).trans hx228_0
         replace p228 := eq_true p228
         replace q228 := eq_true q228
         go_wp2_with (first | ((with_reducible refine gate_builtin (b := .append) (xs := #[.tmp 29, .tmp 33]) rfl ?_); at_builtin; refine Kd.R_append (Kd.int .u32) (w0 := w) w.heap.size rfl (.tmp 29) (.tmp 33) 34 99 (.int .u32 0) 4 rfl Try.underlying34 info99 rfl (by decide) (by omega) u5 x5_1 ((Int.tmod (IntKind.u64.wrap ((ji12) + x6_1)) 4294967296) % 4294967296) [.int .u32 ((Int.tmod (IntKind.u64.wrap ((ji12) + x6_1)) 4294967296) % 4294967296)] (fun _ => True) (fun _ => False) rfl rfl ?aP (fun _ hk => hk.elim) ?aF ?aO ?aB ?aS ?aL ?_; (case aP => exact rfl); (case aB => exact (bl HB)); (case aF => exact (fun _ _ => trivial)); (case aO => exact (ra HO_5.out)); (case aS => exact (below_size (bl HB))); (case aL => have := LMc13.out; omega); intro v230 w14 ho hb hg hat; rw [← Ny229.out] at ho; have n_ := mk2 (hb) (ho); clear HB HO_5; obtain ⟨HB, HO231⟩ := n_; clear ho hb hg hat))
         go_roundg k1
         case measure => have := HK1.out; omega
         case rel => exact ⟨(y229), (IntKind.u64.wrap (Int.tdiv (IntKind.u64.wrap ((ji12) + x6_1)) 4294967296)), (wrap64 (x7_1 + 1)), (by first | rfl | (simp; done) | (simp only [← hji12] <;> (first | rfl | simp)) | (simp [*]; done)), (by first | rfl | (simp; done) | (simp [*]; done)), H', ⟨by have := HK1.out; omega⟩, ⟨ra HO231.out⟩, ⟨bl HB⟩⟩
        ·rw [if_neg c13] at H
         exact absurd H (by simp)
       ·rw [if_neg c11] at H
        exact absurd H (by simp)
      ·rw [if_neg c9] at H
       exact absurd H (by simp)
     ·rw [if_neg c8] at H
      have c8b0 : decide (x7_1 < (l0.length : Int)) = false := decide_eq_false c8
      clear c8
      by_cases c15 : x5_1.length < 35184372088832
      ·rw [if_pos c15] at H
       have LMc15 := Aside0.mk c15
       clear c15
       obtain ⟨y232, hy232⟩ : ∃ y_ : List Int, y_ = (x5_1 ++ [(x6_1) % 4294967296]) := ⟨_, rfl⟩
       replace H : ((sibylref01_Trim.f k1 y232).bind fun t235 => (some t235)) = some r := by rw [hy232]; exact H
       have Ny232 := Aside0.mk hy232
       clear hy232
       obtain ⟨t235, A16, H⟩ := bindA H
       obtain rfl := Option.some.inj H
       go_wp2_with (first | ((with_reducible refine gate_builtin (b := .append) (xs := #[.tmp 37, .tmp 40]) rfl ?_); at_builtin; refine Kd.R_append (Kd.int .u32) (w0 := w) w.heap.size rfl (.tmp 37) (.tmp 40) 34 99 (.int .u32 0) 4 rfl Try.underlying34 info99 rfl (by decide) (by omega) u5 x5_1 ((x6_1) % 4294967296) [.int .u32 ((x6_1) % 4294967296)] (fun _ => True) (fun _ => False) rfl rfl ?aP (fun _ hk => hk.elim) ?aF ?aO ?aB ?aS ?aL ?_; (case aP => exact rfl); (case aB => exact (bl HB)); (case aF => exact (fun _ _ => trivial)); (case aO => exact (ra HO_5.out)); (case aS => exact (below_size (bl HB))); (case aL => have := LMc15.out; omega); intro v233 w17 ho hb hg hat; rw [← Ny232.out] at ho; have n_ := mk2 (hb) (ho); clear HB HO_5; obtain ⟨HB, HO234⟩ := n_; clear ho hb hg hat; obtain ⟨Ao18, co18, eo18⟩ := Kd.R_slice HO234.out; subst eo18) | ((with_reducible refine gate_callee (f := 83) rfl ?_); refine goesM (some 43) rfl rfl Try.func83 (by kernel_rfl) rfl #[.slice Ao18 y232.length co18] rfl (by rfl) ?_; (with_reducible refine (sibylref01_Trim.calls k1 _ _ y232 t235 _ ?side1 ?side2 A16.out).mono ?_); (case side1 => exact ca ((Kd.R_reads' HO234.out).2.2)); (case side2 => exact (Kd.R_reads' HO234.out).2.1); rintro e w19 ⟨v236, rfl, ho0, hb⟩; refine ⟨_, rfl, ?_⟩; have n_ := mk3 (Kd.R_elder' (ra HO234.out) (Kd.R_base ho0) hb) (Kd.R_lower (Kd.R_new' ho0 (Kd.R_lt (ra HO234.out))) (below_size (bl HB))) (below_step (bl HB) hb); clear HO234 HB; obtain ⟨HO234, HO237, HB⟩ := n_; (try clear hb); (try clear hb2); (try clear hk); (try clear hi); (try clear ho0)))
       go_ret
       exact ⟨_, by first | rfl | (simp [errW_none, errW_some] <;> rfl) | (simp only [← hji3]; first | rfl | (simp [errW_none, errW_some] <;> rfl)) | (simp [*, errW_none, errW_some] <;> rfl), ra (Kd.R_mono HO237.out (fun _ hk => trivial)), bl HB⟩
      ·rw [if_neg c15] at H
       exact absurd H (by simp)
  ·rw [if_neg c5] at H
   exact absurd H (by simp)
 ·rw [if_neg c4] at H
  exact absurd H (by simp)
def sibylref01_Cmp.l0 : Nat → List Int → List Int → Int → Option (Int)
 | 0, _, _, _ => none
 | k + 1, x5, x6, x7 => if x7 ≥ 0 then (if 0 ≤ x7 then (if x7 < (x5.length : Int) then (if x7 < (x6.length : Int) then (if (rd x5 x7) < (rd x6 x7) then (some (-1)) else (if (rd x5 x7) > (rd x6 x7) then (some 1) else (sibylref01_Cmp.l0 k x5 x6 (wrap64 (x7 - 1))))) else (none)) else (none)) else (none)) else (some 0)
def sibylref01_Cmp.f (k : Nat) (l0 : List Int) (l1 : List Int) : Option (Int) := (sibylref01_Trim.f k l0).bind fun t238 => ((sibylref01_Trim.f k l1).bind fun t241 => (if (t238.length : Int) < (t241.length : Int) then (some (-1)) else (if (t238.length : Int) > (t241.length : Int) then (some 1) else (sibylref01_Cmp.l0 k t238 t241 (wrap64 ((t238.length : Int) - 1))))))
set_option maxHeartbeats 8000000 in
set_option maxRecDepth 100000 in
theorem sibylref01_Cmp.calls (k : Nat) (A0 : Option Addr) (c0 : Nat) (l0 : List Int) (A1 : Option Addr) (c1 : Nat) (l1 : List Int) (r : Int) (w : World) (hr0 : Kd.C (Kd.int .u32) w A0 l0.length l0) (hc0 : l0.length ≤ c0) (hr1 : Kd.C (Kd.int .u32) w A1 l1.length l1) (hc1 : l1.length ≤ c1) (h : sibylref01_Cmp.f k l0 l1 = some r) :
  Calls Try.prog 70 #[.slice A0 l0.length c0, .slice A1 l1.length c1] w fun e w' => e = .returned (.int .i64 r) ∧ Below w.heap.size w w' := by
 have HR0 := Aside0.mk hr0
 have HC0 := Aside0.mk hc0
 clear hr0 hc0
 have HR1 := Aside0.mk hr1
 have HC1 := Aside0.mk hc1
 clear hr1 hc1
 have HB := Aside0.mk (Below.refl w.heap.size w)
 have H : ((sibylref01_Trim.f k l0).bind fun t238 => ((sibylref01_Trim.f k l1).bind fun t241 => (if (t238.length : Int) < (t241.length : Int) then (some (-1)) else (if (t238.length : Int) > (t241.length : Int) then (some 1) else (sibylref01_Cmp.l0 k t238 t241 (wrap64 ((t238.length : Int) - 1))))))) = some r := h
 clear h
 obtain ⟨t238, A3, H⟩ := bindA H
 obtain ⟨t241, A4, H⟩ := bindA H
 by_cases c5 : (t238.length : Int) < (t241.length : Int)
 ·rw [if_pos c5] at H
  have c5b0 : decide ((t238.length : Int) < (t241.length : Int)) = true := decide_eq_true c5
  have c5b1 : decide (t238.length < t241.length) = true := decide_eq_true (Int.ofNat_lt.mp c5)
  clear c5
  obtain rfl := Option.some.inj H
  go_enter Try.func70, Try.ntmps70
  go_wp2_with (first | (go_at_call 83; (with_reducible refine (sibylref01_Trim.calls k _ _ l0 t238 _ ?side1 ?side2 A3.out).mono ?_); (case side1 => exact ca HR0.out); (case side2 => exact HC0.out); rintro e w6 ⟨v239, rfl, ho0, hb⟩; have n_ := mk2 (Kd.R_lower ho0 (below_size (bl HB))) (below_step (bl HB) hb); clear HB; obtain ⟨HO240, HB⟩ := n_; (try clear hb); (try clear hb2); (try clear hk); (try clear hi); (try clear ho0)) | (go_at_call 83; (with_reducible refine (sibylref01_Trim.calls k _ _ l1 t241 _ ?side1 ?side2 A4.out).mono ?_); (case side1 => exact ca (Kd.C_below HR1.out HB.out)); (case side2 => exact HC1.out); rintro e w7 ⟨v242, rfl, ho0, hb⟩; have n_ := mk3 (Kd.R_elder' (ra HO240.out) (Kd.R_base ho0) hb) (Kd.R_lower (Kd.R_new' ho0 (Kd.R_lt (ra HO240.out))) (below_size (bl HB))) (below_step (bl HB) hb); clear HO240 HB; obtain ⟨HO240, HO243, HB⟩ := n_; (try clear hb); (try clear hb2); (try clear hk); (try clear hi); (try clear ho0); obtain ⟨Ao8, co8, eo8⟩ := Kd.R_slice HO240.out; subst eo8; obtain ⟨Ao9, co9, eo9⟩ := Kd.R_slice HO243.out; subst eo9))
  repeat (go_quiet (first | (go_at_call 83; (with_reducible refine (sibylref01_Trim.calls k _ _ l0 t238 _ ?side1 ?side2 A3.out).mono ?_); (case side1 => exact ca HR0.out); (case side2 => exact HC0.out); rintro e w6 ⟨v239, rfl, ho0, hb⟩; have n_ := mk2 (Kd.R_lower ho0 (below_size (bl HB))) (below_step (bl HB) hb); clear HB; obtain ⟨HO240, HB⟩ := n_; (try clear hb); (try clear hb2); (try clear hk); (try clear hi); (try clear ho0)) | (go_at_call 83; (with_reducible refine (sibylref01_Trim.calls k _ _ l1 t241 _ ?side1 ?side2 A4.out).mono ?_); (case side1 => exact ca (Kd.C_below HR1.out HB.out)); (case side2 => exact HC1.out); rintro e w7 ⟨v242, rfl, ho0, hb⟩; have n_ := mk3 (Kd.R_elder' (ra HO240.out) (Kd.R_base ho0) hb) (Kd.R_lower (Kd.R_new' ho0 (Kd.R_lt (ra HO240.out))) (below_size (bl HB))) (below_step (bl HB) hb); clear HO240 HB; obtain ⟨HO240, HO243, HB⟩ := n_; (try clear hb); (try clear hb2); (try clear hk); (try clear hi); (try clear ho0); obtain ⟨Ao8, co8, eo8⟩ := Kd.R_slice HO240.out; subst eo8; obtain ⟨Ao9, co9, eo9⟩ := Kd.R_slice HO243.out; subst eo9)); try go_wp2_with (first | (go_at_call 83; (with_reducible refine (sibylref01_Trim.calls k _ _ l0 t238 _ ?side1 ?side2 A3.out).mono ?_); (case side1 => exact ca HR0.out); (case side2 => exact HC0.out); rintro e w6 ⟨v239, rfl, ho0, hb⟩; have n_ := mk2 (Kd.R_lower ho0 (below_size (bl HB))) (below_step (bl HB) hb); clear HB; obtain ⟨HO240, HB⟩ := n_; (try clear hb); (try clear hb2); (try clear hk); (try clear hi); (try clear ho0)) | (go_at_call 83; (with_reducible refine (sibylref01_Trim.calls k _ _ l1 t241 _ ?side1 ?side2 A4.out).mono ?_); (case side1 => exact ca (Kd.C_below HR1.out HB.out)); (case side2 => exact HC1.out); rintro e w7 ⟨v242, rfl, ho0, hb⟩; have n_ := mk3 (Kd.R_elder' (ra HO240.out) (Kd.R_base ho0) hb) (Kd.R_lower (Kd.R_new' ho0 (Kd.R_lt (ra HO240.out))) (below_size (bl HB))) (below_step (bl HB) hb); clear HO240 HB; obtain ⟨HO240, HO243, HB⟩ := n_; (try clear hb); (try clear hb2); (try clear hk); (try clear hi); (try clear ho0); obtain ⟨Ao8, co8, eo8⟩ := Kd.R_slice HO240.out; subst eo8; obtain ⟨Ao9, co9, eo9⟩ := Kd.R_slice HO243.out; subst eo9)))
  go_ret
  exact ⟨by first | rfl | simp [*], bl HB⟩
 ·rw [if_neg c5] at H
  have c5b0 : decide ((t238.length : Int) < (t241.length : Int)) = false := decide_eq_false c5
  have c5b1 : decide (t238.length < t241.length) = false := decide_eq_false (fun h => c5 (Int.ofNat_lt.mpr h))
  clear c5
  by_cases c10 : (t238.length : Int) > (t241.length : Int)
  ·rw [if_pos c10] at H
   have c10b0 : decide ((t241.length : Int) < (t238.length : Int)) = true := decide_eq_true c10
   have c10b1 : decide (t241.length < t238.length) = true := decide_eq_true (Int.ofNat_lt.mp c10)
   clear c10
   obtain rfl := Option.some.inj H
   go_enter Try.func70, Try.ntmps70
   go_wp2_with (first | (go_at_call 83; (with_reducible refine (sibylref01_Trim.calls k _ _ l0 t238 _ ?side1 ?side2 A3.out).mono ?_); (case side1 => exact ca HR0.out); (case side2 => exact HC0.out); rintro e w11 ⟨v239, rfl, ho0, hb⟩; have n_ := mk2 (Kd.R_lower ho0 (below_size (bl HB))) (below_step (bl HB) hb); clear HB; obtain ⟨HO240, HB⟩ := n_; (try clear hb); (try clear hb2); (try clear hk); (try clear hi); (try clear ho0)) | (go_at_call 83; (with_reducible refine (sibylref01_Trim.calls k _ _ l1 t241 _ ?side1 ?side2 A4.out).mono ?_); (case side1 => exact ca (Kd.C_below HR1.out HB.out)); (case side2 => exact HC1.out); rintro e w12 ⟨v242, rfl, ho0, hb⟩; have n_ := mk3 (Kd.R_elder' (ra HO240.out) (Kd.R_base ho0) hb) (Kd.R_lower (Kd.R_new' ho0 (Kd.R_lt (ra HO240.out))) (below_size (bl HB))) (below_step (bl HB) hb); clear HO240 HB; obtain ⟨HO240, HO243, HB⟩ := n_; (try clear hb); (try clear hb2); (try clear hk); (try clear hi); (try clear ho0); obtain ⟨Ao13, co13, eo13⟩ := Kd.R_slice HO240.out; subst eo13; obtain ⟨Ao14, co14, eo14⟩ := Kd.R_slice HO243.out; subst eo14))
   repeat (go_quiet (first | (go_at_call 83; (with_reducible refine (sibylref01_Trim.calls k _ _ l0 t238 _ ?side1 ?side2 A3.out).mono ?_); (case side1 => exact ca HR0.out); (case side2 => exact HC0.out); rintro e w11 ⟨v239, rfl, ho0, hb⟩; have n_ := mk2 (Kd.R_lower ho0 (below_size (bl HB))) (below_step (bl HB) hb); clear HB; obtain ⟨HO240, HB⟩ := n_; (try clear hb); (try clear hb2); (try clear hk); (try clear hi); (try clear ho0)) | (go_at_call 83; (with_reducible refine (sibylref01_Trim.calls k _ _ l1 t241 _ ?side1 ?side2 A4.out).mono ?_); (case side1 => exact ca (Kd.C_below HR1.out HB.out)); (case side2 => exact HC1.out); rintro e w12 ⟨v242, rfl, ho0, hb⟩; have n_ := mk3 (Kd.R_elder' (ra HO240.out) (Kd.R_base ho0) hb) (Kd.R_lower (Kd.R_new' ho0 (Kd.R_lt (ra HO240.out))) (below_size (bl HB))) (below_step (bl HB) hb); clear HO240 HB; obtain ⟨HO240, HO243, HB⟩ := n_; (try clear hb); (try clear hb2); (try clear hk); (try clear hi); (try clear ho0); obtain ⟨Ao13, co13, eo13⟩ := Kd.R_slice HO240.out; subst eo13; obtain ⟨Ao14, co14, eo14⟩ := Kd.R_slice HO243.out; subst eo14)); try go_wp2_with (first | (go_at_call 83; (with_reducible refine (sibylref01_Trim.calls k _ _ l0 t238 _ ?side1 ?side2 A3.out).mono ?_); (case side1 => exact ca HR0.out); (case side2 => exact HC0.out); rintro e w11 ⟨v239, rfl, ho0, hb⟩; have n_ := mk2 (Kd.R_lower ho0 (below_size (bl HB))) (below_step (bl HB) hb); clear HB; obtain ⟨HO240, HB⟩ := n_; (try clear hb); (try clear hb2); (try clear hk); (try clear hi); (try clear ho0)) | (go_at_call 83; (with_reducible refine (sibylref01_Trim.calls k _ _ l1 t241 _ ?side1 ?side2 A4.out).mono ?_); (case side1 => exact ca (Kd.C_below HR1.out HB.out)); (case side2 => exact HC1.out); rintro e w12 ⟨v242, rfl, ho0, hb⟩; have n_ := mk3 (Kd.R_elder' (ra HO240.out) (Kd.R_base ho0) hb) (Kd.R_lower (Kd.R_new' ho0 (Kd.R_lt (ra HO240.out))) (below_size (bl HB))) (below_step (bl HB) hb); clear HO240 HB; obtain ⟨HO240, HO243, HB⟩ := n_; (try clear hb); (try clear hb2); (try clear hk); (try clear hi); (try clear ho0); obtain ⟨Ao13, co13, eo13⟩ := Kd.R_slice HO240.out; subst eo13; obtain ⟨Ao14, co14, eo14⟩ := Kd.R_slice HO243.out; subst eo14)))
   go_ret
   exact ⟨by first | rfl | simp [*], bl HB⟩
  ·rw [if_neg c10] at H
   have c10b0 : decide ((t241.length : Int) < (t238.length : Int)) = false := decide_eq_false c10
   have c10b1 : decide (t241.length < t238.length) = false := decide_eq_false (fun h => c10 (Int.ofNat_lt.mpr h))
   clear c10
   have H' := Aside0.mk H
   clear H
   go_enter Try.func70, Try.ntmps70
   go_wp2_with (first | (go_at_call 83; (with_reducible refine (sibylref01_Trim.calls k _ _ l0 t238 _ ?side1 ?side2 A3.out).mono ?_); (case side1 => exact ca HR0.out); (case side2 => exact HC0.out); rintro e w15 ⟨v239, rfl, ho0, hb⟩; have n_ := mk2 (Kd.R_lower ho0 (below_size (bl HB))) (below_step (bl HB) hb); clear HB; obtain ⟨HO240, HB⟩ := n_; (try clear hb); (try clear hb2); (try clear hk); (try clear hi); (try clear ho0)) | (go_at_call 83; (with_reducible refine (sibylref01_Trim.calls k _ _ l1 t241 _ ?side1 ?side2 A4.out).mono ?_); (case side1 => exact ca (Kd.C_below HR1.out HB.out)); (case side2 => exact HC1.out); rintro e w16 ⟨v242, rfl, ho0, hb⟩; have n_ := mk3 (Kd.R_elder' (ra HO240.out) (Kd.R_base ho0) hb) (Kd.R_lower (Kd.R_new' ho0 (Kd.R_lt (ra HO240.out))) (below_size (bl HB))) (below_step (bl HB) hb); clear HO240 HB; obtain ⟨HO240, HO243, HB⟩ := n_; (try clear hb); (try clear hb2); (try clear hk); (try clear hi); (try clear ho0); obtain ⟨Ao17, co17, eo17⟩ := Kd.R_slice HO240.out; subst eo17; obtain ⟨Ao18, co18, eo18⟩ := Kd.R_slice HO243.out; subst eo18))
   repeat (go_quiet (first | (go_at_call 83; (with_reducible refine (sibylref01_Trim.calls k _ _ l0 t238 _ ?side1 ?side2 A3.out).mono ?_); (case side1 => exact ca HR0.out); (case side2 => exact HC0.out); rintro e w15 ⟨v239, rfl, ho0, hb⟩; have n_ := mk2 (Kd.R_lower ho0 (below_size (bl HB))) (below_step (bl HB) hb); clear HB; obtain ⟨HO240, HB⟩ := n_; (try clear hb); (try clear hb2); (try clear hk); (try clear hi); (try clear ho0)) | (go_at_call 83; (with_reducible refine (sibylref01_Trim.calls k _ _ l1 t241 _ ?side1 ?side2 A4.out).mono ?_); (case side1 => exact ca (Kd.C_below HR1.out HB.out)); (case side2 => exact HC1.out); rintro e w16 ⟨v242, rfl, ho0, hb⟩; have n_ := mk3 (Kd.R_elder' (ra HO240.out) (Kd.R_base ho0) hb) (Kd.R_lower (Kd.R_new' ho0 (Kd.R_lt (ra HO240.out))) (below_size (bl HB))) (below_step (bl HB) hb); clear HO240 HB; obtain ⟨HO240, HO243, HB⟩ := n_; (try clear hb); (try clear hb2); (try clear hk); (try clear hi); (try clear ho0); obtain ⟨Ao17, co17, eo17⟩ := Kd.R_slice HO240.out; subst eo17; obtain ⟨Ao18, co18, eo18⟩ := Kd.R_slice HO243.out; subst eo18)); try go_wp2_with (first | (go_at_call 83; (with_reducible refine (sibylref01_Trim.calls k _ _ l0 t238 _ ?side1 ?side2 A3.out).mono ?_); (case side1 => exact ca HR0.out); (case side2 => exact HC0.out); rintro e w15 ⟨v239, rfl, ho0, hb⟩; have n_ := mk2 (Kd.R_lower ho0 (below_size (bl HB))) (below_step (bl HB) hb); clear HB; obtain ⟨HO240, HB⟩ := n_; (try clear hb); (try clear hb2); (try clear hk); (try clear hi); (try clear ho0)) | (go_at_call 83; (with_reducible refine (sibylref01_Trim.calls k _ _ l1 t241 _ ?side1 ?side2 A4.out).mono ?_); (case side1 => exact ca (Kd.C_below HR1.out HB.out)); (case side2 => exact HC1.out); rintro e w16 ⟨v242, rfl, ho0, hb⟩; have n_ := mk3 (Kd.R_elder' (ra HO240.out) (Kd.R_base ho0) hb) (Kd.R_lower (Kd.R_new' ho0 (Kd.R_lt (ra HO240.out))) (below_size (bl HB))) (below_step (bl HB) hb); clear HO240 HB; obtain ⟨HO240, HO243, HB⟩ := n_; (try clear hb); (try clear hb2); (try clear hk); (try clear hi); (try clear ho0); obtain ⟨Ao17, co17, eo17⟩ := Kd.R_slice HO240.out; subst eo17; obtain ⟨Ao18, co18, eo18⟩ := Kd.R_slice HO243.out; subst eo18)))
   go_loopg [7] k (fun kq v7 w' => ∃ (x7_1 : Int), v7 = .int .i64 x7_1 ∧ Aside0 (sibylref01_Cmp.l0 kq t238 t241 x7_1 = some r) ∧ Aside0 (kq ≤ k) ∧ Aside0 (Kd.R (Kd.int .u32) 99 w' w.heap.size (fun k_ => some k_ ≠ ((.slice Ao18 t241.length co18) : Value).ownBlock) (.slice Ao17 t238.length co17) t238) ∧ Aside0 (Kd.R (Kd.int .u32) 99 w' w.heap.size (fun k_ => some k_ ≠ ((.slice Ao17 t238.length co17) : Value).ownBlock) (.slice Ao18 t241.length co18) t241) ∧ Aside0 (Below w.heap.size w w'))
   case atStart => exact ⟨(wrap64 ((t238.length : Int) - 1)), (by first | rfl | (simp; done) | (simp [*]; done)), H', ⟨Nat.le_refl _⟩, ⟨ra (Kd.R_mono HO240.out (fun _ hk => hk.2))⟩, ⟨ra (Kd.R_mono HO243.out (fun _ hk => hk.2))⟩, ⟨bl HB⟩⟩
   case round =>
    clear H'
    try clear c1
    try clear p2
    try clear c5
    try clear c5b0
    try clear c5b1
    try clear p6
    try clear c7
    try clear c10
    try clear c10b0
    try clear c10b1
    obtain ⟨x7_1, rfl, HA, HK1, HO_5, HO_6, HB⟩ := hrel
    cases gk with
    | zero => exact absurd HA.out (by simp [sibylref01_Cmp.l0])
    | succ k1 =>
     have H := HA.out
     clear HA
     simp only [sibylref01_Cmp.l0] at H
     by_cases c19 : x7_1 ≥ 0
     ·rw [if_pos c19] at H
      have c19b0 : decide (0 ≤ x7_1) = true := decide_eq_true c19
      clear c19
      by_cases c20 : 0 ≤ x7_1
      ·rw [if_pos c20] at H
       have c20b0 : decide (0 ≤ x7_1) = true := decide_eq_true c20
       clear c20
       by_cases c21 : x7_1 < (t238.length : Int)
       ·rw [if_pos c21] at H
        have c21b0 : decide (x7_1 < (t238.length : Int)) = true := decide_eq_true c21
        clear c21
        by_cases c22 : x7_1 < (t241.length : Int)
        ·rw [if_pos c22] at H
         have c22b0 : decide (x7_1 < (t241.length : Int)) = true := decide_eq_true c22
         clear c22
         by_cases c23 : (rd t238 x7_1) < (rd t241 x7_1)
         ·rw [if_pos c23] at H
          have c23b0 : decide ((rd t238 x7_1) < (rd t241 x7_1)) = true := decide_eq_true c23
          clear c23
          obtain rfl := Option.some.inj H
          have p244 : 0 ≤ (x7_1 : Int) := of_decide_eq_true (by first | (with_reducible assumption) | assumption)
          have q244 : x7_1 < (t238.length : Int) := of_decide_eq_true (by first | (with_reducible assumption) | assumption)
          obtain ⟨ad244, e244, hx244_0⟩ := Kd.at_int (Kd.R_reads' HO_5.out).2.2 x7_1 p244 q244
          cases e244
          replace p244 := eq_true p244
          replace q244 := eq_true q244
          have p245 : 0 ≤ (x7_1 : Int) := of_decide_eq_true (by first | (with_reducible assumption) | assumption)
          have q245 : x7_1 < (t241.length : Int) := of_decide_eq_true (by first | (with_reducible assumption) | assumption)
          obtain ⟨ad245, e245, hx245_0⟩ := Kd.at_int (Kd.R_reads' HO_6.out).2.2 x7_1 p245 q245
          cases e245
          replace p245 := eq_true p245
          replace q245 := eq_true q245
          go_wp2
          repeat (go_quiet (fail); try go_wp2)
          go_ret
          exact ⟨by first | rfl | simp [*], bl HB⟩
         ·rw [if_neg c23] at H
          have c23b0 : decide ((rd t238 x7_1) < (rd t241 x7_1)) = false := decide_eq_false c23
          clear c23
          by_cases c24 : (rd t238 x7_1) > (rd t241 x7_1)
          ·rw [if_pos c24] at H
           have c24b0 : decide ((rd t241 x7_1) < (rd t238 x7_1)) = true := decide_eq_true c24
           clear c24
           obtain rfl := Option.some.inj H
           have p244 : 0 ≤ (x7_1 : Int) := of_decide_eq_true (by first | (with_reducible assumption) | assumption)
           have q244 : x7_1 < (t238.length : Int) := of_decide_eq_true (by first | (with_reducible assumption) | assumption)
           obtain ⟨ad244, e244, hx244_0⟩ := Kd.at_int (Kd.R_reads' HO_5.out).2.2 x7_1 p244 q244
           cases e244
           replace p244 := eq_true p244
           replace q244 := eq_true q244
           have p245 : 0 ≤ (x7_1 : Int) := of_decide_eq_true (by first | (with_reducible assumption) | assumption)
           have q245 : x7_1 < (t241.length : Int) := of_decide_eq_true (by first | (with_reducible assumption) | assumption)
           obtain ⟨ad245, e245, hx245_0⟩ := Kd.at_int (Kd.R_reads' HO_6.out).2.2 x7_1 p245 q245
           cases e245
           replace p245 := eq_true p245
           replace q245 := eq_true q245
           have p246 : 0 ≤ (x7_1 : Int) := of_decide_eq_true (by first | (with_reducible assumption) | assumption)
           have q246 : x7_1 < (t238.length : Int) := of_decide_eq_true (by first | (with_reducible assumption) | assumption)
           obtain ⟨ad246, e246, hx246_0⟩ := Kd.at_int (Kd.R_reads' HO_5.out).2.2 x7_1 p246 q246
           obtain rfl : ad244 = ad246 := (by injection e246)
           replace p246 := eq_true p246
           replace q246 := eq_true q246
           have p247 : 0 ≤ (x7_1 : Int) := of_decide_eq_true (by first | (with_reducible assumption) | assumption)
           have q247 : x7_1 < (t241.length : Int) := of_decide_eq_true (by first | (with_reducible assumption) | assumption)
           obtain ⟨ad247, e247, hx247_0⟩ := Kd.at_int (Kd.R_reads' HO_6.out).2.2 x7_1 p247 q247
           obtain rfl : ad245 = ad247 := (by injection e247)
           replace p247 := eq_true p247
           replace q247 := eq_true q247
           go_wp2
           repeat (go_quiet (fail); try go_wp2)
           go_ret
           exact ⟨by first | rfl | simp [*], bl HB⟩
          ·rw [if_neg c24] at H
           have c24b0 : decide ((rd t241 x7_1) < (rd t238 x7_1)) = false := decide_eq_false c24
           clear c24
           have H' := Aside0.mk H
           clear H
           have p244 : 0 ≤ (x7_1 : Int) := of_decide_eq_true (by first | (with_reducible assumption) | assumption)
           have q244 : x7_1 < (t238.length : Int) := of_decide_eq_true (by first | (with_reducible assumption) | assumption)
           obtain ⟨ad244, e244, hx244_0⟩ := Kd.at_int (Kd.R_reads' HO_5.out).2.2 x7_1 p244 q244
           cases e244
           replace p244 := eq_true p244
           replace q244 := eq_true q244
           have p245 : 0 ≤ (x7_1 : Int) := of_decide_eq_true (by first | (with_reducible assumption) | assumption)
           have q245 : x7_1 < (t241.length : Int) := of_decide_eq_true (by first | (with_reducible assumption) | assumption)
           obtain ⟨ad245, e245, hx245_0⟩ := Kd.at_int (Kd.R_reads' HO_6.out).2.2 x7_1 p245 q245
           cases e245
           replace p245 := eq_true p245
           replace q245 := eq_true q245
           have p246 : 0 ≤ (x7_1 : Int) := of_decide_eq_true (by first | (with_reducible assumption) | assumption)
           have q246 : x7_1 < (t238.length : Int) := of_decide_eq_true (by first | (with_reducible assumption) | assumption)
           obtain ⟨ad246, e246, hx246_0⟩ := Kd.at_int (Kd.R_reads' HO_5.out).2.2 x7_1 p246 q246
           obtain rfl : ad244 = ad246 := (by injection e246)
           replace p246 := eq_true p246
           replace q246 := eq_true q246
           have p247 : 0 ≤ (x7_1 : Int) := of_decide_eq_true (by first | (with_reducible assumption) | assumption)
           have q247 : x7_1 < (t241.length : Int) := of_decide_eq_true (by first | (with_reducible assumption) | assumption)
           obtain ⟨ad247, e247, hx247_0⟩ := Kd.at_int (Kd.R_reads' HO_6.out).2.2 x7_1 p247 q247
           obtain rfl : ad245 = ad247 := (by injection e247)
           replace p247 := eq_true p247
           replace q247 := eq_true q247
           go_wp2
           repeat (go_quiet (fail); try go_wp2)
           go_roundg k1
           case measure => have := HK1.out; omega
           case rel => exact ⟨(wrap64 (x7_1 - 1)), (by first | rfl | (simp; done) | (simp [*]; done)), H', ⟨by have := HK1.out; omega⟩, ⟨ra HO_5.out⟩, ⟨ra HO_6.out⟩, ⟨bl HB⟩⟩
        ·rw [if_neg c22] at H
         exact absurd H (by simp)
       ·rw [if_neg c21] at H
        exact absurd H (by simp)
      ·rw [if_neg c20] at H
       exact absurd H (by simp)
     ·rw [if_neg c19] at H
      have c19b0 : decide (0 ≤ x7_1) = false := decide_eq_false c19
      clear c19
      obtain rfl := Option.some.inj H
      go_wp2
      repeat (go_quiet (fail); try go_wp2)
      go_ret
      exact ⟨by first | rfl | simp [*], bl HB⟩
def sibylref01_Minus.l0 : Nat → List Int → List Int → Int → Int → Option (List Int)
 | 0, _, _, _, _ => none
 | k + 1, x5, x6, x7, x8 => if x8 < (x5.length : Int) then (if 0 ≤ x8 then (if x8 < (x6.length : Int) then (if (wrap64 ((wrap64 ((wrap64 (rd x5 x8)) - x7)) - (wrap64 (rd x6 x8)))) < 0 then (sibylref01_Minus.l0 k (x5.set (x8 : Int).toNat ((wrap64 ((wrap64 ((wrap64 ((wrap64 (rd x5 x8)) - x7)) - (wrap64 (rd x6 x8)))) + 4294967296)) % 4294967296)) x6 1 (wrap64 (x8 + 1))) else (sibylref01_Minus.l0 k (x5.set (x8 : Int).toNat ((wrap64 ((wrap64 ((wrap64 (rd x5 x8)) - x7)) - (wrap64 (rd x6 x8)))) % 4294967296)) x6 0 (wrap64 (x8 + 1)))) else (if (wrap64 ((wrap64 (rd x5 x8)) - x7)) < 0 then (sibylref01_Minus.l0 k (x5.set (x8 : Int).toNat ((wrap64 ((wrap64 ((wrap64 (rd x5 x8)) - x7)) + 4294967296)) % 4294967296)) x6 1 (wrap64 (x8 + 1))) else (sibylref01_Minus.l0 k (x5.set (x8 : Int).toNat ((wrap64 ((wrap64 (rd x5 x8)) - x7)) % 4294967296)) x6 0 (wrap64 (x8 + 1))))) else (none)) else ((sibylref01_Trim.f k x5).bind fun t254 => (some t254))
def sibylref01_Minus.f (k : Nat) (l0 : List Int) (l1 : List Int) : Option (List Int) := (sibylref01_Trim.f k l0).bind fun t248 => ((sibylref01_Trim.f k l1).bind fun t251 => (sibylref01_Minus.l0 k t248 t251 0 0))
set_option maxHeartbeats 8000000 in
set_option maxRecDepth 100000 in
theorem sibylref01_Minus.calls (k : Nat) (A0 : Option Addr) (c0 : Nat) (l0 : List Int) (A1 : Option Addr) (c1 : Nat) (l1 : List Int) (r : List Int) (w : World) (hr0 : Kd.C (Kd.int .u32) w A0 l0.length l0) (hc0 : l0.length ≤ c0) (hr1 : Kd.C (Kd.int .u32) w A1 l1.length l1) (hc1 : l1.length ≤ c1) (h : sibylref01_Minus.f k l0 l1 = some r) :
  Calls Try.prog 71 #[.slice A0 l0.length c0, .slice A1 l1.length c1] w fun e w' => ∃ v0_ : Value, e = .returned (v0_) ∧ Kd.R (Kd.int .u32) 99 w' w.heap.size (fun _ => True) v0_ r ∧ Below w.heap.size w w' := by
 have HR0 := Aside0.mk hr0
 have HC0 := Aside0.mk hc0
 clear hr0 hc0
 have HR1 := Aside0.mk hr1
 have HC1 := Aside0.mk hc1
 clear hr1 hc1
 have HB := Aside0.mk (Below.refl w.heap.size w)
 have H : ((sibylref01_Trim.f k l0).bind fun t248 => ((sibylref01_Trim.f k l1).bind fun t251 => (sibylref01_Minus.l0 k t248 t251 0 0))) = some r := h
 clear h
 obtain ⟨t248, A3, H⟩ := bindA H
 obtain ⟨t251, A4, H⟩ := bindA H
 have H' := Aside0.mk H
 clear H
 go_enter Try.func71, Try.ntmps71
 go_wp2_with (first | ((with_reducible refine gate_callee (f := 83) rfl ?_); refine goesM (some 11) rfl rfl Try.func83 (by kernel_rfl) rfl #[.slice A0 l0.length c0] rfl (by rfl) ?_; (with_reducible refine (sibylref01_Trim.calls k _ _ l0 t248 _ ?side1 ?side2 A3.out).mono ?_); (case side1 => exact ca HR0.out); (case side2 => exact HC0.out); rintro e w5 ⟨v249, rfl, ho0, hb⟩; refine ⟨_, rfl, ?_⟩; have n_ := mk2 (Kd.R_lower ho0 (below_size (bl HB))) (below_step (bl HB) hb); clear HB; obtain ⟨HO250, HB⟩ := n_; (try clear hb); (try clear hb2); (try clear hk); (try clear hi); (try clear ho0)) | ((with_reducible refine gate_callee (f := 83) rfl ?_); refine goesM (some 13) rfl rfl Try.func83 (by kernel_rfl) rfl #[.slice A1 l1.length c1] rfl (by rfl) ?_; (with_reducible refine (sibylref01_Trim.calls k _ _ l1 t251 _ ?side1 ?side2 A4.out).mono ?_); (case side1 => exact ca (Kd.C_below HR1.out HB.out)); (case side2 => exact HC1.out); rintro e w6 ⟨v252, rfl, ho0, hb⟩; refine ⟨_, rfl, ?_⟩; have n_ := mk3 (Kd.R_elder' (ra HO250.out) (Kd.R_base ho0) hb) (Kd.R_lower (Kd.R_new' ho0 (Kd.R_lt (ra HO250.out))) (below_size (bl HB))) (below_step (bl HB) hb); clear HO250 HB; obtain ⟨HO250, HO253, HB⟩ := n_; (try clear hb); (try clear hb2); (try clear hk); (try clear hi); (try clear ho0)))
 go_loopg [7, 8] k (fun kq v7 v8 w' => ∃ (x5_1 : List Int) (x7_1 : Int) (x8_1 : Int), v7 = .int .i64 x7_1 ∧ v8 = .int .i64 x8_1 ∧ Aside0 (sibylref01_Minus.l0 kq x5_1 t251 x7_1 x8_1 = some r) ∧ Aside0 (kq ≤ k) ∧ Aside0 (Kd.R (Kd.int .u32) 99 w' w.heap.size (fun k_ => some k_ ≠ (v252 : Value).ownBlock) v249 x5_1) ∧ Aside0 (Kd.R (Kd.int .u32) 99 w' w.heap.size (fun k_ => some k_ ≠ (v249 : Value).ownBlock) v252 t251) ∧ Aside0 (Below w.heap.size w w'))
 case atStart => exact ⟨(t248), (0), (0), (by first | rfl | (simp; done) | (simp [*]; done)), (by first | rfl | (simp; done) | (simp [*]; done)), H', ⟨Nat.le_refl _⟩, ⟨ra (Kd.R_mono HO250.out (fun _ hk => hk.2))⟩, ⟨ra (Kd.R_mono HO253.out (fun _ hk => hk.2))⟩, ⟨bl HB⟩⟩
 case round =>
  clear H'
  try clear c1
  try clear p2
  obtain ⟨x5_1, x7_1, x8_1, rfl, rfl, HA, HK1, HO_5, HO_6, HB⟩ := hrel
  cases gk with
  | zero => exact absurd HA.out (by simp [sibylref01_Minus.l0])
  | succ k1 =>
   have H := HA.out
   clear HA
   simp only [sibylref01_Minus.l0] at H
   by_cases c7 : x8_1 < (x5_1.length : Int)
   ·rw [if_pos c7] at H
    have c7b0 : decide (x8_1 < (x5_1.length : Int)) = true := decide_eq_true c7
    clear c7
    by_cases c8 : 0 ≤ x8_1
    ·rw [if_pos c8] at H
     have c8b0 : decide (0 ≤ x8_1) = true := decide_eq_true c8
     clear c8
     by_cases c9 : x8_1 < (t251.length : Int)
     ·rw [if_pos c9] at H
      have c9b0 : decide (x8_1 < (t251.length : Int)) = true := decide_eq_true c9
      clear c9
      by_cases c10 : (wrap64 ((wrap64 ((wrap64 (rd x5_1 x8_1)) - x7_1)) - (wrap64 (rd t251 x8_1)))) < 0
      ·rw [if_pos c10] at H
       have c10b0 : decide ((wrap64 ((wrap64 ((wrap64 (rd x5_1 x8_1)) - x7_1)) - (wrap64 (rd t251 x8_1)))) < 0) = true := decide_eq_true c10
       clear c10
       obtain ⟨y259, hy259⟩ : ∃ y_ : List Int, y_ = (x5_1.set (x8_1 : Int).toNat ((wrap64 ((wrap64 ((wrap64 ((wrap64 (rd x5_1 x8_1)) - x7_1)) - (wrap64 (rd t251 x8_1)))) + 4294967296)) % 4294967296)) := ⟨_, rfl⟩
       replace H : (sibylref01_Minus.l0 k1 y259 t251 1 (wrap64 (x8_1 + 1))) = some r := by rw [hy259]; exact H
       have Ny259 := Aside0.mk hy259
       clear hy259
       have H' := Aside0.mk H
       clear H
       obtain ⟨Ao12, co12, eo12⟩ := Kd.R_slice HO_5.out
       subst eo12
       have p257 : 0 ≤ (x8_1 : Int) := of_decide_eq_true (by first | (with_reducible assumption) | assumption)
       have q257 : x8_1 < (x5_1.length : Int) := of_decide_eq_true (by first | (with_reducible assumption) | assumption)
       obtain ⟨ad257, e257, hx257_0⟩ := Kd.at_int (Kd.R_reads' HO_5.out).2.2 x8_1 p257 q257
       cases e257
       replace p257 := eq_true p257
       replace q257 := eq_true q257
       obtain ⟨Ao13, co13, eo13⟩ := Kd.R_slice HO_6.out
       subst eo13
       have p258 : 0 ≤ (x8_1 : Int) := of_decide_eq_true (by first | (with_reducible assumption) | assumption)
       have q258 : x8_1 < (t251.length : Int) := of_decide_eq_true (by first | (with_reducible assumption) | assumption)
       obtain ⟨ad258, e258, hx258_0⟩ := Kd.at_int (Kd.R_reads' HO_6.out).2.2 x8_1 p258 q258
       cases e258
       replace p258 := eq_true p258
       replace q258 := eq_true q258
       have p11 : 0 ≤ (x8_1 : Int) := of_decide_eq_true (by first | (with_reducible assumption) | assumption)
       have q11 : (x8_1 : Int) < ((x5_1.length : Int) : Int) := of_decide_eq_true (by first | (with_reducible assumption) | assumption)
       obtain ⟨go11, co11, eo11, gb11, gl11, cl11, HG11⟩ := Kd.R_form HO_5.out (by omega)
       (first | cases eo11 | (injection eo11 with ea_ en_ ec_; (first | subst ea_ | (injection ea_ with ea_; subst ea_)); subst ec_; clear en_))
       have GB11 := Aside0.mk gb11
       have GG11 := Aside0.mk HG11
       clear gb11 gl11 HG11
       (first | simp only [add_plain] at hx257_0 | skip)
       obtain ⟨hx11_0, hf11_0⟩ := Kd.R_celln 0 HO_5.out (x8_1 : Int) p11 q11
       replace p11 := eq_true p11
       replace q11 := eq_true q11
       have HP14 := Kd.R_putg HO_5.out (x8_1 : Int) ((wrap64 ((wrap64 ((wrap64 ((wrap64 (rd x5_1 x8_1)) - x7_1)) - (wrap64 (rd t251 x8_1)))) + 4294967296)) % 4294967296)
       go_wp2_with (first | ((with_reducible refine gate_store (t := 99) (p := 46) rfl ?_); refine store_event (t := 99) (p := 46) (v := ?vo_w15) (w1 := (wr.setCell ⟨go11, (x8_1 : Int).toNat, none⟩ (.int .u32 ((wrap64 ((wrap64 ((wrap64 ((wrap64 (rd x5_1 x8_1)) - x7_1)) - (wrap64 (rd t251 x8_1)))) + 4294967296)) % 4294967296)))) ?hg ?ho ?hn ?hr ?_; (case ho => rfl); (case hg => rfl); (case hn => rfl); (case hr => first | (go_simp; done) | (go_simp; rfl)); intro w15 hw; have hg : wr.grownBy w15 (some go11) := (by rw [hw]; exact HP14.2); have hp_ : Kd.R (Kd.int .u32) 99 w15 w.heap.size (fun k_ => some k_ ≠ (.slice (some ad258) t251.length co13 : Value).ownBlock) (.slice (some ⟨go11, 0, none⟩) x5_1.length co12) y259 := (by rw [hw, Ny259.out]; exact HP14.1); clear HP14; have n_ := mk3 (hp_) (Kd.R_after (v := (.slice (some ⟨go11, 0, none⟩) x5_1.length co12)) (v1 := (.slice (some ⟨go11, 0, none⟩) x5_1.length co12)) (ok := (fun _ => True)) (ra (Kd.R_mono HO_6.out (fun _ hk => ⟨trivial, hk⟩))) hg (.inl rfl)) ((by rw [hw]; exact below_set (HB.out) GB11.out : Below w.heap.size w w15)); clear HO_5 HO_6 HB; obtain ⟨HO_5, HO_6, HB⟩ := n_; clear hg hw hp_))
       go_roundg k1
       case measure => have := HK1.out; omega
       case rel => exact ⟨(y259), (1), (wrap64 (x8_1 + 1)), (by first | rfl | (simp; done) | (simp [*]; done)), (by first | rfl | (simp; done) | (simp [*]; done)), H', ⟨by have := HK1.out; omega⟩, ⟨ra HO_5.out⟩, ⟨ra (Kd.R_mono HO_6.out (fun _ hk => hk.2))⟩, ⟨bl HB⟩⟩
      ·rw [if_neg c10] at H
       have c10b0 : decide ((wrap64 ((wrap64 ((wrap64 (rd x5_1 x8_1)) - x7_1)) - (wrap64 (rd t251 x8_1)))) < 0) = false := decide_eq_false c10
       clear c10
       obtain ⟨y260, hy260⟩ : ∃ y_ : List Int, y_ = (x5_1.set (x8_1 : Int).toNat ((wrap64 ((wrap64 ((wrap64 (rd x5_1 x8_1)) - x7_1)) - (wrap64 (rd t251 x8_1)))) % 4294967296)) := ⟨_, rfl⟩
       replace H : (sibylref01_Minus.l0 k1 y260 t251 0 (wrap64 (x8_1 + 1))) = some r := by rw [hy260]; exact H
       have Ny260 := Aside0.mk hy260
       clear hy260
       have H' := Aside0.mk H
       clear H
       obtain ⟨Ao17, co17, eo17⟩ := Kd.R_slice HO_5.out
       subst eo17
       have p257 : 0 ≤ (x8_1 : Int) := of_decide_eq_true (by first | (with_reducible assumption) | assumption)
       have q257 : x8_1 < (x5_1.length : Int) := of_decide_eq_true (by first | (with_reducible assumption) | assumption)
       obtain ⟨ad257, e257, hx257_0⟩ := Kd.at_int (Kd.R_reads' HO_5.out).2.2 x8_1 p257 q257
       cases e257
       replace p257 := eq_true p257
       replace q257 := eq_true q257
       obtain ⟨Ao18, co18, eo18⟩ := Kd.R_slice HO_6.out
       subst eo18
       have p258 : 0 ≤ (x8_1 : Int) := of_decide_eq_true (by first | (with_reducible assumption) | assumption)
       have q258 : x8_1 < (t251.length : Int) := of_decide_eq_true (by first | (with_reducible assumption) | assumption)
       obtain ⟨ad258, e258, hx258_0⟩ := Kd.at_int (Kd.R_reads' HO_6.out).2.2 x8_1 p258 q258
       cases e258
       replace p258 := eq_true p258
       replace q258 := eq_true q258
       have p16 : 0 ≤ (x8_1 : Int) := of_decide_eq_true (by first | (with_reducible assumption) | assumption)
       have q16 : (x8_1 : Int) < ((x5_1.length : Int) : Int) := of_decide_eq_true (by first | (with_reducible assumption) | assumption)
       obtain ⟨go16, co16, eo16, gb16, gl16, cl16, HG16⟩ := Kd.R_form HO_5.out (by omega)
       (first | cases eo16 | (injection eo16 with ea_ en_ ec_; (first | subst ea_ | (injection ea_ with ea_; subst ea_)); subst ec_; clear en_))
       have GB16 := Aside0.mk gb16
       have GG16 := Aside0.mk HG16
       clear gb16 gl16 HG16
       (first | simp only [add_plain] at hx257_0 | skip)
       obtain ⟨hx16_0, hf16_0⟩ := Kd.R_celln 0 HO_5.out (x8_1 : Int) p16 q16
       replace p16 := eq_true p16
       replace q16 := eq_true q16
       have HP19 := Kd.R_putg HO_5.out (x8_1 : Int) ((wrap64 ((wrap64 ((wrap64 (rd x5_1 x8_1)) - x7_1)) - (wrap64 (rd t251 x8_1)))) % 4294967296)
       go_wp2_with (first | ((with_reducible refine gate_store (t := 99) (p := 46) rfl ?_); refine store_event (t := 99) (p := 46) (v := ?vo_w20) (w1 := (wr.setCell ⟨go16, (x8_1 : Int).toNat, none⟩ (.int .u32 ((wrap64 ((wrap64 ((wrap64 (rd x5_1 x8_1)) - x7_1)) - (wrap64 (rd t251 x8_1)))) % 4294967296)))) ?hg ?ho ?hn ?hr ?_; (case ho => rfl); (case hg => rfl); (case hn => rfl); (case hr => first | (go_simp; done) | (go_simp; rfl)); intro w20 hw; have hg : wr.grownBy w20 (some go16) := (by rw [hw]; exact HP19.2); have hp_ : Kd.R (Kd.int .u32) 99 w20 w.heap.size (fun k_ => some k_ ≠ (.slice (some ad258) t251.length co18 : Value).ownBlock) (.slice (some ⟨go16, 0, none⟩) x5_1.length co17) y260 := (by rw [hw, Ny260.out]; exact HP19.1); clear HP19; have n_ := mk3 (hp_) (Kd.R_after (v := (.slice (some ⟨go16, 0, none⟩) x5_1.length co17)) (v1 := (.slice (some ⟨go16, 0, none⟩) x5_1.length co17)) (ok := (fun _ => True)) (ra (Kd.R_mono HO_6.out (fun _ hk => ⟨trivial, hk⟩))) hg (.inl rfl)) ((by rw [hw]; exact below_set (HB.out) GB16.out : Below w.heap.size w w20)); clear HO_5 HO_6 HB; obtain ⟨HO_5, HO_6, HB⟩ := n_; clear hg hw hp_))
       go_roundg k1
       case measure => have := HK1.out; omega
       case rel => exact ⟨(y260), (0), (wrap64 (x8_1 + 1)), (by first | rfl | (simp; done) | (simp [*]; done)), (by first | rfl | (simp; done) | (simp [*]; done)), H', ⟨by have := HK1.out; omega⟩, ⟨ra HO_5.out⟩, ⟨ra (Kd.R_mono HO_6.out (fun _ hk => hk.2))⟩, ⟨bl HB⟩⟩
     ·rw [if_neg c9] at H
      have c9b0 : decide (x8_1 < (t251.length : Int)) = false := decide_eq_false c9
      clear c9
      by_cases c21 : (wrap64 ((wrap64 (rd x5_1 x8_1)) - x7_1)) < 0
      ·rw [if_pos c21] at H
       have c21b0 : decide ((wrap64 ((wrap64 (rd x5_1 x8_1)) - x7_1)) < 0) = true := decide_eq_true c21
       clear c21
       obtain ⟨y261, hy261⟩ : ∃ y_ : List Int, y_ = (x5_1.set (x8_1 : Int).toNat ((wrap64 ((wrap64 ((wrap64 (rd x5_1 x8_1)) - x7_1)) + 4294967296)) % 4294967296)) := ⟨_, rfl⟩
       replace H : (sibylref01_Minus.l0 k1 y261 t251 1 (wrap64 (x8_1 + 1))) = some r := by rw [hy261]; exact H
       have Ny261 := Aside0.mk hy261
       clear hy261
       have H' := Aside0.mk H
       clear H
       obtain ⟨Ao23, co23, eo23⟩ := Kd.R_slice HO_5.out
       subst eo23
       have p257 : 0 ≤ (x8_1 : Int) := of_decide_eq_true (by first | (with_reducible assumption) | assumption)
       have q257 : x8_1 < (x5_1.length : Int) := of_decide_eq_true (by first | (with_reducible assumption) | assumption)
       obtain ⟨ad257, e257, hx257_0⟩ := Kd.at_int (Kd.R_reads' HO_5.out).2.2 x8_1 p257 q257
       cases e257
       replace p257 := eq_true p257
       replace q257 := eq_true q257
       obtain ⟨Ao24, co24, eo24⟩ := Kd.R_slice HO_6.out
       subst eo24
       have p22 : 0 ≤ (x8_1 : Int) := of_decide_eq_true (by first | (with_reducible assumption) | assumption)
       have q22 : (x8_1 : Int) < ((x5_1.length : Int) : Int) := of_decide_eq_true (by first | (with_reducible assumption) | assumption)
       obtain ⟨go22, co22, eo22, gb22, gl22, cl22, HG22⟩ := Kd.R_form HO_5.out (by omega)
       (first | cases eo22 | (injection eo22 with ea_ en_ ec_; (first | subst ea_ | (injection ea_ with ea_; subst ea_)); subst ec_; clear en_))
       have GB22 := Aside0.mk gb22
       have GG22 := Aside0.mk HG22
       clear gb22 gl22 HG22
       (first | simp only [add_plain] at hx257_0 | skip)
       obtain ⟨hx22_0, hf22_0⟩ := Kd.R_celln 0 HO_5.out (x8_1 : Int) p22 q22
       replace p22 := eq_true p22
       replace q22 := eq_true q22
       have HP25 := Kd.R_putg HO_5.out (x8_1 : Int) ((wrap64 ((wrap64 ((wrap64 (rd x5_1 x8_1)) - x7_1)) + 4294967296)) % 4294967296)
       go_wp2_with (first | ((with_reducible refine gate_store (t := 99) (p := 46) rfl ?_); refine store_event (t := 99) (p := 46) (v := ?vo_w26) (w1 := (wr.setCell ⟨go22, (x8_1 : Int).toNat, none⟩ (.int .u32 ((wrap64 ((wrap64 ((wrap64 (rd x5_1 x8_1)) - x7_1)) + 4294967296)) % 4294967296)))) ?hg ?ho ?hn ?hr ?_; (case ho => rfl); (case hg => rfl); (case hn => rfl); (case hr => first | (go_simp; done) | (go_simp; rfl)); intro w26 hw; have hg : wr.grownBy w26 (some go22) := (by rw [hw]; exact HP25.2); have hp_ : Kd.R (Kd.int .u32) 99 w26 w.heap.size (fun k_ => some k_ ≠ (.slice Ao24 t251.length co24 : Value).ownBlock) (.slice (some ⟨go22, 0, none⟩) x5_1.length co23) y261 := (by rw [hw, Ny261.out]; exact HP25.1); clear HP25; have n_ := mk3 (hp_) (Kd.R_after (v := (.slice (some ⟨go22, 0, none⟩) x5_1.length co23)) (v1 := (.slice (some ⟨go22, 0, none⟩) x5_1.length co23)) (ok := (fun _ => True)) (ra (Kd.R_mono HO_6.out (fun _ hk => ⟨trivial, hk⟩))) hg (.inl rfl)) ((by rw [hw]; exact below_set (HB.out) GB22.out : Below w.heap.size w w26)); clear HO_5 HO_6 HB; obtain ⟨HO_5, HO_6, HB⟩ := n_; clear hg hw hp_))
       go_roundg k1
       case measure => have := HK1.out; omega
       case rel => exact ⟨(y261), (1), (wrap64 (x8_1 + 1)), (by first | rfl | (simp; done) | (simp [*]; done)), (by first | rfl | (simp; done) | (simp [*]; done)), H', ⟨by have := HK1.out; omega⟩, ⟨ra HO_5.out⟩, ⟨ra (Kd.R_mono HO_6.out (fun _ hk => hk.2))⟩, ⟨bl HB⟩⟩
      ·rw [if_neg c21] at H
       have c21b0 : decide ((wrap64 ((wrap64 (rd x5_1 x8_1)) - x7_1)) < 0) = false := decide_eq_false c21
       clear c21
       obtain ⟨y262, hy262⟩ : ∃ y_ : List Int, y_ = (x5_1.set (x8_1 : Int).toNat ((wrap64 ((wrap64 (rd x5_1 x8_1)) - x7_1)) % 4294967296)) := ⟨_, rfl⟩
       replace H : (sibylref01_Minus.l0 k1 y262 t251 0 (wrap64 (x8_1 + 1))) = some r := by rw [hy262]; exact H
       have Ny262 := Aside0.mk hy262
       clear hy262
       have H' := Aside0.mk H
       clear H
       obtain ⟨Ao28, co28, eo28⟩ := Kd.R_slice HO_5.out
       subst eo28
       have p257 : 0 ≤ (x8_1 : Int) := of_decide_eq_true (by first | (with_reducible assumption) | assumption)
       have q257 : x8_1 < (x5_1.length : Int) := of_decide_eq_true (by first | (with_reducible assumption) | assumption)
       obtain ⟨ad257, e257, hx257_0⟩ := Kd.at_int (Kd.R_reads' HO_5.out).2.2 x8_1 p257 q257
       cases e257
       replace p257 := eq_true p257
       replace q257 := eq_true q257
       obtain ⟨Ao29, co29, eo29⟩ := Kd.R_slice HO_6.out
       subst eo29
       have p27 : 0 ≤ (x8_1 : Int) := of_decide_eq_true (by first | (with_reducible assumption) | assumption)
       have q27 : (x8_1 : Int) < ((x5_1.length : Int) : Int) := of_decide_eq_true (by first | (with_reducible assumption) | assumption)
       obtain ⟨go27, co27, eo27, gb27, gl27, cl27, HG27⟩ := Kd.R_form HO_5.out (by omega)
       (first | cases eo27 | (injection eo27 with ea_ en_ ec_; (first | subst ea_ | (injection ea_ with ea_; subst ea_)); subst ec_; clear en_))
       have GB27 := Aside0.mk gb27
       have GG27 := Aside0.mk HG27
       clear gb27 gl27 HG27
       (first | simp only [add_plain] at hx257_0 | skip)
       obtain ⟨hx27_0, hf27_0⟩ := Kd.R_celln 0 HO_5.out (x8_1 : Int) p27 q27
       replace p27 := eq_true p27
       replace q27 := eq_true q27
       have HP30 := Kd.R_putg HO_5.out (x8_1 : Int) ((wrap64 ((wrap64 (rd x5_1 x8_1)) - x7_1)) % 4294967296)
       go_wp2_with (first | ((with_reducible refine gate_store (t := 99) (p := 46) rfl ?_); refine store_event (t := 99) (p := 46) (v := ?vo_w31) (w1 := (wr.setCell ⟨go27, (x8_1 : Int).toNat, none⟩ (.int .u32 ((wrap64 ((wrap64 (rd x5_1 x8_1)) - x7_1)) % 4294967296)))) ?hg ?ho ?hn ?hr ?_; (case ho => rfl); (case hg => rfl); (case hn => rfl); (case hr => first | (go_simp; done) | (go_simp; rfl)); intro w31 hw; have hg : wr.grownBy w31 (some go27) := (by rw [hw]; exact HP30.2); have hp_ : Kd.R (Kd.int .u32) 99 w31 w.heap.size (fun k_ => some k_ ≠ (.slice Ao29 t251.length co29 : Value).ownBlock) (.slice (some ⟨go27, 0, none⟩) x5_1.length co28) y262 := (by rw [hw, Ny262.out]; exact HP30.1); clear HP30; have n_ := mk3 (hp_) (Kd.R_after (v := (.slice (some ⟨go27, 0, none⟩) x5_1.length co28)) (v1 := (.slice (some ⟨go27, 0, none⟩) x5_1.length co28)) (ok := (fun _ => True)) (ra (Kd.R_mono HO_6.out (fun _ hk => ⟨trivial, hk⟩))) hg (.inl rfl)) ((by rw [hw]; exact below_set (HB.out) GB27.out : Below w.heap.size w w31)); clear HO_5 HO_6 HB; obtain ⟨HO_5, HO_6, HB⟩ := n_; clear hg hw hp_))
       go_roundg k1
       case measure => have := HK1.out; omega
       case rel => exact ⟨(y262), (0), (wrap64 (x8_1 + 1)), (by first | rfl | (simp; done) | (simp [*]; done)), (by first | rfl | (simp; done) | (simp [*]; done)), H', ⟨by have := HK1.out; omega⟩, ⟨ra HO_5.out⟩, ⟨ra (Kd.R_mono HO_6.out (fun _ hk => hk.2))⟩, ⟨bl HB⟩⟩
    ·rw [if_neg c8] at H
     exact absurd H (by simp)
   ·rw [if_neg c7] at H
    have c7b0 : decide (x8_1 < (x5_1.length : Int)) = false := decide_eq_false c7
    clear c7
    obtain ⟨t254, A32, H⟩ := bindA H
    obtain rfl := Option.some.inj H
    obtain ⟨Ao33, co33, eo33⟩ := Kd.R_slice HO_5.out
    subst eo33
    go_wp2_with (first | ((with_reducible refine gate_callee (f := 83) rfl ?_); refine goesM (some 48) rfl rfl Try.func83 (by kernel_rfl) rfl #[.slice Ao33 x5_1.length co33] rfl (by rfl) ?_; (with_reducible refine (sibylref01_Trim.calls k1 _ _ x5_1 t254 _ ?side1 ?side2 A32.out).mono ?_); (case side1 => exact ca ((Kd.R_reads' HO_5.out).2.2)); (case side2 => exact (Kd.R_reads' HO_5.out).2.1); rintro e w34 ⟨v255, rfl, ho0, hb⟩; refine ⟨_, rfl, ?_⟩; have n_ := mk4 (Kd.R_elder' (ra HO_5.out) (Kd.R_base ho0) hb) (Kd.R_elder' (ra HO_6.out) (Kd.R_base ho0) hb) (Kd.R_lower (Kd.R_new' (Kd.R_new' ho0 (Kd.R_lt (ra HO_5.out))) (Kd.R_lt (ra HO_6.out))) (below_size (bl HB))) (below_step (bl HB) hb); clear HO_5 HO_6 HB; obtain ⟨HO_5, HO_6, HO256, HB⟩ := n_; (try clear hb); (try clear hb2); (try clear hk); (try clear hi); (try clear ho0)))
    go_ret
    exact ⟨_, by first | rfl | simp [*], ra (Kd.R_mono HO256.out (fun _ hk => trivial)), bl HB⟩
mutual
def sibylref01_Plus.l0 : Nat → List Int → List Int → List Int → Int → Int → Option (List Int)
 | 0, _, _, _, _, _ => none
 | k + 1, x0, x1, x5, x6, x7 => if x7 < (x0.length : Int) then (sibylref01_Plus.j1 k x0 x1 x5 x6 x7 true) else (sibylref01_Plus.j1 k x0 x1 x5 x6 x7 (decide (x7 < (x1.length : Int))))
def sibylref01_Plus.j1 : Nat → List Int → List Int → List Int → Int → Int → Bool → Option (List Int)
 | 0, _, _, _, _, _, _ => none
 | k + 1, x0, x1, x5, x6, x7, x17 => if x17 = true then (if x7 < (x0.length : Int) then (if 0 ≤ x7 then (if x7 < (x1.length : Int) then (if x5.length < 35184372088832 then (sibylref01_Plus.l0 k x0 x1 (x5 ++ [(Int.tmod (IntKind.u64.wrap ((IntKind.u64.wrap (x6 + (IntKind.u64.wrap (rd x0 x7)))) + (IntKind.u64.wrap (rd x1 x7)))) 4294967296) % 4294967296]) (IntKind.u64.wrap (Int.tdiv (IntKind.u64.wrap ((IntKind.u64.wrap (x6 + (IntKind.u64.wrap (rd x0 x7)))) + (IntKind.u64.wrap (rd x1 x7)))) 4294967296)) (wrap64 (x7 + 1))) else (none)) else (if x5.length < 35184372088832 then (sibylref01_Plus.l0 k x0 x1 (x5 ++ [(Int.tmod (IntKind.u64.wrap (x6 + (IntKind.u64.wrap (rd x0 x7)))) 4294967296) % 4294967296]) (IntKind.u64.wrap (Int.tdiv (IntKind.u64.wrap (x6 + (IntKind.u64.wrap (rd x0 x7)))) 4294967296)) (wrap64 (x7 + 1))) else (none))) else (none)) else (if x7 < (x1.length : Int) then (if 0 ≤ x7 then (if x5.length < 35184372088832 then (sibylref01_Plus.l0 k x0 x1 (x5 ++ [(Int.tmod (IntKind.u64.wrap (x6 + (IntKind.u64.wrap (rd x1 x7)))) 4294967296) % 4294967296]) (IntKind.u64.wrap (Int.tdiv (IntKind.u64.wrap (x6 + (IntKind.u64.wrap (rd x1 x7)))) 4294967296)) (wrap64 (x7 + 1))) else (none)) else (none)) else (if x5.length < 35184372088832 then (sibylref01_Plus.l0 k x0 x1 (x5 ++ [(Int.tmod x6 4294967296) % 4294967296]) (IntKind.u64.wrap (Int.tdiv x6 4294967296)) (wrap64 (x7 + 1))) else (none)))) else (if x5.length < 35184372088832 then ((sibylref01_Trim.f k (x5 ++ [(x6) % 4294967296])).bind fun t266 => (some t266)) else (none))
end
def sibylref01_Plus.f (k : Nat) (l0 : List Int) (l1 : List Int) : Option (List Int) := sibylref01_Plus.l0 k l0 l1 ([] : List Int) 0 0
set_option maxHeartbeats 8000000 in
set_option maxRecDepth 100000 in
theorem sibylref01_Plus.calls (k : Nat) (A0 : Option Addr) (c0 : Nat) (l0 : List Int) (A1 : Option Addr) (c1 : Nat) (l1 : List Int) (r : List Int) (w : World) (hr0 : Kd.C (Kd.int .u32) w A0 l0.length l0) (hc0 : l0.length ≤ c0) (hr1 : Kd.C (Kd.int .u32) w A1 l1.length l1) (hc1 : l1.length ≤ c1) (h : sibylref01_Plus.f k l0 l1 = some r) :
  Calls Try.prog 72 #[.slice A0 l0.length c0, .slice A1 l1.length c1] w fun e w' => ∃ v0_ : Value, e = .returned (v0_) ∧ Kd.R (Kd.int .u32) 99 w' w.heap.size (fun _ => True) v0_ r ∧ Below w.heap.size w w' := by
 have HR0 := Aside0.mk hr0
 have HC0 := Aside0.mk hc0
 clear hr0 hc0
 have HR1 := Aside0.mk hr1
 have HC1 := Aside0.mk hc1
 clear hr1 hc1
 have HB := Aside0.mk (Below.refl w.heap.size w)
 have H : (sibylref01_Plus.l0 k l0 l1 ([] : List Int) 0 0) = some r := h
 clear h
 have H' := Aside0.mk H
 clear H
 go_enter Try.func72, Try.ntmps72
 go_wp2
 go_loopg [5, 6, 7] k (fun kq v5 v6 v7 w' => ∃ (x5_1 : List Int) (x6_1 : Int) (x7_1 : Int), v6 = .int .u64 x6_1 ∧ v7 = .int .i64 x7_1 ∧ Aside0 (sibylref01_Plus.l0 kq l0 l1 x5_1 x6_1 x7_1 = some r) ∧ Aside0 (kq ≤ k) ∧ Aside0 (Kd.R (Kd.int .u32) 99 w' w.heap.size (fun _ => True) v5 x5_1) ∧ Aside0 (Below w.heap.size w w'))
 case atStart => exact ⟨(([] : List Int)), (0), (0), (by first | rfl | (simp; done) | (simp [*]; done)), (by first | rfl | (simp; done) | (simp [*]; done)), H', ⟨Nat.le_refl _⟩, ⟨by first | exact Kd.R_nil _ _ _ _ _ | exact Kd.V_nil _ _ _ _ _⟩, ⟨bl HB⟩⟩
 case round =>
  clear H'
  try clear c1
  try clear p2
  obtain ⟨x5_1, x6_1, x7_1, rfl, rfl, HA, HK1, HO_5, HB⟩ := hrel
  cases gk with
  | zero => exact absurd HA.out (by simp [sibylref01_Plus.l0])
  | succ k1 =>
   have H := HA.out
   clear HA
   simp only [sibylref01_Plus.l0] at H
   have HC3 := Aside0.mk H
   clear H
   go_upto_region 4 with (fail)
   go_cut [17] (fun v17 wc => ∃ (kq : Nat) (x17_2 : Bool), v17 = .bool x17_2 ∧ Aside0 (sibylref01_Plus.j1 kq l0 l1 x5_1 x6_1 x7_1 x17_2 = some r) ∧ Aside0 (kq ≤ k1) ∧ Aside0 (Kd.R (Kd.int .u32) 99 wc w.heap.size (fun _ => True) u5 x5_1) ∧ Aside0 (Below w.heap.size w wc))
   case first =>
    have H := HC3.out
    clear HC3
    by_cases c4 : x7_1 < (l0.length : Int)
    ·rw [if_pos c4] at H
     have c4b0 : decide (x7_1 < (l0.length : Int)) = true := decide_eq_true c4
     clear c4
     (first | rw [c4b0] | (simp only [i64_w, i32_w]; rw [c4b0]) | skip)
     have H' := Aside0.mk H
     clear H
     go_wp2
     go_meet
     case rel => exact ⟨_, (true), (by first | rfl | (simp; done) | (simp [*]; done)), H', ⟨by have := HK1.out; first | omega | exact Nat.le_refl _⟩, ⟨ra HO_5.out⟩, ⟨bl HB⟩⟩
    ·rw [if_neg c4] at H
     have c4b0 : decide (x7_1 < (l0.length : Int)) = false := decide_eq_false c4
     clear c4
     (first | rw [c4b0] | (simp only [i64_w, i32_w]; rw [c4b0]) | skip)
     have H' := Aside0.mk H
     clear H
     go_wp2
     go_meet
     case rel => exact ⟨_, (decide (x7_1 < (l1.length : Int))), (by first | rfl | (simp; done) | (simp [*]; done)), H', ⟨by have := HK1.out; first | omega | exact Nat.le_refl _⟩, ⟨ra HO_5.out⟩, ⟨bl HB⟩⟩
   case rest =>
    clear HC3
    try clear c1
    try clear p2
    try clear c4
    try clear c4b0
    try clear p2
    obtain ⟨kq, x17_2, rfl, HA, HJ2, HO_5, HB⟩ := hcut
    cases kq with
    | zero => exact absurd HA.out (by simp [sibylref01_Plus.j1])
    | succ kj2 =>
     have H := HA.out
     clear HA
     simp only [sibylref01_Plus.j1] at H
     by_cases c5 : x17_2 = true
     ·subst c5
      have H1 : (if x7_1 < (l0.length : Int) then (if 0 ≤ x7_1 then (if x7_1 < (l1.length : Int) then (if x5_1.length < 35184372088832 then (sibylref01_Plus.l0 kj2 l0 l1 (x5_1 ++ [(Int.tmod (IntKind.u64.wrap ((IntKind.u64.wrap (x6_1 + (IntKind.u64.wrap (rd l0 x7_1)))) + (IntKind.u64.wrap (rd l1 x7_1)))) 4294967296) % 4294967296]) (IntKind.u64.wrap (Int.tdiv (IntKind.u64.wrap ((IntKind.u64.wrap (x6_1 + (IntKind.u64.wrap (rd l0 x7_1)))) + (IntKind.u64.wrap (rd l1 x7_1)))) 4294967296)) (wrap64 (x7_1 + 1))) else (none)) else (if x5_1.length < 35184372088832 then (sibylref01_Plus.l0 kj2 l0 l1 (x5_1 ++ [(Int.tmod (IntKind.u64.wrap (x6_1 + (IntKind.u64.wrap (rd l0 x7_1)))) 4294967296) % 4294967296]) (IntKind.u64.wrap (Int.tdiv (IntKind.u64.wrap (x6_1 + (IntKind.u64.wrap (rd l0 x7_1)))) 4294967296)) (wrap64 (x7_1 + 1))) else (none))) else (none)) else (if x7_1 < (l1.length : Int) then (if 0 ≤ x7_1 then (if x5_1.length < 35184372088832 then (sibylref01_Plus.l0 kj2 l0 l1 (x5_1 ++ [(Int.tmod (IntKind.u64.wrap (x6_1 + (IntKind.u64.wrap (rd l1 x7_1)))) 4294967296) % 4294967296]) (IntKind.u64.wrap (Int.tdiv (IntKind.u64.wrap (x6_1 + (IntKind.u64.wrap (rd l1 x7_1)))) 4294967296)) (wrap64 (x7_1 + 1))) else (none)) else (none)) else (if x5_1.length < 35184372088832 then (sibylref01_Plus.l0 kj2 l0 l1 (x5_1 ++ [(Int.tmod x6_1 4294967296) % 4294967296]) (IntKind.u64.wrap (Int.tdiv x6_1 4294967296)) (wrap64 (x7_1 + 1))) else (none)))) = some r := by rw [if_pos rfl] at H; exact H
      clear H
      have H := H1
      clear H1
      by_cases c6 : x7_1 < (l0.length : Int)
      ·rw [if_pos c6] at H
       have c6b0 : decide (x7_1 < (l0.length : Int)) = true := decide_eq_true c6
       clear c6
       by_cases c7 : 0 ≤ x7_1
       ·rw [if_pos c7] at H
        have c7b0 : decide (0 ≤ x7_1) = true := decide_eq_true c7
        clear c7
        by_cases c8 : x7_1 < (l1.length : Int)
        ·rw [if_pos c8] at H
         have c8b0 : decide (x7_1 < (l1.length : Int)) = true := decide_eq_true c8
         clear c8
         by_cases c9 : x5_1.length < 35184372088832
         ·rw [if_pos c9] at H
          have LMc9 := Aside0.mk c9
          clear c9
          obtain ⟨y271, hy271⟩ : ∃ y_ : List Int, y_ = (x5_1 ++ [(Int.tmod (IntKind.u64.wrap ((IntKind.u64.wrap (x6_1 + (IntKind.u64.wrap (rd l0 x7_1)))) + (IntKind.u64.wrap (rd l1 x7_1)))) 4294967296) % 4294967296]) := ⟨_, rfl⟩
          replace H : (sibylref01_Plus.l0 kj2 l0 l1 y271 (IntKind.u64.wrap (Int.tdiv (IntKind.u64.wrap ((IntKind.u64.wrap (x6_1 + (IntKind.u64.wrap (rd l0 x7_1)))) + (IntKind.u64.wrap (rd l1 x7_1)))) 4294967296)) (wrap64 (x7_1 + 1))) = some r := by rw [hy271]; exact H
          have Ny271 := Aside0.mk hy271
          clear hy271
          have H' := Aside0.mk H
          clear H
          have p269 : 0 ≤ (x7_1 : Int) := of_decide_eq_true (by first | (with_reducible assumption) | assumption)
          have q269 : x7_1 < (l0.length : Int) := of_decide_eq_true (by first | (with_reducible assumption) | assumption)
          obtain ⟨ad269, e269, hx269_0⟩ := Kd.at_int HR0.out x7_1 p269 q269
          cases e269
          replace hx269_0 := (HB.out.cell (World.block_lt_of_cell? w _ hx269_0)).trans hx269_0
          replace p269 := eq_true p269
          replace q269 := eq_true q269
          have p270 : 0 ≤ (x7_1 : Int) := of_decide_eq_true (by first | (with_reducible assumption) | assumption)
          have q270 : x7_1 < (l1.length : Int) := of_decide_eq_true (by first | (with_reducible assumption) | assumption)
          obtain ⟨ad270, e270, hx270_0⟩ := Kd.at_int HR1.out x7_1 p270 q270
          cases e270
          replace hx270_0 := (HB.out.cell (World.block_lt_of_cell? w _ hx270_0)).trans hx270_0
          replace p270 := eq_true p270
          replace q270 := eq_true q270
          go_wp2_with (first | ((with_reducible refine gate_builtin (b := .append) (xs := #[.tmp 42, .tmp 46]) rfl ?_); (try (refine gate_guard (by rfl) ?_; dsimp only)); at_builtin; refine Kd.R_append (Kd.int .u32) (w0 := w) w.heap.size rfl (.tmp 42) (.tmp 46) 34 99 (.int .u32 0) 4 rfl Try.underlying34 info99 rfl (by decide) (by omega) u5 x5_1 ((Int.tmod (IntKind.u64.wrap ((IntKind.u64.wrap (x6_1 + (IntKind.u64.wrap (rd l0 x7_1)))) + (IntKind.u64.wrap (rd l1 x7_1)))) 4294967296) % 4294967296) [.int .u32 ((Int.tmod (IntKind.u64.wrap ((IntKind.u64.wrap (x6_1 + (IntKind.u64.wrap (rd l0 x7_1)))) + (IntKind.u64.wrap (rd l1 x7_1)))) 4294967296) % 4294967296)] (fun _ => True) (fun _ => False) rfl rfl ?aP (fun _ hk => hk.elim) ?aF ?aO ?aB ?aS ?aL ?_; (case aP => exact rfl); (case aB => exact (bl HB)); (case aF => exact (fun _ _ => trivial)); (case aO => exact (ra HO_5.out)); (case aS => exact (below_size (bl HB))); (case aL => have := LMc9.out; omega); intro v272 w10 ho hb hg hat; rw [← Ny271.out] at ho; have n_ := mk2 (hb) (ho); clear HB HO_5; obtain ⟨HB, HO273⟩ := n_; clear ho hb hg hat))
          go_roundg kj2
          case measure => have := HK1.out; have := HJ2.out; omega
          case rel => exact ⟨(y271), (IntKind.u64.wrap (Int.tdiv (IntKind.u64.wrap ((IntKind.u64.wrap (x6_1 + (IntKind.u64.wrap (rd l0 x7_1)))) + (IntKind.u64.wrap (rd l1 x7_1)))) 4294967296)), (wrap64 (x7_1 + 1)), (by first | rfl | (simp; done) | (simp [*]; done)), (by first | rfl | (simp; done) | (simp [*]; done)), H', ⟨by have := HK1.out; have := HJ2.out; omega⟩, ⟨ra HO273.out⟩, ⟨bl HB⟩⟩
         ·rw [if_neg c9] at H
          exact absurd H (by simp)
        ·rw [if_neg c8] at H
         have c8b0 : decide (x7_1 < (l1.length : Int)) = false := decide_eq_false c8
         clear c8
         by_cases c11 : x5_1.length < 35184372088832
         ·rw [if_pos c11] at H
          have LMc11 := Aside0.mk c11
          clear c11
          obtain ⟨y274, hy274⟩ : ∃ y_ : List Int, y_ = (x5_1 ++ [(Int.tmod (IntKind.u64.wrap (x6_1 + (IntKind.u64.wrap (rd l0 x7_1)))) 4294967296) % 4294967296]) := ⟨_, rfl⟩
          replace H : (sibylref01_Plus.l0 kj2 l0 l1 y274 (IntKind.u64.wrap (Int.tdiv (IntKind.u64.wrap (x6_1 + (IntKind.u64.wrap (rd l0 x7_1)))) 4294967296)) (wrap64 (x7_1 + 1))) = some r := by rw [hy274]; exact H
          have Ny274 := Aside0.mk hy274
          clear hy274
          have H' := Aside0.mk H
          clear H
          have p269 : 0 ≤ (x7_1 : Int) := of_decide_eq_true (by first | (with_reducible assumption) | assumption)
          have q269 : x7_1 < (l0.length : Int) := of_decide_eq_true (by first | (with_reducible assumption) | assumption)
          obtain ⟨ad269, e269, hx269_0⟩ := Kd.at_int HR0.out x7_1 p269 q269
          cases e269
          replace hx269_0 := (HB.out.cell (World.block_lt_of_cell? w _ hx269_0)).trans hx269_0
          replace p269 := eq_true p269
          replace q269 := eq_true q269
          go_wp2_with (first | ((with_reducible refine gate_builtin (b := .append) (xs := #[.tmp 42, .tmp 46]) rfl ?_); (try (refine gate_guard (by rfl) ?_; dsimp only)); at_builtin; refine Kd.R_append (Kd.int .u32) (w0 := w) w.heap.size rfl (.tmp 42) (.tmp 46) 34 99 (.int .u32 0) 4 rfl Try.underlying34 info99 rfl (by decide) (by omega) u5 x5_1 ((Int.tmod (IntKind.u64.wrap (x6_1 + (IntKind.u64.wrap (rd l0 x7_1)))) 4294967296) % 4294967296) [.int .u32 ((Int.tmod (IntKind.u64.wrap (x6_1 + (IntKind.u64.wrap (rd l0 x7_1)))) 4294967296) % 4294967296)] (fun _ => True) (fun _ => False) rfl rfl ?aP (fun _ hk => hk.elim) ?aF ?aO ?aB ?aS ?aL ?_; (case aP => exact rfl); (case aB => exact (bl HB)); (case aF => exact (fun _ _ => trivial)); (case aO => exact (ra HO_5.out)); (case aS => exact (below_size (bl HB))); (case aL => have := LMc11.out; omega); intro v275 w12 ho hb hg hat; rw [← Ny274.out] at ho; have n_ := mk2 (hb) (ho); clear HB HO_5; obtain ⟨HB, HO276⟩ := n_; clear ho hb hg hat))
          go_roundg kj2
          case measure => have := HK1.out; have := HJ2.out; omega
          case rel => exact ⟨(y274), (IntKind.u64.wrap (Int.tdiv (IntKind.u64.wrap (x6_1 + (IntKind.u64.wrap (rd l0 x7_1)))) 4294967296)), (wrap64 (x7_1 + 1)), (by first | rfl | (simp; done) | (simp [*]; done)), (by first | rfl | (simp; done) | (simp [*]; done)), H', ⟨by have := HK1.out; have := HJ2.out; omega⟩, ⟨ra HO276.out⟩, ⟨bl HB⟩⟩
         ·rw [if_neg c11] at H
          exact absurd H (by simp)
       ·rw [if_neg c7] at H
        exact absurd H (by simp)
      ·rw [if_neg c6] at H
       have c6b0 : decide (x7_1 < (l0.length : Int)) = false := decide_eq_false c6
       clear c6
       by_cases c13 : x7_1 < (l1.length : Int)
       ·rw [if_pos c13] at H
        have c13b0 : decide (x7_1 < (l1.length : Int)) = true := decide_eq_true c13
        clear c13
        by_cases c14 : 0 ≤ x7_1
        ·rw [if_pos c14] at H
         have c14b0 : decide (0 ≤ x7_1) = true := decide_eq_true c14
         clear c14
         by_cases c15 : x5_1.length < 35184372088832
         ·rw [if_pos c15] at H
          have LMc15 := Aside0.mk c15
          clear c15
          obtain ⟨y278, hy278⟩ : ∃ y_ : List Int, y_ = (x5_1 ++ [(Int.tmod (IntKind.u64.wrap (x6_1 + (IntKind.u64.wrap (rd l1 x7_1)))) 4294967296) % 4294967296]) := ⟨_, rfl⟩
          replace H : (sibylref01_Plus.l0 kj2 l0 l1 y278 (IntKind.u64.wrap (Int.tdiv (IntKind.u64.wrap (x6_1 + (IntKind.u64.wrap (rd l1 x7_1)))) 4294967296)) (wrap64 (x7_1 + 1))) = some r := by rw [hy278]; exact H
          have Ny278 := Aside0.mk hy278
          clear hy278
          have H' := Aside0.mk H
          clear H
          have p277 : 0 ≤ (x7_1 : Int) := of_decide_eq_true (by first | (with_reducible assumption) | assumption)
          have q277 : x7_1 < (l1.length : Int) := of_decide_eq_true (by first | (with_reducible assumption) | assumption)
          obtain ⟨ad277, e277, hx277_0⟩ := Kd.at_int HR1.out x7_1 p277 q277
          cases e277
          replace hx277_0 := (HB.out.cell (World.block_lt_of_cell? w _ hx277_0)).trans hx277_0
          replace p277 := eq_true p277
          replace q277 := eq_true q277
          go_wp2_with (first | ((with_reducible refine gate_builtin (b := .append) (xs := #[.tmp 42, .tmp 46]) rfl ?_); (try (refine gate_guard (by rfl) ?_; dsimp only)); at_builtin; refine Kd.R_append (Kd.int .u32) (w0 := w) w.heap.size rfl (.tmp 42) (.tmp 46) 34 99 (.int .u32 0) 4 rfl Try.underlying34 info99 rfl (by decide) (by omega) u5 x5_1 ((Int.tmod (IntKind.u64.wrap (x6_1 + (IntKind.u64.wrap (rd l1 x7_1)))) 4294967296) % 4294967296) [.int .u32 ((Int.tmod (IntKind.u64.wrap (x6_1 + (IntKind.u64.wrap (rd l1 x7_1)))) 4294967296) % 4294967296)] (fun _ => True) (fun _ => False) rfl rfl ?aP (fun _ hk => hk.elim) ?aF ?aO ?aB ?aS ?aL ?_; (case aP => exact rfl); (case aB => exact (bl HB)); (case aF => exact (fun _ _ => trivial)); (case aO => exact (ra HO_5.out)); (case aS => exact (below_size (bl HB))); (case aL => have := LMc15.out; omega); intro v279 w16 ho hb hg hat; rw [← Ny278.out] at ho; have n_ := mk2 (hb) (ho); clear HB HO_5; obtain ⟨HB, HO280⟩ := n_; clear ho hb hg hat))
          go_roundg kj2
          case measure => have := HK1.out; have := HJ2.out; omega
          case rel => exact ⟨(y278), (IntKind.u64.wrap (Int.tdiv (IntKind.u64.wrap (x6_1 + (IntKind.u64.wrap (rd l1 x7_1)))) 4294967296)), (wrap64 (x7_1 + 1)), (by first | rfl | (simp; done) | (simp [*]; done)), (by first | rfl | (simp; done) | (simp [*]; done)), H', ⟨by have := HK1.out; have := HJ2.out; omega⟩, ⟨ra HO280.out⟩, ⟨bl HB⟩⟩
         ·rw [if_neg c15] at H
          exact absurd H (by simp)
        ·rw [if_neg c14] at H
         exact absurd H (by simp)
       ·rw [if_neg c13] at H
        have c13b0 : decide (x7_1 < (l1.length : Int)) = false := decide_eq_false c13
        clear c13
        by_cases c17 : x5_1.length < 35184372088832
        ·rw [if_pos c17] at H
         have LMc17 := Aside0.mk c17
         clear c17
         obtain ⟨y281, hy281⟩ : ∃ y_ : List Int, y_ = (x5_1 ++ [(Int.tmod x6_1 4294967296) % 4294967296]) := ⟨_, rfl⟩
         replace H : (sibylref01_Plus.l0 kj2 l0 l1 y281 (IntKind.u64.wrap (Int.tdiv x6_1 4294967296)) (wrap64 (x7_1 + 1))) = some r := by rw [hy281]; exact H
         have Ny281 := Aside0.mk hy281
         clear hy281
         have H' := Aside0.mk H
         clear H
         go_wp2_with (first | ((with_reducible refine gate_builtin (b := .append) (xs := #[.tmp 42, .tmp 46]) rfl ?_); (try (refine gate_guard (by rfl) ?_; dsimp only)); at_builtin; refine Kd.R_append (Kd.int .u32) (w0 := w) w.heap.size rfl (.tmp 42) (.tmp 46) 34 99 (.int .u32 0) 4 rfl Try.underlying34 info99 rfl (by decide) (by omega) u5 x5_1 ((Int.tmod x6_1 4294967296) % 4294967296) [.int .u32 ((Int.tmod x6_1 4294967296) % 4294967296)] (fun _ => True) (fun _ => False) rfl rfl ?aP (fun _ hk => hk.elim) ?aF ?aO ?aB ?aS ?aL ?_; (case aP => exact rfl); (case aB => exact (bl HB)); (case aF => exact (fun _ _ => trivial)); (case aO => exact (ra HO_5.out)); (case aS => exact (below_size (bl HB))); (case aL => have := LMc17.out; omega); intro v282 w18 ho hb hg hat; rw [← Ny281.out] at ho; have n_ := mk2 (hb) (ho); clear HB HO_5; obtain ⟨HB, HO283⟩ := n_; clear ho hb hg hat))
         go_roundg kj2
         case measure => have := HK1.out; have := HJ2.out; omega
         case rel => exact ⟨(y281), (IntKind.u64.wrap (Int.tdiv x6_1 4294967296)), (wrap64 (x7_1 + 1)), (by first | rfl | (simp; done) | (simp [*]; done)), (by first | rfl | (simp; done) | (simp [*]; done)), H', ⟨by have := HK1.out; have := HJ2.out; omega⟩, ⟨ra HO283.out⟩, ⟨bl HB⟩⟩
        ·rw [if_neg c17] at H
         exact absurd H (by simp)
     ·replace c5 := Bool.eq_false_iff.mpr c5
      subst c5
      have H1 : (if x5_1.length < 35184372088832 then ((sibylref01_Trim.f kj2 (x5_1 ++ [(x6_1) % 4294967296])).bind fun t266 => (some t266)) else (none)) = some r := by rw [if_neg (show ¬ (false = true) by decide)] at H; exact H
      clear H
      have H := H1
      clear H1
      by_cases c19 : x5_1.length < 35184372088832
      ·rw [if_pos c19] at H
       have LMc19 := Aside0.mk c19
       clear c19
       obtain ⟨y263, hy263⟩ : ∃ y_ : List Int, y_ = (x5_1 ++ [(x6_1) % 4294967296]) := ⟨_, rfl⟩
       replace H : ((sibylref01_Trim.f kj2 y263).bind fun t266 => (some t266)) = some r := by rw [hy263]; exact H
       have Ny263 := Aside0.mk hy263
       clear hy263
       obtain ⟨t266, A20, H⟩ := bindA H
       obtain rfl := Option.some.inj H
       go_wp2_with (first | ((with_reducible refine gate_builtin (b := .append) (xs := #[.tmp 50, .tmp 53]) rfl ?_); (try (refine gate_guard (by rfl) ?_; dsimp only)); at_builtin; refine Kd.R_append (Kd.int .u32) (w0 := w) w.heap.size rfl (.tmp 50) (.tmp 53) 34 99 (.int .u32 0) 4 rfl Try.underlying34 info99 rfl (by decide) (by omega) u5 x5_1 ((x6_1) % 4294967296) [.int .u32 ((x6_1) % 4294967296)] (fun _ => True) (fun _ => False) rfl rfl ?aP (fun _ hk => hk.elim) ?aF ?aO ?aB ?aS ?aL ?_; (case aP => exact rfl); (case aB => exact (bl HB)); (case aF => exact (fun _ _ => trivial)); (case aO => exact (ra HO_5.out)); (case aS => exact (below_size (bl HB))); (case aL => have := LMc19.out; omega); intro v264 w21 ho hb hg hat; rw [← Ny263.out] at ho; have n_ := mk2 (hb) (ho); clear HB HO_5; obtain ⟨HB, HO265⟩ := n_; clear ho hb hg hat; obtain ⟨Ao22, co22, eo22⟩ := Kd.R_slice HO265.out; subst eo22) | ((with_reducible refine gate_callee (f := 83) rfl ?_); refine goesM (some 56) rfl rfl Try.func83 (by kernel_rfl) rfl #[.slice Ao22 y263.length co22] rfl (by rfl) ?_; (with_reducible refine (sibylref01_Trim.calls kj2 _ _ y263 t266 _ ?side1 ?side2 A20.out).mono ?_); (case side1 => exact ca ((Kd.R_reads' HO265.out).2.2)); (case side2 => exact (Kd.R_reads' HO265.out).2.1); rintro e w23 ⟨v267, rfl, ho0, hb⟩; refine ⟨_, rfl, ?_⟩; have n_ := mk3 (Kd.R_elder' (ra HO265.out) (Kd.R_base ho0) hb) (Kd.R_lower (Kd.R_new' ho0 (Kd.R_lt (ra HO265.out))) (below_size (bl HB))) (below_step (bl HB) hb); clear HO265 HB; obtain ⟨HO265, HO268, HB⟩ := n_; (try clear hb); (try clear hb2); (try clear hk); (try clear hi); (try clear ho0)))
       go_ret
       exact ⟨_, by first | rfl | simp [*], ra (Kd.R_mono HO268.out (fun _ hk => trivial)), bl HB⟩
      ·rw [if_neg c19] at H
       exact absurd H (by simp)
def sibylref01_Shr.l0 : Nat → List Int → Int → List Int → Int → Option (List Int)
 | 0, _, _, _, _ => none
 | k + 1, x0, x1, x5, x6 => if x6 < (x0.length : Int) then (if 0 ≤ x6 then (if (wrap64 (x6 + 1)) < (x0.length : Int) then (if 0 ≤ (wrap64 (x6 + 1)) then (if 0 ≤ (IntKind.u64.wrap (Int.tmod x1 32)) then (if x5.length < 35184372088832 then (sibylref01_Shr.l0 k x0 x1 (x5 ++ [(Int.tmod (shr .u64 (IntKind.u64.wrap ((IntKind.u64.wrap (rd x0 x6)) + (IntKind.u64.wrap ((IntKind.u64.wrap (rd x0 (wrap64 (x6 + 1)))) * 4294967296)))) (IntKind.u64.wrap (Int.tmod x1 32))) 4294967296) % 4294967296]) (wrap64 (x6 + 1))) else (none)) else (none)) else (none)) else (if 0 ≤ (IntKind.u64.wrap (Int.tmod x1 32)) then (if x5.length < 35184372088832 then (sibylref01_Shr.l0 k x0 x1 (x5 ++ [(Int.tmod (shr .u64 (IntKind.u64.wrap (rd x0 x6)) (IntKind.u64.wrap (Int.tmod x1 32))) 4294967296) % 4294967296]) (wrap64 (x6 + 1))) else (none)) else (none))) else (none)) else ((sibylref01_Trim.f k x5).bind fun t292 => (some t292))
def sibylref01_Shr.f (k : Nat) (l0 : List Int) (a1 : Int) : Option (List Int) := sibylref01_Shr.l0 k l0 a1 ([] : List Int) (wrap64 (Int.tdiv a1 32))
set_option maxHeartbeats 8000000 in
set_option maxRecDepth 100000 in
theorem sibylref01_Shr.calls (k : Nat) (A0 : Option Addr) (c0 : Nat) (l0 : List Int) (a1 : Int) (r : List Int) (w : World) (hr0 : Kd.C (Kd.int .u32) w A0 l0.length l0) (hc0 : l0.length ≤ c0) (h : sibylref01_Shr.f k l0 a1 = some r) :
  Calls Try.prog 87 #[.slice A0 l0.length c0, .int .i64 a1] w fun e w' => ∃ v0_ : Value, e = .returned (v0_) ∧ Kd.R (Kd.int .u32) 99 w' w.heap.size (fun _ => True) v0_ r ∧ Below w.heap.size w w' := by
 have HR0 := Aside0.mk hr0
 have HC0 := Aside0.mk hc0
 clear hr0 hc0
 have HB := Aside0.mk (Below.refl w.heap.size w)
 have H : (sibylref01_Shr.l0 k l0 a1 ([] : List Int) (wrap64 (Int.tdiv a1 32))) = some r := h
 clear h
 have H' := Aside0.mk H
 clear H
 go_enter Try.func87, Try.ntmps87
 go_wp2
 go_loopg [5, 6] k (fun kq v5 v6 w' => ∃ (x5_1 : List Int) (x6_1 : Int), v6 = .int .i64 x6_1 ∧ Aside0 (sibylref01_Shr.l0 kq l0 a1 x5_1 x6_1 = some r) ∧ Aside0 (kq ≤ k) ∧ Aside0 (Kd.R (Kd.int .u32) 99 w' w.heap.size (fun _ => True) v5 x5_1) ∧ Aside0 (Below w.heap.size w w'))
 case atStart => exact ⟨(([] : List Int)), (wrap64 (Int.tdiv a1 32)), (by first | rfl | (simp; done) | (simp [*]; done)), H', ⟨Nat.le_refl _⟩, ⟨by first | exact Kd.R_nil _ _ _ _ _ | exact Kd.V_nil _ _ _ _ _⟩, ⟨bl HB⟩⟩
 case round =>
  clear H'
  try clear p2
  obtain ⟨x5_1, x6_1, rfl, HA, HK1, HO_5, HB⟩ := hrel
  cases gk with
  | zero => exact absurd HA.out (by simp [sibylref01_Shr.l0])
  | succ k1 =>
   have H := HA.out
   clear HA
   simp only [sibylref01_Shr.l0] at H
   by_cases c3 : x6_1 < (l0.length : Int)
   ·rw [if_pos c3] at H
    have c3b0 : decide (x6_1 < (l0.length : Int)) = true := decide_eq_true c3
    clear c3
    by_cases c4 : 0 ≤ x6_1
    ·rw [if_pos c4] at H
     have c4b0 : decide (0 ≤ x6_1) = true := decide_eq_true c4
     clear c4
     by_cases c5 : (wrap64 (x6_1 + 1)) < (l0.length : Int)
     ·rw [if_pos c5] at H
      have c5b0 : decide ((wrap64 (x6_1 + 1)) < (l0.length : Int)) = true := decide_eq_true c5
      clear c5
      obtain ⟨ji6, hji6⟩ : ∃ j_ : Int, (wrap64 (x6_1 + 1)) = j_ := ⟨_, rfl⟩
      replace H : (if 0 ≤ (ji6) then (if 0 ≤ (IntKind.u64.wrap (Int.tmod a1 32)) then (if x5_1.length < 35184372088832 then (sibylref01_Shr.l0 k1 l0 a1 (x5_1 ++ [(Int.tmod (shr .u64 (IntKind.u64.wrap ((IntKind.u64.wrap (rd l0 x6_1)) + (IntKind.u64.wrap ((IntKind.u64.wrap (rd l0 (ji6))) * 4294967296)))) (IntKind.u64.wrap (Int.tmod a1 32))) 4294967296) % 4294967296]) ji6) else (none)) else (none)) else (none)) = some r := by first | (rw [hji6] at H; exact H) | (simp only [hji6] at H ⊢; exact H)
      (try rw [hji6] at c5b0)
      have hji6w : (IntKind.i64.wrap (x6_1 + 1)) = ji6 := (i64_w _).trans hji6
      by_cases c7 : 0 ≤ (ji6)
      ·rw [if_pos c7] at H
       have c7b0 : decide (0 ≤ (ji6)) = true := decide_eq_true c7
       clear c7
       obtain ⟨ji8, hji8⟩ : ∃ j_ : Int, (IntKind.u64.wrap (Int.tmod a1 32)) = j_ := ⟨_, rfl⟩
       replace H : (if 0 ≤ (ji8) then (if x5_1.length < 35184372088832 then (sibylref01_Shr.l0 k1 l0 a1 (x5_1 ++ [(Int.tmod (shr .u64 (IntKind.u64.wrap ((IntKind.u64.wrap (rd l0 x6_1)) + (IntKind.u64.wrap ((IntKind.u64.wrap (rd l0 (ji6))) * 4294967296)))) (ji8)) 4294967296) % 4294967296]) ji6) else (none)) else (none)) = some r := by first | (rw [hji8] at H; exact H) | (simp only [hji8] at H ⊢; exact H)
       by_cases c9 : 0 ≤ (ji8)
       ·rw [if_pos c9] at H
        have c9b0 := eq_true c9
        have c9b1 : decide (0 ≤ (ji8)) = true := decide_eq_true c9
        clear c9
        obtain ⟨ji10, hji10⟩ : ∃ j_ : Int, (shr .u64 (IntKind.u64.wrap ((IntKind.u64.wrap (rd l0 x6_1)) + (IntKind.u64.wrap ((IntKind.u64.wrap (rd l0 (ji6))) * 4294967296)))) (ji8)) = j_ := ⟨_, rfl⟩
        replace H : (if x5_1.length < 35184372088832 then (sibylref01_Shr.l0 k1 l0 a1 (x5_1 ++ [(Int.tmod (ji10) 4294967296) % 4294967296]) ji6) else (none)) = some r := by first | (rw [hji10] at H; exact H) | (simp only [hji10] at H ⊢; exact H)
        have hji10_ : ((IntKind.u64.wrap ((IntKind.u64.wrap (rd l0 x6_1)) + (IntKind.u64.wrap ((IntKind.u64.wrap (rd l0 (ji6))) * 4294967296)))) / 2 ^ min (ji8).toNat 64) = ji10 := hji10
        have hji10z : (ji8) ≤ 64 → ((IntKind.u64.wrap ((IntKind.u64.wrap (rd l0 x6_1)) + (IntKind.u64.wrap ((IntKind.u64.wrap (rd l0 (ji6))) * 4294967296)))) / 2 ^ (ji8).toNat) = ji10 := shr_small hji10
        by_cases c11 : x5_1.length < 35184372088832
        ·rw [if_pos c11] at H
         have LMc11 := Aside0.mk c11
         clear c11
         obtain ⟨y286, hy286⟩ : ∃ y_ : List Int, y_ = (x5_1 ++ [(Int.tmod (ji10) 4294967296) % 4294967296]) := ⟨_, rfl⟩
         replace H : (sibylref01_Shr.l0 k1 l0 a1 y286 ji6) = some r := by rw [hy286]; exact H
         have Ny286 := Aside0.mk hy286
         clear hy286
         have H' := Aside0.mk H
         clear H
         have p284 : 0 ≤ (x6_1 : Int) := of_decide_eq_true (by first | (with_reducible assumption) | assumption)
         have q284 : x6_1 < (l0.length : Int) := of_decide_eq_true (by first | (with_reducible assumption) | assumption)
         obtain ⟨ad284, e284, hx284_0⟩ := Kd.at_int HR0.out x6_1 p284 q284
         cases e284
         replace hx284_0 := (HB.out.cell (World.block_lt_of_cell? w _ hx284_0)).trans hx284_0
         replace p284 := eq_true p284
         replace q284 := eq_true q284
         have p285 : 0 ≤ ((ji6) : Int) := of_decide_eq_true (by first | (with_reducible assumption) | assumption)
         have q285 : (ji6) < (l0.length : Int) := of_decide_eq_true (by first | (with_reducible assumption) | assumption)
         obtain ⟨ad285, e285, hx285_0⟩ := Kd.at_int HR0.out (ji6) p285 q285
         obtain rfl : ad284 = ad285 := (by injection e285)
         replace hx285_0 := (HB.out.cell (World.block_lt_of_cell? w _ hx285_0)).trans hx285_0
         replace p285 := eq_true p285
         replace q285 := eq_true q285
         go_wp2_with (first | ((with_reducible refine gate_builtin (b := .append) (xs := #[.tmp 35, .tmp 43]) rfl ?_); at_builtin; refine Kd.R_append (Kd.int .u32) (w0 := w) w.heap.size rfl (.tmp 35) (.tmp 43) 34 99 (.int .u32 0) 4 rfl Try.underlying34 info99 rfl (by decide) (by omega) u5 x5_1 ((Int.tmod (ji10) 4294967296) % 4294967296) [.int .u32 ((Int.tmod (ji10) 4294967296) % 4294967296)] (fun _ => True) (fun _ => False) rfl rfl ?aP (fun _ hk => hk.elim) ?aF ?aO ?aB ?aS ?aL ?_; (case aP => exact rfl); (case aB => exact (bl HB)); (case aF => exact (fun _ _ => trivial)); (case aO => exact (ra HO_5.out)); (case aS => exact (below_size (bl HB))); (case aL => have := LMc11.out; omega); intro v287 w12 ho hb hg hat; rw [← Ny286.out] at ho; have n_ := mk2 (hb) (ho); clear HB HO_5; obtain ⟨HB, HO288⟩ := n_; clear ho hb hg hat))
         go_roundg k1
         case measure => have := HK1.out; omega
         case rel => exact ⟨(y286), (ji6), (by first | rfl | (simp; done) | (simp only [← hji6] <;> (first | rfl | simp)) | (simp [*]; done)), H', ⟨by have := HK1.out; omega⟩, ⟨ra HO288.out⟩, ⟨bl HB⟩⟩
        ·rw [if_neg c11] at H
         exact absurd H (by simp)
       ·rw [if_neg c9] at H
        exact absurd H (by simp)
      ·rw [if_neg c7] at H
       exact absurd H (by simp)
     ·rw [if_neg c5] at H
      have c5b0 : decide ((wrap64 (x6_1 + 1)) < (l0.length : Int)) = false := decide_eq_false c5
      clear c5
      obtain ⟨ji13, hji13⟩ : ∃ j_ : Int, (IntKind.u64.wrap (Int.tmod a1 32)) = j_ := ⟨_, rfl⟩
      replace H : (if 0 ≤ (ji13) then (if x5_1.length < 35184372088832 then (sibylref01_Shr.l0 k1 l0 a1 (x5_1 ++ [(Int.tmod (shr .u64 (IntKind.u64.wrap (rd l0 x6_1)) (ji13)) 4294967296) % 4294967296]) (wrap64 (x6_1 + 1))) else (none)) else (none)) = some r := by first | (rw [hji13] at H; exact H) | (simp only [hji13] at H ⊢; exact H)
      by_cases c14 : 0 ≤ (ji13)
      ·rw [if_pos c14] at H
       have c14b0 := eq_true c14
       have c14b1 : decide (0 ≤ (ji13)) = true := decide_eq_true c14
       clear c14
       obtain ⟨ji15, hji15⟩ : ∃ j_ : Int, (shr .u64 (IntKind.u64.wrap (rd l0 x6_1)) (ji13)) = j_ := ⟨_, rfl⟩
       replace H : (if x5_1.length < 35184372088832 then (sibylref01_Shr.l0 k1 l0 a1 (x5_1 ++ [(Int.tmod (ji15) 4294967296) % 4294967296]) (wrap64 (x6_1 + 1))) else (none)) = some r := by first | (rw [hji15] at H; exact H) | (simp only [hji15] at H ⊢; exact H)
       have hji15_ : ((IntKind.u64.wrap (rd l0 x6_1)) / 2 ^ min (ji13).toNat 64) = ji15 := hji15
       have hji15z : (ji13) ≤ 64 → ((IntKind.u64.wrap (rd l0 x6_1)) / 2 ^ (ji13).toNat) = ji15 := shr_small hji15
       by_cases c16 : x5_1.length < 35184372088832
       ·rw [if_pos c16] at H
        have LMc16 := Aside0.mk c16
        clear c16
        obtain ⟨y289, hy289⟩ : ∃ y_ : List Int, y_ = (x5_1 ++ [(Int.tmod (ji15) 4294967296) % 4294967296]) := ⟨_, rfl⟩
        replace H : (sibylref01_Shr.l0 k1 l0 a1 y289 (wrap64 (x6_1 + 1))) = some r := by rw [hy289]; exact H
        have Ny289 := Aside0.mk hy289
        clear hy289
        have H' := Aside0.mk H
        clear H
        have p284 : 0 ≤ (x6_1 : Int) := of_decide_eq_true (by first | (with_reducible assumption) | assumption)
        have q284 : x6_1 < (l0.length : Int) := of_decide_eq_true (by first | (with_reducible assumption) | assumption)
        obtain ⟨ad284, e284, hx284_0⟩ := Kd.at_int HR0.out x6_1 p284 q284
        cases e284
        replace hx284_0 := (HB.out.cell (World.block_lt_of_cell? w _ hx284_0)).trans hx284_0
        replace p284 := eq_true p284
        replace q284 := eq_true q284
        go_wp2_with (first | ((with_reducible refine gate_builtin (b := .append) (xs := #[.tmp 35, .tmp 43]) rfl ?_); at_builtin; refine Kd.R_append (Kd.int .u32) (w0 := w) w.heap.size rfl (.tmp 35) (.tmp 43) 34 99 (.int .u32 0) 4 rfl Try.underlying34 info99 rfl (by decide) (by omega) u5 x5_1 ((Int.tmod (ji15) 4294967296) % 4294967296) [.int .u32 ((Int.tmod (ji15) 4294967296) % 4294967296)] (fun _ => True) (fun _ => False) rfl rfl ?aP (fun _ hk => hk.elim) ?aF ?aO ?aB ?aS ?aL ?_; (case aP => exact rfl); (case aB => exact (bl HB)); (case aF => exact (fun _ _ => trivial)); (case aO => exact (ra HO_5.out)); (case aS => exact (below_size (bl HB))); (case aL => have := LMc16.out; omega); intro v290 w17 ho hb hg hat; rw [← Ny289.out] at ho; have n_ := mk2 (hb) (ho); clear HB HO_5; obtain ⟨HB, HO291⟩ := n_; clear ho hb hg hat))
        go_roundg k1
        case measure => have := HK1.out; omega
        case rel => exact ⟨(y289), (wrap64 (x6_1 + 1)), (by first | rfl | (simp; done) | (simp [*]; done)), H', ⟨by have := HK1.out; omega⟩, ⟨ra HO291.out⟩, ⟨bl HB⟩⟩
       ·rw [if_neg c16] at H
        exact absurd H (by simp)
      ·rw [if_neg c14] at H
       exact absurd H (by simp)
    ·rw [if_neg c4] at H
     exact absurd H (by simp)
   ·rw [if_neg c3] at H
    have c3b0 : decide (x6_1 < (l0.length : Int)) = false := decide_eq_false c3
    clear c3
    obtain ⟨t292, A18, H⟩ := bindA H
    obtain rfl := Option.some.inj H
    obtain ⟨Ao19, co19, eo19⟩ := Kd.R_slice HO_5.out
    subst eo19
    go_wp2_with (first | ((with_reducible refine gate_callee (f := 83) rfl ?_); refine goesM (some 46) rfl rfl Try.func83 (by kernel_rfl) rfl #[.slice Ao19 x5_1.length co19] rfl (by rfl) ?_; (with_reducible refine (sibylref01_Trim.calls k1 _ _ x5_1 t292 _ ?side1 ?side2 A18.out).mono ?_); (case side1 => exact ca ((Kd.R_reads' HO_5.out).2.2)); (case side2 => exact (Kd.R_reads' HO_5.out).2.1); rintro e w20 ⟨v293, rfl, ho0, hb⟩; refine ⟨_, rfl, ?_⟩; have n_ := mk3 (Kd.R_elder' (ra HO_5.out) (Kd.R_base ho0) hb) (Kd.R_lower (Kd.R_new' ho0 (Kd.R_lt (ra HO_5.out))) (below_size (bl HB))) (below_step (bl HB) hb); clear HO_5 HB; obtain ⟨HO_5, HO294, HB⟩ := n_; (try clear hb); (try clear hb2); (try clear hk); (try clear hi); (try clear ho0)))
    go_ret
    exact ⟨_, by first | rfl | simp [*], ra (Kd.R_mono HO294.out (fun _ hk => trivial)), bl HB⟩
def sibylref01_Bit.f (l0 : List Int) (a1 : Int) : Option (Bool) := if a1 < 0 then (some false) else (if (wrap64 (Int.tdiv a1 32)) ≥ (l0.length : Int) then (some false) else (if 0 ≤ (wrap64 (Int.tdiv a1 32)) then (if (wrap64 (Int.tdiv a1 32)) < (l0.length : Int) then (if 0 ≤ (IntKind.u64.wrap (Int.tmod a1 32)) then (some ((Int.tmod (shr .u32 (rd l0 (wrap64 (Int.tdiv a1 32))) (IntKind.u64.wrap (Int.tmod a1 32))) 2) == 1)) else (none)) else (none)) else (none)))
set_option maxHeartbeats 8000000 in
set_option maxRecDepth 100000 in
theorem sibylref01_Bit.calls (A0 : Option Addr) (c0 : Nat) (l0 : List Int) (a1 : Int) (r : Bool) (w : World) (hr0 : Kd.C (Kd.int .u32) w A0 l0.length l0) (hc0 : l0.length ≤ c0) (h : sibylref01_Bit.f l0 a1 = some r) :
  Calls Try.prog 95 #[.slice A0 l0.length c0, .int .i64 a1] w fun e w' => e = .returned (.bool r) ∧ Drawn0 w w' := by
 have HR0 := Aside0.mk hr0
 have HC0 := Aside0.mk hc0
 clear hr0 hc0
 have H : (if a1 < 0 then (some false) else (if (wrap64 (Int.tdiv a1 32)) ≥ (l0.length : Int) then (some false) else (if 0 ≤ (wrap64 (Int.tdiv a1 32)) then (if (wrap64 (Int.tdiv a1 32)) < (l0.length : Int) then (if 0 ≤ (IntKind.u64.wrap (Int.tmod a1 32)) then (some ((Int.tmod (shr .u32 (rd l0 (wrap64 (Int.tdiv a1 32))) (IntKind.u64.wrap (Int.tmod a1 32))) 2) == 1)) else (none)) else (none)) else (none)))) = some r := h
 clear h
 by_cases c3 : a1 < 0
 ·rw [if_pos c3] at H
  have c3b0 : decide (a1 < 0) = true := decide_eq_true c3
  clear c3
  obtain rfl := Option.some.inj H
  go_enter Try.func95, Try.ntmps95
  go_wp2
  go_ret
  exact ⟨by first | rfl | (simp; done) | (simp [*]; done), by repeat (first | exact Drawn0.refl _ | apply Drawn0.step)⟩
 ·rw [if_neg c3] at H
  have c3b0 : decide (a1 < 0) = false := decide_eq_false c3
  clear c3
  by_cases c4 : (wrap64 (Int.tdiv a1 32)) ≥ (l0.length : Int)
  ·rw [if_pos c4] at H
   have c4b0 : decide ((l0.length : Int) ≤ (wrap64 (Int.tdiv a1 32))) = true := decide_eq_true c4
   clear c4
   obtain rfl := Option.some.inj H
   go_enter Try.func95, Try.ntmps95
   go_wp2
   go_ret
   exact ⟨by first | rfl | (simp; done) | (simp [*]; done), by repeat (first | exact Drawn0.refl _ | apply Drawn0.step)⟩
  ·rw [if_neg c4] at H
   have c4b0 : decide ((l0.length : Int) ≤ (wrap64 (Int.tdiv a1 32))) = false := decide_eq_false c4
   clear c4
   obtain ⟨ji5, hji5⟩ : ∃ j_ : Int, (wrap64 (Int.tdiv a1 32)) = j_ := ⟨_, rfl⟩
   replace H : (if 0 ≤ (ji5) then (if (ji5) < (l0.length : Int) then (if 0 ≤ (IntKind.u64.wrap (Int.tmod a1 32)) then (some ((Int.tmod (shr .u32 (rd l0 (ji5)) (IntKind.u64.wrap (Int.tmod a1 32))) 2) == 1)) else (none)) else (none)) else (none)) = some r := by first | (rw [hji5] at H; exact H) | (simp only [hji5] at H ⊢; exact H)
   (try rw [hji5] at c4b0)
   have hji5w : (IntKind.i64.wrap (Int.tdiv a1 32)) = ji5 := (i64_w _).trans hji5
   by_cases c6 : 0 ≤ (ji5)
   ·rw [if_pos c6] at H
    have c6b0 : decide (0 ≤ (ji5)) = true := decide_eq_true c6
    clear c6
    by_cases c7 : (ji5) < (l0.length : Int)
    ·rw [if_pos c7] at H
     have c7b0 : decide ((ji5) < (l0.length : Int)) = true := decide_eq_true c7
     clear c7
     obtain ⟨ji8, hji8⟩ : ∃ j_ : Int, (IntKind.u64.wrap (Int.tmod a1 32)) = j_ := ⟨_, rfl⟩
     replace H : (if 0 ≤ (ji8) then (some ((Int.tmod (shr .u32 (rd l0 (ji5)) (ji8)) 2) == 1)) else (none)) = some r := by first | (rw [hji8] at H; exact H) | (simp only [hji8] at H ⊢; exact H)
     by_cases c9 : 0 ≤ (ji8)
     ·rw [if_pos c9] at H
      have c9b0 := eq_true c9
      have c9b1 : decide (0 ≤ (ji8)) = true := decide_eq_true c9
      clear c9
      obtain ⟨ji10, hji10⟩ : ∃ j_ : Int, (shr .u32 (rd l0 (ji5)) (ji8)) = j_ := ⟨_, rfl⟩
      replace H : (some ((Int.tmod (ji10) 2) == 1)) = some r := by first | (rw [hji10] at H; exact H) | (simp only [hji10] at H ⊢; exact H)
      have hji10_ : ((rd l0 (ji5)) / 2 ^ min (ji8).toNat 32) = ji10 := hji10
      have hji10z : (ji8) ≤ 32 → ((rd l0 (ji5)) / 2 ^ (ji8).toNat) = ji10 := shr_small hji10
      obtain rfl := Option.some.inj H
      have p295 : 0 ≤ ((ji5) : Int) := of_decide_eq_true (by first | (with_reducible assumption) | assumption)
      have q295 : (ji5) < (l0.length : Int) := of_decide_eq_true (by first | (with_reducible assumption) | assumption)
      obtain ⟨ad295, e295, hx295_0⟩ := Kd.at_int HR0.out (ji5) p295 q295
      cases e295
      replace p295 := eq_true p295
      replace q295 := eq_true q295
      go_enter Try.func95, Try.ntmps95
      go_wp2
      go_ret
      exact ⟨by first | rfl | (simp; done) | (simp only [← hji5, ← hji8, ← hji10] <;> (first | rfl | simp)) | (simp [*]; done), by repeat (first | exact Drawn0.refl _ | apply Drawn0.step)⟩
     ·rw [if_neg c9] at H
      exact absurd H (by simp)
    ·rw [if_neg c7] at H
     exact absurd H (by simp)
   ·rw [if_neg c6] at H
    exact absurd H (by simp)
end Go.Proofs.Ytjppanekddljbaa.Pr
/- What the kit's print wrote for these functions, taken together by wip/pick.py: each function's Lean function and that the Go code comes to it. -/
namespace Go.Proofs.Ytjppanekddljbaa.Pr
open Go.RowKit Go.Proofs.YtjppanekddljbaaW.PrintWords Go.Proofs.YtjppanekddljbaaW.PrintLast Go.Proofs.YtjppanekddljbaaW.PrintMore
attribute [local go_sem] max2_int min2_int max_two min_two max_three min_three max_four min_four
def sibylref03_Size.f (a0 : Int) : Option (Int) := some (Int.tmod a0 9223372036854775808)
set_option maxHeartbeats 8000000 in
set_option maxRecDepth 100000 in
theorem sibylref03_Size.calls (a0 : Int) (r : Int) (w : World) (h : sibylref03_Size.f a0 = some r) :
  Calls Try.prog 49 #[.int .u64 a0] w fun e w' => e = .returned (.int .u64 r) ∧ Drawn0 w w' := by
 have H : (some (Int.tmod a0 9223372036854775808)) = some r := h
 clear h
 obtain rfl := Option.some.inj H
 go_enter Try.func49, Try.ntmps49
 go_wp2
 go_ret
 exact ⟨by first | rfl | (simp; done) | (simp [*]; done), by repeat (first | exact Drawn0.refl _ | apply Drawn0.step)⟩
def sibylref03_IsNaN.f (a0 : Int) : Option (Bool) := (sibylref03_Size.f a0).bind fun t394 => (some (decide (t394 > 9218868437227405312)))
set_option maxHeartbeats 8000000 in
set_option maxRecDepth 100000 in
theorem sibylref03_IsNaN.calls (a0 : Int) (r : Bool) (w : World) (h : sibylref03_IsNaN.f a0 = some r) :
  Calls Try.prog 22 #[.int .u64 a0] w fun e w' => e = .returned (.bool r) ∧ Drawn0 w w' := by
 have H : ((sibylref03_Size.f a0).bind fun t394 => (some (decide (t394 > 9218868437227405312)))) = some r := h
 clear h
 obtain ⟨t394, A2, H⟩ := bindA H
 obtain rfl := Option.some.inj H
 go_enter Try.func22, Try.ntmps22
 go_wp2_with (first | ((with_reducible refine gate_callee (f := 49) rfl ?_); refine goesM (some 4) rfl rfl Try.func49 (by kernel_rfl) rfl #[.int .u64 a0] rfl (by rfl) ?_; (with_reducible refine (sibylref03_Size.calls a0 t394 _ A2.out).mono ?_); rintro e w' ⟨rfl, ⟨nd, rfl⟩⟩; refine ⟨_, rfl, ?_⟩))
 go_ret
 exact ⟨by first | rfl | (simp; done) | (simp [*]; done), by repeat (first | exact Drawn0.refl _ | apply Drawn0.step)⟩
mutual
def sibylref03_Parts.j0 : Nat → Int → Int → Int → Option (Bool × Int × Int × Int)
 | 0, _, _, _ => none
 | k + 1, x0, x7, x8 => sibylref03_Parts.l0 k x0 x7 (wrap64 (x8 - 1075))
def sibylref03_Parts.l0 : Nat → Int → Int → Int → Option (Bool × Int × Int × Int)
 | 0, _, _, _ => none
 | k + 1, x0, x7, x8 => if (Int.tmod x7 2) = 0 then (sibylref03_Parts.l0 k x0 (IntKind.u64.wrap (Int.tdiv x7 2)) (wrap64 (x8 + 1))) else (some (decide (x0 ≥ 9223372036854775808), x7, x8, 0))
end
def sibylref03_Parts.f (k : Nat) (a0 : Int) : Option (Bool × Int × Int × Int) := (sibylref03_Size.f a0).bind fun t395 => (if t395 ≥ 9218868437227405312 then (some (false, 0, 0, 30)) else (if t395 = 0 then (some (decide (a0 ≥ 9223372036854775808), 0, 0, 0)) else (if (wrap64 (t395 / 4503599627370496)) = 0 then (sibylref03_Parts.j0 k a0 (Int.tmod t395 4503599627370496) 1) else (sibylref03_Parts.j0 k a0 (IntKind.u64.wrap ((Int.tmod t395 4503599627370496) + 4503599627370496)) (wrap64 (t395 / 4503599627370496))))))
set_option maxHeartbeats 8000000 in
set_option maxRecDepth 100000 in
theorem sibylref03_Parts.calls (k : Nat) (a0 : Int) (r1 : Bool) (r2 : Int) (r3 : Int) (r4 : Int) (w : World) (h : sibylref03_Parts.f k a0 = some (r1, r2, r3, r4)) :
  Calls Try.prog 60 #[.int .u64 a0] w fun e w' => e = .returned (.tuple #[.bool r1, .int .u64 r2, .int .i64 r3, .int .i64 r4]) ∧ Drawn0 w w' := by
 have H : ((sibylref03_Size.f a0).bind fun t395 => (if t395 ≥ 9218868437227405312 then (some (false, 0, 0, 30)) else (if t395 = 0 then (some (decide (a0 ≥ 9223372036854775808), 0, 0, 0)) else (if (wrap64 (t395 / 4503599627370496)) = 0 then (sibylref03_Parts.j0 k a0 (Int.tmod t395 4503599627370496) 1) else (sibylref03_Parts.j0 k a0 (IntKind.u64.wrap ((Int.tmod t395 4503599627370496) + 4503599627370496)) (wrap64 (t395 / 4503599627370496))))))) = some (r1, r2, r3, r4) := h
 clear h
 obtain ⟨t395, A2, H⟩ := bindA H
 by_cases c3 : t395 ≥ 9218868437227405312
 ·rw [if_pos c3] at H
  have c3b0 : decide (9218868437227405312 ≤ t395) = true := decide_eq_true c3
  clear c3
  simp only [Option.some.injEq, Prod.mk.injEq] at H
  obtain ⟨rfl, rfl, rfl, rfl⟩ := H
  go_enter Try.func60, Try.ntmps60
  go_wp2_with (first | ((with_reducible refine gate_callee (f := 49) rfl ?_); refine goesM (some 10) rfl rfl Try.func49 (by kernel_rfl) rfl #[.int .u64 a0] rfl (by rfl) ?_; (with_reducible refine (sibylref03_Size.calls a0 t395 _ A2.out).mono ?_); rintro e w' ⟨rfl, ⟨nd, rfl⟩⟩; refine ⟨_, rfl, ?_⟩))
  refine bodyPost_ret (results_list (rs := [.tmp 2, .tmp 3, .tmp 4, .tmp 5]) rfl (by simp) (.tmp (.tmp (.tmp (.tmp .nil))))) rfl ?_
  exact ⟨by first | rfl | (simp; done) | (simp [*]; done), by repeat (first | exact Drawn0.refl _ | apply Drawn0.step)⟩
 ·rw [if_neg c3] at H
  have c3b0 : decide (9218868437227405312 ≤ t395) = false := decide_eq_false c3
  clear c3
  by_cases c4 : t395 = 0
  ·rw [if_pos c4] at H
   have c4b0 : (t395 == 0) = true := beq_iff_eq.mpr c4
   have c4b1 : (t395 != 0) = false := bne_eq_false_iff_eq.mpr c4
   clear c4
   simp only [Option.some.injEq, Prod.mk.injEq] at H
   obtain ⟨rfl, rfl, rfl, rfl⟩ := H
   go_enter Try.func60, Try.ntmps60
   go_wp2_with (first | ((with_reducible refine gate_callee (f := 49) rfl ?_); refine goesM (some 10) rfl rfl Try.func49 (by kernel_rfl) rfl #[.int .u64 a0] rfl (by rfl) ?_; (with_reducible refine (sibylref03_Size.calls a0 t395 _ A2.out).mono ?_); rintro e w' ⟨rfl, ⟨nd, rfl⟩⟩; refine ⟨_, rfl, ?_⟩))
   refine bodyPost_ret (results_list (rs := [.tmp 2, .tmp 3, .tmp 4, .tmp 5]) rfl (by simp) (.tmp (.tmp (.tmp (.tmp .nil))))) rfl ?_
   exact ⟨by first | rfl | (simp; done) | (simp [*]; done), by repeat (first | exact Drawn0.refl _ | apply Drawn0.step)⟩
  ·rw [if_neg c4] at H
   have c4b0 : (t395 == 0) = false := beq_eq_false_iff_ne.mpr c4
   have c4b1 : (t395 != 0) = true := bne_iff_ne.mpr c4
   have HC5 := Aside0.mk H
   clear H
   go_enter Try.func60, Try.ntmps60
   go_upto_if 23 with (first | ((with_reducible refine gate_callee (f := 49) rfl ?_); refine goesM (some 10) rfl rfl Try.func49 (by kernel_rfl) rfl #[.int .u64 a0] rfl (by rfl) ?_; (with_reducible refine (sibylref03_Size.calls a0 t395 _ A2.out).mono ?_); rintro e w' ⟨rfl, ⟨nd, rfl⟩⟩; refine ⟨_, rfl, ?_⟩))
   (try simp only [Act.put, List.setIfInBounds_toArray, List.set_cons_zero, List.set_cons_succ])
   go_cut [7, 8] (fun v7 v8 wc => ∃ (kq : Nat) (x7_4 : Int) (x8_4 : Int), v7 = .int .u64 x7_4 ∧ v8 = .int .i64 x8_4 ∧ Aside0 (sibylref03_Parts.j0 kq a0 x7_4 x8_4 = some (r1, r2, r3, r4)) ∧ Aside0 (kq ≤ k) ∧ Drawn0 w wc)
   case first =>
    have H := HC5.out
    clear HC5
    by_cases c6 : (wrap64 (t395 / 4503599627370496)) = 0
    ·rw [if_pos c6] at H
     have c6b0 : ((wrap64 (t395 / 4503599627370496)) == 0) = true := beq_iff_eq.mpr c6
     have c6b1 : ((wrap64 (t395 / 4503599627370496)) != 0) = false := bne_eq_false_iff_eq.mpr c6
     clear c6
     (first | rw [c6b0] | (simp only [i64_w, i32_w]; rw [c6b0]) | skip)
     have H' := Aside0.mk H
     clear H
     go_wp2
     go_meet
     case rel => exact ⟨_, (Int.tmod t395 4503599627370496), (1), (by first | rfl | (simp; done) | (simp [*]; done)), (by first | rfl | (simp; done) | (simp [*]; done)), H', ⟨by first | omega | exact Nat.le_refl _⟩, by repeat (first | exact Drawn0.refl _ | apply Drawn0.step)⟩
    ·rw [if_neg c6] at H
     have c6b0 : ((wrap64 (t395 / 4503599627370496)) == 0) = false := beq_eq_false_iff_ne.mpr c6
     have c6b1 : ((wrap64 (t395 / 4503599627370496)) != 0) = true := bne_iff_ne.mpr c6
     (first | rw [c6b0] | (simp only [i64_w, i32_w]; rw [c6b0]) | skip)
     have H' := Aside0.mk H
     clear H
     go_wp2
     go_meet
     case rel => exact ⟨_, (IntKind.u64.wrap ((Int.tmod t395 4503599627370496) + 4503599627370496)), (wrap64 (t395 / 4503599627370496)), (by first | rfl | (simp; done) | (simp [*]; done)), (by first | rfl | (simp; done) | (simp [*]; done)), H', ⟨by first | omega | exact Nat.le_refl _⟩, by repeat (first | exact Drawn0.refl _ | apply Drawn0.step)⟩
   case rest =>
    clear HC5
    try clear p2
    try clear c3
    try clear c3b0
    try clear c4
    try clear c4b0
    try clear c4b1
    try clear c6
    try clear c6b0
    try clear c6b1
    try clear p6
    obtain ⟨kq, x7_4, x8_4, rfl, rfl, HA, HJ4, ⟨mc4, rfl⟩⟩ := hcut
    cases kq with
    | zero => exact absurd HA.out (by simp [sibylref03_Parts.j0])
    | succ kj4 =>
     have H := HA.out
     clear HA
     simp only [sibylref03_Parts.j0] at H
     have H' := Aside0.mk H
     clear H
     go_wp2
     go_loopg [7, 8] kj4 (fun kq v7 v8 w' => ∃ (x7_2 : Int) (x8_2 : Int), v7 = .int .u64 x7_2 ∧ v8 = .int .i64 x8_2 ∧ Aside0 (sibylref03_Parts.l0 kq a0 x7_2 x8_2 = some (r1, r2, r3, r4)) ∧ Aside0 (kq ≤ kj4) ∧ Drawn0 w w')
     case atStart => exact ⟨(x7_4), (wrap64 (x8_4 - 1075)), (by first | rfl | (simp; done) | (simp [*]; done)), (by first | rfl | (simp; done) | (simp [*]; done)), H', ⟨Nat.le_refl _⟩, by repeat (first | exact Drawn0.refl _ | apply Drawn0.step)⟩
     case round =>
      clear H'
      try clear p2
      try clear c3
      try clear c3b0
      try clear c4
      try clear c4b0
      try clear c4b1
      try clear c6
      try clear c6b0
      try clear c6b1
      try clear p6
      try clear p2
      try clear p6
      obtain ⟨x7_2, x8_2, rfl, rfl, HA, HK2, ⟨m2, rfl⟩⟩ := hrel
      cases gk with
      | zero => exact absurd HA.out (by simp [sibylref03_Parts.l0])
      | succ k2 =>
       have H := HA.out
       clear HA
       simp only [sibylref03_Parts.l0] at H
       by_cases c7 : (Int.tmod x7_2 2) = 0
       ·rw [if_pos c7] at H
        have c7b0 : ((Int.tmod x7_2 2) == 0) = true := beq_iff_eq.mpr c7
        have c7b1 : ((Int.tmod x7_2 2) != 0) = false := bne_eq_false_iff_eq.mpr c7
        clear c7
        have H' := Aside0.mk H
        clear H
        go_wp2
        go_roundg k2
        case measure => have := HJ4.out; have := HK2.out; omega
        case rel => exact ⟨(IntKind.u64.wrap (Int.tdiv x7_2 2)), (wrap64 (x8_2 + 1)), (by first | rfl | (simp; done) | (simp [*]; done)), (by first | rfl | (simp; done) | (simp [*]; done)), H', ⟨by have := HJ4.out; have := HK2.out; omega⟩, by repeat (first | exact Drawn0.refl _ | apply Drawn0.step)⟩
       ·rw [if_neg c7] at H
        have c7b0 : ((Int.tmod x7_2 2) == 0) = false := beq_eq_false_iff_ne.mpr c7
        have c7b1 : ((Int.tmod x7_2 2) != 0) = true := bne_iff_ne.mpr c7
        simp only [Option.some.injEq, Prod.mk.injEq] at H
        obtain ⟨rfl, rfl, rfl, rfl⟩ := H
        go_wp2
        refine bodyPost_ret (results_list (rs := [.tmp 2, .tmp 3, .tmp 4, .tmp 5]) rfl (by simp) (.tmp (.tmp (.tmp (.tmp .nil))))) rfl ?_
        exact ⟨by first | rfl | (simp; done) | (simp [*]; done), by repeat (first | exact Drawn0.refl _ | apply Drawn0.step)⟩
def sibylref03_length.l0 : Nat → Int → Int → Option (Int)
 | 0, _, _ => none
 | k + 1, x0, x3 => if x0 > 0 then (sibylref03_length.l0 k (IntKind.u64.wrap (Int.tdiv x0 2)) (wrap64 (x3 + 1))) else (some x3)
def sibylref03_length.f (k : Nat) (a0 : Int) : Option (Int) := sibylref03_length.l0 k a0 0
set_option maxHeartbeats 8000000 in
set_option maxRecDepth 100000 in
theorem sibylref03_length.calls (k : Nat) (a0 : Int) (r : Int) (w : World) (h : sibylref03_length.f k a0 = some r) :
  Calls Try.prog 85 #[.int .u64 a0] w fun e w' => e = .returned (.int .i64 r) ∧ Drawn0 w w' := by
 have H : (sibylref03_length.l0 k a0 0) = some r := h
 clear h
 have H' := Aside0.mk H
 clear H
 go_enter Try.func85, Try.ntmps85
 go_wp2
 go_loopg [0, 3] k (fun kq v0 v3 w' => ∃ (x0_1 : Int) (x3_1 : Int), v0 = .int .u64 x0_1 ∧ v3 = .int .i64 x3_1 ∧ Aside0 (sibylref03_length.l0 kq x0_1 x3_1 = some r) ∧ Aside0 (kq ≤ k) ∧ Drawn0 w w')
 case atStart => exact ⟨(a0), (0), (by first | rfl | (simp; done) | (simp [*]; done)), (by first | rfl | (simp; done) | (simp [*]; done)), H', ⟨Nat.le_refl _⟩, by repeat (first | exact Drawn0.refl _ | apply Drawn0.step)⟩
 case round =>
  clear H'
  obtain ⟨x0_1, x3_1, rfl, rfl, HA, HK1, ⟨m1, rfl⟩⟩ := hrel
  cases gk with
  | zero => exact absurd HA.out (by simp [sibylref03_length.l0])
  | succ k1 =>
   have H := HA.out
   clear HA
   simp only [sibylref03_length.l0] at H
   by_cases c2 : x0_1 > 0
   ·rw [if_pos c2] at H
    have c2b0 : decide (0 < x0_1) = true := decide_eq_true c2
    clear c2
    have H' := Aside0.mk H
    clear H
    go_wp2
    go_roundg k1
    case measure => have := HK1.out; omega
    case rel => exact ⟨(IntKind.u64.wrap (Int.tdiv x0_1 2)), (wrap64 (x3_1 + 1)), (by first | rfl | (simp; done) | (simp [*]; done)), (by first | rfl | (simp; done) | (simp [*]; done)), H', ⟨by have := HK1.out; omega⟩, by repeat (first | exact Drawn0.refl _ | apply Drawn0.step)⟩
   ·rw [if_neg c2] at H
    have c2b0 : decide (0 < x0_1) = false := decide_eq_false c2
    clear c2
    obtain rfl := Option.some.inj H
    go_wp2
    go_ret
    exact ⟨by first | rfl | (simp; done) | (simp [*]; done), by repeat (first | exact Drawn0.refl _ | apply Drawn0.step)⟩
mutual
def sibylref03_Join.j0 : Nat → Int → Int → Int → Option (Int)
 | 0, _, _, _ => none
 | k + 1, x1, x2, x7 => if x1 = 0 then (sibylref03_Join.j1 k x1 x2 x7 true) else (sibylref03_Join.j1 k x1 x2 x7 (decide (x2 < (-3000))))
def sibylref03_Join.j1 : Nat → Int → Int → Int → Bool → Option (Int)
 | 0, _, _, _, _ => none
 | k + 1, x1, x2, x7, x19 => if x19 = true then (some x7) else (if x2 > 3000 then (some (IntKind.u64.wrap (x7 + 9218868437227405312))) else ((sibylref03_length.f k x1).bind fun t392 => (if (wrap64 ((wrap64 (x2 + t392)) - 53)) < (-1074) then (sibylref03_Join.j2 k x1 x2 x7 (-1074)) else (sibylref03_Join.j2 k x1 x2 x7 (wrap64 ((wrap64 (x2 + t392)) - 53))))))
def sibylref03_Join.j2 : Nat → Int → Int → Int → Int → Option (Int)
 | 0, _, _, _, _ => none
 | k + 1, x1, x2, x7, x8 => sibylref03_Join.l0 k x1 x2 x7 x8 x1
def sibylref03_Join.l0 : Nat → Int → Int → Int → Int → Int → Option (Int)
 | 0, _, _, _, _, _ => none
 | k + 1, x1, x2, x7, x8, x9 => if x2 > x8 then (sibylref03_Join.l0 k x1 (wrap64 (x2 - 1)) x7 x8 (IntKind.u64.wrap (x9 * 2))) else (if x2 < x8 then (if (wrap64 (x8 - x2)) > 64 then (some x7) else (if 0 ≤ (IntKind.u64.wrap (wrap64 ((wrap64 (x8 - x2)) - 1))) then (if (wrap64 (x8 - x2)) < 64 then (if 0 ≤ (IntKind.u64.wrap (wrap64 (x8 - x2))) then (if (IntKind.u64.wrap (x1 - (shl .u64 (shr .u64 x1 (IntKind.u64.wrap (wrap64 (x8 - x2)))) (IntKind.u64.wrap (wrap64 (x8 - x2)))))) > (shl .u64 1 (IntKind.u64.wrap (wrap64 ((wrap64 (x8 - x2)) - 1)))) then (sibylref03_Join.j4 k x7 x8 (IntKind.u64.wrap ((shr .u64 x1 (IntKind.u64.wrap (wrap64 (x8 - x2)))) + 1))) else (if (IntKind.u64.wrap (x1 - (shl .u64 (shr .u64 x1 (IntKind.u64.wrap (wrap64 (x8 - x2)))) (IntKind.u64.wrap (wrap64 (x8 - x2)))))) = (shl .u64 1 (IntKind.u64.wrap (wrap64 ((wrap64 (x8 - x2)) - 1)))) then (if (Int.tmod (shr .u64 x1 (IntKind.u64.wrap (wrap64 (x8 - x2)))) 2) = 1 then (sibylref03_Join.j4 k x7 x8 (IntKind.u64.wrap ((shr .u64 x1 (IntKind.u64.wrap (wrap64 (x8 - x2)))) + 1))) else (sibylref03_Join.j4 k x7 x8 (shr .u64 x1 (IntKind.u64.wrap (wrap64 (x8 - x2)))))) else (sibylref03_Join.j4 k x7 x8 (shr .u64 x1 (IntKind.u64.wrap (wrap64 (x8 - x2))))))) else (none)) else (if x1 > (shl .u64 1 (IntKind.u64.wrap (wrap64 ((wrap64 (x8 - x2)) - 1)))) then (sibylref03_Join.j4 k x7 x8 (0 + 1)) else (if x1 = (shl .u64 1 (IntKind.u64.wrap (wrap64 ((wrap64 (x8 - x2)) - 1)))) then (if ((0 : Int) % 2) = 1 then (sibylref03_Join.j4 k x7 x8 (0 + 1)) else (sibylref03_Join.j4 k x7 x8 0)) else (sibylref03_Join.j4 k x7 x8 0)))) else (none))) else (sibylref03_Join.j4 k x7 x8 x9))
def sibylref03_Join.j4 : Nat → Int → Int → Int → Option (Int)
 | 0, _, _, _ => none
 | k + 1, x7, x8, x9 => if x9 = 9007199254740992 then (sibylref03_Join.j5 k x7 (wrap64 (x8 + 1)) 4503599627370496) else (sibylref03_Join.j5 k x7 x8 x9)
def sibylref03_Join.j5 : Nat → Int → Int → Int → Option (Int)
 | 0, _, _, _ => none
 | k + 1, x7, x8, x9 => if x9 < 4503599627370496 then (some (IntKind.u64.wrap (x7 + x9))) else (if (wrap64 (x8 + 1075)) > 2046 then (some (IntKind.u64.wrap (x7 + 9218868437227405312))) else (some (IntKind.u64.wrap ((IntKind.u64.wrap ((IntKind.u64.wrap (x7 + (IntKind.u64.wrap ((IntKind.u64.wrap (wrap64 (x8 + 1075))) * 4503599627370496)))) + x9)) - 4503599627370496))))
end
def sibylref03_Join.f (k : Nat) (a0 : Bool) (a1 : Int) (a2 : Int) : Option (Int) := if a0 = true then (sibylref03_Join.j0 k a1 a2 9223372036854775808) else (sibylref03_Join.j0 k a1 a2 0)
set_option maxHeartbeats 8000000 in
set_option maxRecDepth 100000 in
theorem sibylref03_Join.calls (k : Nat) (a0 : Bool) (a1 : Int) (a2 : Int) (r : Int) (w : World) (h : sibylref03_Join.f k a0 a1 a2 = some r) :
  Calls Try.prog 59 #[.bool a0, .int .u64 a1, .int .i64 a2] w fun e w' => e = .returned (.int .u64 r) ∧ Drawn0 w w' := by
 have H : (if a0 = true then (sibylref03_Join.j0 k a1 a2 9223372036854775808) else (sibylref03_Join.j0 k a1 a2 0)) = some r := h
 clear h
 have HC4 := Aside0.mk H
 clear H
 go_enter Try.func59, Try.ntmps59
 go_upto_if 13 with (fail)
 go_cut [7] (fun v7 wc => ∃ (kq : Nat) (x7_3 : Int), v7 = .int .u64 x7_3 ∧ Aside0 (sibylref03_Join.j0 kq a1 a2 x7_3 = some r) ∧ Aside0 (kq ≤ k) ∧ Drawn0 w wc)
 case first =>
  have H := HC4.out
  clear HC4
  by_cases c5 : a0 = true
  ·subst c5
   have H1 : (sibylref03_Join.j0 k a1 a2 9223372036854775808) = some r := by rw [if_pos rfl] at H; exact H
   clear H
   have H := H1
   clear H1
   have H' := Aside0.mk H
   clear H
   go_wp2
   go_meet
   case rel => exact ⟨_, (9223372036854775808), (by first | rfl | (simp; done) | (simp [*]; done)), H', ⟨by first | omega | exact Nat.le_refl _⟩, by repeat (first | exact Drawn0.refl _ | apply Drawn0.step)⟩
  ·replace c5 := Bool.eq_false_iff.mpr c5
   subst c5
   have H1 : (sibylref03_Join.j0 k a1 a2 0) = some r := by rw [if_neg (show ¬ (false = true) by decide)] at H; exact H
   clear H
   have H := H1
   clear H1
   have H' := Aside0.mk H
   clear H
   go_wp2
   go_meet
   case rel => exact ⟨_, (0), (by first | rfl | (simp; done) | (simp [*]; done)), H', ⟨by first | omega | exact Nat.le_refl _⟩, by repeat (first | exact Drawn0.refl _ | apply Drawn0.step)⟩
 case rest =>
  clear HC4
  try clear p2
  try clear c5
  obtain ⟨kq, x7_3, rfl, HA, HJ3, ⟨mc3, rfl⟩⟩ := hcut
  cases kq with
  | zero => exact absurd HA.out (by simp [sibylref03_Join.j0])
  | succ kj3 =>
   have H := HA.out
   clear HA
   simp only [sibylref03_Join.j0] at H
   have HC6 := Aside0.mk H
   clear H
   go_upto_region 4 with (fail)
   go_cut [19] (fun v19 wc => ∃ (kq : Nat) (x19_5 : Bool), v19 = .bool x19_5 ∧ Aside0 (sibylref03_Join.j1 kq a1 a2 x7_3 x19_5 = some r) ∧ Aside0 (kq ≤ kj3) ∧ Drawn0 w wc)
   case first =>
    have H := HC6.out
    clear HC6
    by_cases c7 : a1 = 0
    ·rw [if_pos c7] at H
     have c7b0 : (a1 == 0) = true := beq_iff_eq.mpr c7
     have c7b1 : (a1 != 0) = false := bne_eq_false_iff_eq.mpr c7
     clear c7
     (first | rw [c7b0] | (simp only [i64_w, i32_w]; rw [c7b0]) | skip)
     have H' := Aside0.mk H
     clear H
     go_wp2
     go_meet
     case rel => exact ⟨_, (true), (by first | rfl | (simp; done) | (simp [*]; done)), H', ⟨by have := HJ3.out; first | omega | exact Nat.le_refl _⟩, by repeat (first | exact Drawn0.refl _ | apply Drawn0.step)⟩
    ·rw [if_neg c7] at H
     have c7b0 : (a1 == 0) = false := beq_eq_false_iff_ne.mpr c7
     have c7b1 : (a1 != 0) = true := bne_iff_ne.mpr c7
     (first | rw [c7b0] | (simp only [i64_w, i32_w]; rw [c7b0]) | skip)
     have H' := Aside0.mk H
     clear H
     go_wp2
     go_meet
     case rel => exact ⟨_, (decide (a2 < (-3000))), (by first | rfl | (simp; done) | (simp [*]; done)), H', ⟨by have := HJ3.out; first | omega | exact Nat.le_refl _⟩, by repeat (first | exact Drawn0.refl _ | apply Drawn0.step)⟩
   case rest =>
    clear HC6
    try clear p2
    try clear c3
    try clear c5
    try clear c7
    try clear c7b0
    try clear c7b1
    try clear p2
    obtain ⟨kq, x19_5, rfl, HA, HJ5, ⟨mc5, rfl⟩⟩ := hcut
    cases kq with
    | zero => exact absurd HA.out (by simp [sibylref03_Join.j1])
    | succ kj5 =>
     have H := HA.out
     clear HA
     simp only [sibylref03_Join.j1] at H
     by_cases c8 : x19_5 = true
     ·subst c8
      have H1 : (some x7_3) = some r := by rw [if_pos rfl] at H; exact H
      clear H
      have H := H1
      clear H1
      obtain rfl := Option.some.inj H
      go_wp2
      go_ret
      exact ⟨by first | rfl | (simp; done) | (simp [*]; done), by repeat (first | exact Drawn0.refl _ | apply Drawn0.step)⟩
     ·replace c8 := Bool.eq_false_iff.mpr c8
      subst c8
      have H1 : (if a2 > 3000 then (some (IntKind.u64.wrap (x7_3 + 9218868437227405312))) else ((sibylref03_length.f kj5 a1).bind fun t392 => (if (wrap64 ((wrap64 (a2 + t392)) - 53)) < (-1074) then (sibylref03_Join.j2 kj5 a1 a2 x7_3 (-1074)) else (sibylref03_Join.j2 kj5 a1 a2 x7_3 (wrap64 ((wrap64 (a2 + t392)) - 53)))))) = some r := by rw [if_neg (show ¬ (false = true) by decide)] at H; exact H
      clear H
      have H := H1
      clear H1
      by_cases c9 : a2 > 3000
      ·rw [if_pos c9] at H
       have c9b0 : decide (3000 < a2) = true := decide_eq_true c9
       clear c9
       obtain rfl := Option.some.inj H
       go_wp2
       go_ret
       exact ⟨by first | rfl | (simp; done) | (simp [*]; done), by repeat (first | exact Drawn0.refl _ | apply Drawn0.step)⟩
      ·rw [if_neg c9] at H
       have c9b0 : decide (3000 < a2) = false := decide_eq_false c9
       clear c9
       obtain ⟨t392, A10, H⟩ := bindA H
       have HC11 := Aside0.mk H
       clear H
       go_upto_if 31 with (first | ((with_reducible refine gate_callee (f := 85) rfl ?_); refine goesM (some 27) rfl rfl Try.func85 (by kernel_rfl) rfl #[.int .u64 a1] rfl (by rfl) ?_; (with_reducible refine (sibylref03_length.calls kj5 a1 t392 _ A10.out).mono ?_); rintro e w' ⟨rfl, ⟨nd, rfl⟩⟩; refine ⟨_, rfl, ?_⟩))
       (try simp only [Act.put, List.setIfInBounds_toArray, List.set_cons_zero, List.set_cons_succ])
       go_cut [8] (fun v8 wc => ∃ (kq : Nat) (x8_10 : Int), v8 = .int .i64 x8_10 ∧ Aside0 (sibylref03_Join.j2 kq a1 a2 x7_3 x8_10 = some r) ∧ Aside0 (kq ≤ kj5) ∧ Drawn0 w wc)
       case first =>
        have H := HC11.out
        clear HC11
        by_cases c12 : (wrap64 ((wrap64 (a2 + t392)) - 53)) < (-1074)
        ·rw [if_pos c12] at H
         have c12b0 : decide ((wrap64 ((wrap64 (a2 + t392)) - 53)) < (-1074)) = true := decide_eq_true c12
         clear c12
         (first | rw [c12b0] | (simp only [i64_w, i32_w]; rw [c12b0]) | skip)
         have H' := Aside0.mk H
         clear H
         go_wp2
         go_meet
         case rel => exact ⟨_, ((-1074)), (by first | rfl | (simp; done) | (simp [*]; done)), H', ⟨by have := HJ3.out; have := HJ5.out; first | omega | exact Nat.le_refl _⟩, by repeat (first | exact Drawn0.refl _ | apply Drawn0.step)⟩
        ·rw [if_neg c12] at H
         have c12b0 : decide ((wrap64 ((wrap64 (a2 + t392)) - 53)) < (-1074)) = false := decide_eq_false c12
         clear c12
         (first | rw [c12b0] | (simp only [i64_w, i32_w]; rw [c12b0]) | skip)
         have H' := Aside0.mk H
         clear H
         go_wp2
         go_meet
         case rel => exact ⟨_, (wrap64 ((wrap64 (a2 + t392)) - 53)), (by first | rfl | (simp; done) | (simp [*]; done)), H', ⟨by have := HJ3.out; have := HJ5.out; first | omega | exact Nat.le_refl _⟩, by repeat (first | exact Drawn0.refl _ | apply Drawn0.step)⟩
       case rest =>
        clear HC11
        try clear c1
        try clear p2
        try clear c3
        try clear c5
        try clear p6
        try clear c7
        try clear c7b0
        try clear c7b1
        try clear c8
        try clear c9
        try clear c9b0
        try clear c12
        try clear c12b0
        try clear p2
        obtain ⟨kq, x8_10, rfl, HA, HJ10, ⟨mc10, rfl⟩⟩ := hcut
        cases kq with
        | zero => exact absurd HA.out (by simp [sibylref03_Join.j2])
        | succ kj10 =>
         have H := HA.out
         clear HA
         simp only [sibylref03_Join.j2] at H
         have H' := Aside0.mk H
         clear H
         go_wp2
         go_loopg [2, 9] kj10 (fun kq v2 v9 w' => ∃ (x2_4 : Int) (x9_4 : Int), v2 = .int .i64 x2_4 ∧ v9 = .int .u64 x9_4 ∧ Aside0 (sibylref03_Join.l0 kq a1 x2_4 x7_3 x8_10 x9_4 = some r) ∧ Aside0 (kq ≤ kj10) ∧ Drawn0 w w')
         case atStart => exact ⟨(a2), (a1), (by first | rfl | (simp; done) | (simp [*]; done)), (by first | rfl | (simp; done) | (simp [*]; done)), H', ⟨Nat.le_refl _⟩, by repeat (first | exact Drawn0.refl _ | apply Drawn0.step)⟩
         case round =>
          clear H'
          try clear c1
          try clear p2
          try clear c3
          try clear c5
          try clear p6
          try clear c7
          try clear c7b0
          try clear c7b1
          try clear c8
          try clear c9
          try clear c9b0
          try clear c10
          try clear c12
          try clear c12b0
          try clear p2
          try clear p6
          obtain ⟨x2_4, x9_4, rfl, rfl, HA, HK4, ⟨m4, rfl⟩⟩ := hrel
          cases gk with
          | zero => exact absurd HA.out (by simp [sibylref03_Join.l0])
          | succ k4 =>
           have H := HA.out
           clear HA
           simp only [sibylref03_Join.l0] at H
           by_cases c13 : x2_4 > x8_10
           ·rw [if_pos c13] at H
            have c13b0 : decide (x8_10 < x2_4) = true := decide_eq_true c13
            clear c13
            have H' := Aside0.mk H
            clear H
            go_wp2
            go_roundg k4
            case measure => have := HJ3.out; have := HJ5.out; have := HJ10.out; have := HK4.out; omega
            case rel => exact ⟨(wrap64 (x2_4 - 1)), (IntKind.u64.wrap (x9_4 * 2)), (by first | rfl | (simp; done) | (simp [*]; done)), (by first | rfl | (simp; done) | (simp [*]; done)), H', ⟨by have := HJ3.out; have := HJ5.out; have := HJ10.out; have := HK4.out; omega⟩, by repeat (first | exact Drawn0.refl _ | apply Drawn0.step)⟩
           ·rw [if_neg c13] at H
            have c13b0 : decide (x8_10 < x2_4) = false := decide_eq_false c13
            clear c13
            have HC14 := Aside0.mk H
            clear H
            go_upto_if 42 with (fail)
            go_cut [9] (fun v9 wc => ∃ (kq : Nat) (x9_13 : Int), v9 = .int .u64 x9_13 ∧ Aside0 (sibylref03_Join.j4 kq x7_3 x8_10 x9_13 = some r) ∧ Aside0 (kq ≤ k4) ∧ Drawn0 w wc)
            case first =>
             have H := HC14.out
             clear HC14
             by_cases c15 : x2_4 < x8_10
             ·rw [if_pos c15] at H
              have c15b0 : decide (x2_4 < x8_10) = true := decide_eq_true c15
              clear c15
              (first | rw [c15b0] | (simp only [i64_w, i32_w]; rw [c15b0]) | skip)
              by_cases c16 : (wrap64 (x8_10 - x2_4)) > 64
              ·rw [if_pos c16] at H
               have c16b0 : decide (64 < (wrap64 (x8_10 - x2_4))) = true := decide_eq_true c16
               clear c16
               obtain rfl := Option.some.inj H
               go_wp2
               go_ret
               exact ⟨by first | rfl | (simp; done) | (simp [*]; done), by repeat (first | exact Drawn0.refl _ | apply Drawn0.step)⟩
              ·rw [if_neg c16] at H
               have c16b0 : decide (64 < (wrap64 (x8_10 - x2_4))) = false := decide_eq_false c16
               clear c16
               obtain ⟨ji17, hji17⟩ : ∃ j_ : Int, (IntKind.u64.wrap (wrap64 ((wrap64 (x8_10 - x2_4)) - 1))) = j_ := ⟨_, rfl⟩
               replace H : (if 0 ≤ (ji17) then (if (wrap64 (x8_10 - x2_4)) < 64 then (if 0 ≤ (IntKind.u64.wrap (wrap64 (x8_10 - x2_4))) then (if (IntKind.u64.wrap (a1 - (shl .u64 (shr .u64 a1 (IntKind.u64.wrap (wrap64 (x8_10 - x2_4)))) (IntKind.u64.wrap (wrap64 (x8_10 - x2_4)))))) > (shl .u64 1 (ji17)) then (sibylref03_Join.j4 k4 x7_3 x8_10 (IntKind.u64.wrap ((shr .u64 a1 (IntKind.u64.wrap (wrap64 (x8_10 - x2_4)))) + 1))) else (if (IntKind.u64.wrap (a1 - (shl .u64 (shr .u64 a1 (IntKind.u64.wrap (wrap64 (x8_10 - x2_4)))) (IntKind.u64.wrap (wrap64 (x8_10 - x2_4)))))) = (shl .u64 1 (ji17)) then (if (Int.tmod (shr .u64 a1 (IntKind.u64.wrap (wrap64 (x8_10 - x2_4)))) 2) = 1 then (sibylref03_Join.j4 k4 x7_3 x8_10 (IntKind.u64.wrap ((shr .u64 a1 (IntKind.u64.wrap (wrap64 (x8_10 - x2_4)))) + 1))) else (sibylref03_Join.j4 k4 x7_3 x8_10 (shr .u64 a1 (IntKind.u64.wrap (wrap64 (x8_10 - x2_4)))))) else (sibylref03_Join.j4 k4 x7_3 x8_10 (shr .u64 a1 (IntKind.u64.wrap (wrap64 (x8_10 - x2_4))))))) else (none)) else (if a1 > (shl .u64 1 (ji17)) then (sibylref03_Join.j4 k4 x7_3 x8_10 (0 + 1)) else (if a1 = (shl .u64 1 (ji17)) then (if ((0 : Int) % 2) = 1 then (sibylref03_Join.j4 k4 x7_3 x8_10 (0 + 1)) else (sibylref03_Join.j4 k4 x7_3 x8_10 0)) else (sibylref03_Join.j4 k4 x7_3 x8_10 0)))) else (none)) = some r := by first | (rw [hji17] at H; exact H) | (simp only [hji17] at H ⊢; exact H)
               by_cases c18 : 0 ≤ (ji17)
               ·rw [if_pos c18] at H
                have c18b0 := eq_true c18
                have c18b1 : decide (0 ≤ (ji17)) = true := decide_eq_true c18
                clear c18
                obtain ⟨ji19, hji19⟩ : ∃ j_ : Int, (shl .u64 1 (ji17)) = j_ := ⟨_, rfl⟩
                replace H : (if (wrap64 (x8_10 - x2_4)) < 64 then (if 0 ≤ (IntKind.u64.wrap (wrap64 (x8_10 - x2_4))) then (if (IntKind.u64.wrap (a1 - (shl .u64 (shr .u64 a1 (IntKind.u64.wrap (wrap64 (x8_10 - x2_4)))) (IntKind.u64.wrap (wrap64 (x8_10 - x2_4)))))) > (ji19) then (sibylref03_Join.j4 k4 x7_3 x8_10 (IntKind.u64.wrap ((shr .u64 a1 (IntKind.u64.wrap (wrap64 (x8_10 - x2_4)))) + 1))) else (if (IntKind.u64.wrap (a1 - (shl .u64 (shr .u64 a1 (IntKind.u64.wrap (wrap64 (x8_10 - x2_4)))) (IntKind.u64.wrap (wrap64 (x8_10 - x2_4)))))) = (ji19) then (if (Int.tmod (shr .u64 a1 (IntKind.u64.wrap (wrap64 (x8_10 - x2_4)))) 2) = 1 then (sibylref03_Join.j4 k4 x7_3 x8_10 (IntKind.u64.wrap ((shr .u64 a1 (IntKind.u64.wrap (wrap64 (x8_10 - x2_4)))) + 1))) else (sibylref03_Join.j4 k4 x7_3 x8_10 (shr .u64 a1 (IntKind.u64.wrap (wrap64 (x8_10 - x2_4)))))) else (sibylref03_Join.j4 k4 x7_3 x8_10 (shr .u64 a1 (IntKind.u64.wrap (wrap64 (x8_10 - x2_4))))))) else (none)) else (if a1 > (ji19) then (sibylref03_Join.j4 k4 x7_3 x8_10 (0 + 1)) else (if a1 = (ji19) then (if ((0 : Int) % 2) = 1 then (sibylref03_Join.j4 k4 x7_3 x8_10 (0 + 1)) else (sibylref03_Join.j4 k4 x7_3 x8_10 0)) else (sibylref03_Join.j4 k4 x7_3 x8_10 0)))) = some r := by first | (rw [hji19] at H; exact H) | (simp only [hji19] at H ⊢; exact H)
                have hji19_ : (IntKind.u64.wrap (1 * 2 ^ min (ji17).toNat 64)) = ji19 := hji19
                have hji19z : (ji17) ≤ 64 → (IntKind.u64.wrap (1 * 2 ^ (ji17).toNat)) = ji19 := shl_small hji19
                have hji19u : (IntKind.u64.wrap (2 ^ min (ji17).toNat 64)) = ji19 := by have h_ := hji19_; rw [Int.one_mul] at h_; exact h_
                have hji19v : (ji17) ≤ 64 → (IntKind.u64.wrap (2 ^ (ji17).toNat)) = ji19 := fun hle_ => by have h_ := hji19z hle_; rw [Int.one_mul] at h_; exact h_
                by_cases c20 : (wrap64 (x8_10 - x2_4)) < 64
                ·rw [if_pos c20] at H
                 have c20b0 : decide ((wrap64 (x8_10 - x2_4)) < 64) = true := decide_eq_true c20
                 clear c20
                 obtain ⟨ji21, hji21⟩ : ∃ j_ : Int, (IntKind.u64.wrap (wrap64 (x8_10 - x2_4))) = j_ := ⟨_, rfl⟩
                 replace H : (if 0 ≤ (ji21) then (if (IntKind.u64.wrap (a1 - (shl .u64 (shr .u64 a1 (ji21)) (ji21)))) > (ji19) then (sibylref03_Join.j4 k4 x7_3 x8_10 (IntKind.u64.wrap ((shr .u64 a1 (ji21)) + 1))) else (if (IntKind.u64.wrap (a1 - (shl .u64 (shr .u64 a1 (ji21)) (ji21)))) = (ji19) then (if (Int.tmod (shr .u64 a1 (ji21)) 2) = 1 then (sibylref03_Join.j4 k4 x7_3 x8_10 (IntKind.u64.wrap ((shr .u64 a1 (ji21)) + 1))) else (sibylref03_Join.j4 k4 x7_3 x8_10 (shr .u64 a1 (ji21)))) else (sibylref03_Join.j4 k4 x7_3 x8_10 (shr .u64 a1 (ji21))))) else (none)) = some r := by first | (rw [hji21] at H; exact H) | (simp only [hji21] at H ⊢; exact H)
                 by_cases c22 : 0 ≤ (ji21)
                 ·rw [if_pos c22] at H
                  have c22b0 := eq_true c22
                  have c22b1 : decide (0 ≤ (ji21)) = true := decide_eq_true c22
                  clear c22
                  obtain ⟨ji23, hji23⟩ : ∃ j_ : Int, (shr .u64 a1 (ji21)) = j_ := ⟨_, rfl⟩
                  replace H : (if (IntKind.u64.wrap (a1 - (shl .u64 (ji23) (ji21)))) > (ji19) then (sibylref03_Join.j4 k4 x7_3 x8_10 (IntKind.u64.wrap ((ji23) + 1))) else (if (IntKind.u64.wrap (a1 - (shl .u64 (ji23) (ji21)))) = (ji19) then (if (Int.tmod (ji23) 2) = 1 then (sibylref03_Join.j4 k4 x7_3 x8_10 (IntKind.u64.wrap ((ji23) + 1))) else (sibylref03_Join.j4 k4 x7_3 x8_10 ji23)) else (sibylref03_Join.j4 k4 x7_3 x8_10 ji23))) = some r := by first | (rw [hji23] at H; exact H) | (simp only [hji23] at H ⊢; exact H)
                  have hji23_ : (a1 / 2 ^ min (ji21).toNat 64) = ji23 := hji23
                  have hji23z : (ji21) ≤ 64 → (a1 / 2 ^ (ji21).toNat) = ji23 := shr_small hji23
                  have c24b0 := eq_true (of_decide_eq_true (by first | (with_reducible assumption) | assumption) : 0 ≤ (ji21))
                  obtain ⟨ji25, hji25⟩ : ∃ j_ : Int, (shl .u64 (ji23) (ji21)) = j_ := ⟨_, rfl⟩
                  replace H : (if (IntKind.u64.wrap (a1 - (ji25))) > (ji19) then (sibylref03_Join.j4 k4 x7_3 x8_10 (IntKind.u64.wrap ((ji23) + 1))) else (if (IntKind.u64.wrap (a1 - (ji25))) = (ji19) then (if (Int.tmod (ji23) 2) = 1 then (sibylref03_Join.j4 k4 x7_3 x8_10 (IntKind.u64.wrap ((ji23) + 1))) else (sibylref03_Join.j4 k4 x7_3 x8_10 ji23)) else (sibylref03_Join.j4 k4 x7_3 x8_10 ji23))) = some r := by first | (rw [hji25] at H; exact H) | (simp only [hji25] at H ⊢; exact H)
                  have hji25_ : (IntKind.u64.wrap ((ji23) * 2 ^ min (ji21).toNat 64)) = ji25 := hji25
                  have hji25z : (ji21) ≤ 64 → (IntKind.u64.wrap ((ji23) * 2 ^ (ji21).toNat)) = ji25 := shl_small hji25
                  by_cases c26 : (IntKind.u64.wrap (a1 - (ji25))) > (ji19)
                  ·rw [if_pos c26] at H
                   have c26b0 : decide ((ji19) < (IntKind.u64.wrap (a1 - (ji25)))) = true := decide_eq_true c26
                   clear c26
                   have H' := Aside0.mk H
                   clear H
                   go_wp2
                   go_meet
                   case rel => exact ⟨_, (IntKind.u64.wrap ((ji23) + 1)), (by first | rfl | (simp; done) | (simp only [← hji23] <;> (first | rfl | simp)) | (simp [*]; done)), H', ⟨by have := HJ3.out; have := HJ5.out; have := HJ10.out; have := HK4.out; first | omega | exact Nat.le_refl _⟩, by repeat (first | exact Drawn0.refl _ | apply Drawn0.step)⟩
                  ·rw [if_neg c26] at H
                   have c26b0 : decide ((ji19) < (IntKind.u64.wrap (a1 - (ji25)))) = false := decide_eq_false c26
                   clear c26
                   by_cases c27 : (IntKind.u64.wrap (a1 - (ji25))) = (ji19)
                   ·rw [if_pos c27] at H
                    have c27b0 : ((IntKind.u64.wrap (a1 - (ji25))) == (ji19)) = true := beq_iff_eq.mpr c27
                    have c27b1 : ((IntKind.u64.wrap (a1 - (ji25))) != (ji19)) = false := bne_eq_false_iff_eq.mpr c27
                    clear c27
                    by_cases c28 : (Int.tmod (ji23) 2) = 1
                    ·rw [if_pos c28] at H
                     have c28b0 : ((Int.tmod (ji23) 2) == 1) = true := beq_iff_eq.mpr c28
                     have c28b1 : ((Int.tmod (ji23) 2) != 1) = false := bne_eq_false_iff_eq.mpr c28
                     clear c28
                     have H' := Aside0.mk H
                     clear H
                     go_wp2
                     go_meet
                     case rel => exact ⟨_, (IntKind.u64.wrap ((ji23) + 1)), (by first | rfl | (simp; done) | (simp only [← hji23] <;> (first | rfl | simp)) | (simp [*]; done)), H', ⟨by have := HJ3.out; have := HJ5.out; have := HJ10.out; have := HK4.out; first | omega | exact Nat.le_refl _⟩, by repeat (first | exact Drawn0.refl _ | apply Drawn0.step)⟩
                    ·rw [if_neg c28] at H
                     have c28b0 : ((Int.tmod (ji23) 2) == 1) = false := beq_eq_false_iff_ne.mpr c28
                     have c28b1 : ((Int.tmod (ji23) 2) != 1) = true := bne_iff_ne.mpr c28
                     have H' := Aside0.mk H
                     clear H
                     go_wp2
                     go_meet
                     case rel => exact ⟨_, (ji23), (by first | rfl | (simp; done) | (simp only [← hji23] <;> (first | rfl | simp)) | (simp [*]; done)), H', ⟨by have := HJ3.out; have := HJ5.out; have := HJ10.out; have := HK4.out; first | omega | exact Nat.le_refl _⟩, by repeat (first | exact Drawn0.refl _ | apply Drawn0.step)⟩
                   ·rw [if_neg c27] at H
                    have c27b0 : ((IntKind.u64.wrap (a1 - (ji25))) == (ji19)) = false := beq_eq_false_iff_ne.mpr c27
                    have c27b1 : ((IntKind.u64.wrap (a1 - (ji25))) != (ji19)) = true := bne_iff_ne.mpr c27
                    have H' := Aside0.mk H
                    clear H
                    go_wp2
                    go_meet
                    case rel => exact ⟨_, (ji23), (by first | rfl | (simp; done) | (simp only [← hji23] <;> (first | rfl | simp)) | (simp [*]; done)), H', ⟨by have := HJ3.out; have := HJ5.out; have := HJ10.out; have := HK4.out; first | omega | exact Nat.le_refl _⟩, by repeat (first | exact Drawn0.refl _ | apply Drawn0.step)⟩
                 ·rw [if_neg c22] at H
                  exact absurd H (by simp)
                ·rw [if_neg c20] at H
                 have c20b0 : decide ((wrap64 (x8_10 - x2_4)) < 64) = false := decide_eq_false c20
                 clear c20
                 by_cases c29 : a1 > (ji19)
                 ·rw [if_pos c29] at H
                  have c29b0 : decide ((ji19) < a1) = true := decide_eq_true c29
                  clear c29
                  have H' := Aside0.mk H
                  clear H
                  go_wp2
                  go_meet
                  case rel => exact ⟨_, (0 + 1), (by first | rfl | (simp; done) | (simp [*]; done)), H', ⟨by have := HJ3.out; have := HJ5.out; have := HJ10.out; have := HK4.out; first | omega | exact Nat.le_refl _⟩, by repeat (first | exact Drawn0.refl _ | apply Drawn0.step)⟩
                 ·rw [if_neg c29] at H
                  have c29b0 : decide ((ji19) < a1) = false := decide_eq_false c29
                  clear c29
                  by_cases c30 : a1 = (ji19)
                  ·rw [if_pos c30] at H
                   have c30b0 : (a1 == (ji19)) = true := beq_iff_eq.mpr c30
                   have c30b1 : (a1 != (ji19)) = false := bne_eq_false_iff_eq.mpr c30
                   clear c30
                   by_cases c31 : ((0 : Int) % 2) = 1
                   ·exact absurd c31 (by decide)
                   ·rw [if_neg c31] at H
                    have c31b0 : (((0 : Int) % 2) == 1) = false := beq_eq_false_iff_ne.mpr c31
                    have c31b1 : (((0 : Int) % 2) != 1) = true := bne_iff_ne.mpr c31
                    have H' := Aside0.mk H
                    clear H
                    go_wp2
                    go_meet
                    case rel => exact ⟨_, (0), (by first | rfl | (simp; done) | (simp [*]; done)), H', ⟨by have := HJ3.out; have := HJ5.out; have := HJ10.out; have := HK4.out; first | omega | exact Nat.le_refl _⟩, by repeat (first | exact Drawn0.refl _ | apply Drawn0.step)⟩
                  ·rw [if_neg c30] at H
                   have c30b0 : (a1 == (ji19)) = false := beq_eq_false_iff_ne.mpr c30
                   have c30b1 : (a1 != (ji19)) = true := bne_iff_ne.mpr c30
                   have H' := Aside0.mk H
                   clear H
                   go_wp2
                   go_meet
                   case rel => exact ⟨_, (0), (by first | rfl | (simp; done) | (simp [*]; done)), H', ⟨by have := HJ3.out; have := HJ5.out; have := HJ10.out; have := HK4.out; first | omega | exact Nat.le_refl _⟩, by repeat (first | exact Drawn0.refl _ | apply Drawn0.step)⟩
               ·rw [if_neg c18] at H
                exact absurd H (by simp)
             ·rw [if_neg c15] at H
              have c15b0 : decide (x2_4 < x8_10) = false := decide_eq_false c15
              clear c15
              (first | rw [c15b0] | (simp only [i64_w, i32_w]; rw [c15b0]) | skip)
              have H' := Aside0.mk H
              clear H
              go_wp2
              go_meet
              case rel => exact ⟨_, (x9_4), (by first | rfl | (simp; done) | (simp [*]; done)), H', ⟨by have := HJ3.out; have := HJ5.out; have := HJ10.out; have := HK4.out; first | omega | exact Nat.le_refl _⟩, by repeat (first | exact Drawn0.refl _ | apply Drawn0.step)⟩
            case rest =>
             clear HC14
             try clear c1
             try clear c2
             try clear p2
             try clear c3
             try clear c5
             try clear p6
             try clear c7
             try clear c7b0
             try clear c7b1
             try clear c8
             try clear c9
             try clear c9b0
             try clear c10
             try clear c12
             try clear c12b0
             try clear c13
             try clear c13b0
             try clear c15
             try clear c15b0
             try clear c16
             try clear c16b0
             try clear c18
             try clear c18b0
             try clear c18b1
             try clear c20
             try clear c20b0
             try clear c22
             try clear c22b0
             try clear c22b1
             try clear c24
             try clear c24b0
             try clear c26
             try clear c26b0
             try clear c27
             try clear c27b0
             try clear c27b1
             try clear c28
             try clear c28b0
             try clear c28b1
             try clear c29
             try clear c29b0
             try clear c30
             try clear c30b0
             try clear c30b1
             try clear c31
             try clear c31b0
             try clear c31b1
             try clear p2
             try clear p6
             obtain ⟨kq, x9_13, rfl, HA, HJ13, ⟨mc13, rfl⟩⟩ := hcut
             cases kq with
             | zero => exact absurd HA.out (by simp [sibylref03_Join.j4])
             | succ kj13 =>
              have H := HA.out
              clear HA
              simp only [sibylref03_Join.j4] at H
              have HC32 := Aside0.mk H
              clear H
              go_upto_if 82 with (fail)
              go_cut [8, 9] (fun v8 v9 wc => ∃ (kq : Nat) (x8_31 : Int) (x9_31 : Int), v8 = .int .i64 x8_31 ∧ v9 = .int .u64 x9_31 ∧ Aside0 (sibylref03_Join.j5 kq x7_3 x8_31 x9_31 = some r) ∧ Aside0 (kq ≤ kj13) ∧ Drawn0 w wc)
              case first =>
               have H := HC32.out
               clear HC32
               by_cases c33 : x9_13 = 9007199254740992
               ·rw [if_pos c33] at H
                have c33b0 : (x9_13 == 9007199254740992) = true := beq_iff_eq.mpr c33
                have c33b1 : (x9_13 != 9007199254740992) = false := bne_eq_false_iff_eq.mpr c33
                clear c33
                (first | rw [c33b0] | (simp only [i64_w, i32_w]; rw [c33b0]) | skip)
                have H' := Aside0.mk H
                clear H
                go_wp2
                go_meet
                case rel => exact ⟨_, (wrap64 (x8_10 + 1)), (4503599627370496), (by first | rfl | (simp; done) | (simp [*]; done)), (by first | rfl | (simp; done) | (simp [*]; done)), H', ⟨by have := HJ3.out; have := HJ5.out; have := HJ10.out; have := HK4.out; have := HJ13.out; first | omega | exact Nat.le_refl _⟩, by repeat (first | exact Drawn0.refl _ | apply Drawn0.step)⟩
               ·rw [if_neg c33] at H
                have c33b0 : (x9_13 == 9007199254740992) = false := beq_eq_false_iff_ne.mpr c33
                have c33b1 : (x9_13 != 9007199254740992) = true := bne_iff_ne.mpr c33
                (first | rw [c33b0] | (simp only [i64_w, i32_w]; rw [c33b0]) | skip)
                have H' := Aside0.mk H
                clear H
                go_wp2
                go_meet
                case rel => exact ⟨_, (x8_10), (x9_13), (by first | rfl | (simp; done) | (simp [*]; done)), (by first | rfl | (simp; done) | (simp [*]; done)), H', ⟨by have := HJ3.out; have := HJ5.out; have := HJ10.out; have := HK4.out; have := HJ13.out; first | omega | exact Nat.le_refl _⟩, by repeat (first | exact Drawn0.refl _ | apply Drawn0.step)⟩
              case rest =>
               clear HC32
               try clear c1
               try clear c2
               try clear p2
               try clear c3
               try clear c5
               try clear p6
               try clear c7
               try clear c7b0
               try clear c7b1
               try clear c8
               try clear c9
               try clear c9b0
               try clear c10
               try clear c12
               try clear c12b0
               try clear c13
               try clear c13b0
               try clear c15
               try clear c15b0
               try clear c16
               try clear c16b0
               try clear c18
               try clear c18b0
               try clear c18b1
               try clear c20
               try clear c20b0
               try clear c22
               try clear c22b0
               try clear c22b1
               try clear c24
               try clear c24b0
               try clear c26
               try clear c26b0
               try clear c27
               try clear c27b0
               try clear c27b1
               try clear c28
               try clear c28b0
               try clear c28b1
               try clear c29
               try clear c29b0
               try clear c30
               try clear c30b0
               try clear c30b1
               try clear c31
               try clear c31b0
               try clear c31b1
               try clear c33
               try clear c33b0
               try clear c33b1
               try clear p2
               try clear p6
               obtain ⟨kq, x8_31, x9_31, rfl, rfl, HA, HJ31, ⟨mc31, rfl⟩⟩ := hcut
               cases kq with
               | zero => exact absurd HA.out (by simp [sibylref03_Join.j5])
               | succ kj31 =>
                have H := HA.out
                clear HA
                simp only [sibylref03_Join.j5] at H
                by_cases c34 : x9_31 < 4503599627370496
                ·rw [if_pos c34] at H
                 have c34b0 : decide (x9_31 < 4503599627370496) = true := decide_eq_true c34
                 clear c34
                 obtain rfl := Option.some.inj H
                 go_wp2
                 go_ret
                 exact ⟨by first | rfl | (simp; done) | (simp [*]; done), by repeat (first | exact Drawn0.refl _ | apply Drawn0.step)⟩
                ·rw [if_neg c34] at H
                 have c34b0 : decide (x9_31 < 4503599627370496) = false := decide_eq_false c34
                 clear c34
                 by_cases c35 : (wrap64 (x8_31 + 1075)) > 2046
                 ·rw [if_pos c35] at H
                  have c35b0 : decide (2046 < (wrap64 (x8_31 + 1075))) = true := decide_eq_true c35
                  clear c35
                  obtain rfl := Option.some.inj H
                  go_wp2
                  go_ret
                  exact ⟨by first | rfl | (simp; done) | (simp [*]; done), by repeat (first | exact Drawn0.refl _ | apply Drawn0.step)⟩
                 ·rw [if_neg c35] at H
                  have c35b0 : decide (2046 < (wrap64 (x8_31 + 1075))) = false := decide_eq_false c35
                  clear c35
                  obtain rfl := Option.some.inj H
                  go_wp2
                  go_ret
                  exact ⟨by first | rfl | (simp; done) | (simp [*]; done), by repeat (first | exact Drawn0.refl _ | apply Drawn0.step)⟩
def sibylref01_Bits.l0 : Nat → Int → Int → Option (Int)
 | 0, _, _ => none
 | k + 1, x4, x5 => if x5 > 0 then (sibylref01_Bits.l0 k (wrap64 (x4 + 1)) ((Int.tdiv x5 2) % 4294967296)) else (some x4)
def sibylref01_Bits.f (k : Nat) (l0 : List Int) : Option (Int) := (sibylref01_Trim.f k l0).bind fun t396 => (if (t396.length : Int) = 0 then (some 0) else (if 0 ≤ (wrap64 ((t396.length : Int) - 1)) then (if (wrap64 ((t396.length : Int) - 1)) < (t396.length : Int) then (sibylref01_Bits.l0 k (wrap64 (32 * (wrap64 ((t396.length : Int) - 1)))) (rd t396 (wrap64 ((t396.length : Int) - 1)))) else (none)) else (none)))
set_option maxHeartbeats 8000000 in
set_option maxRecDepth 100000 in
theorem sibylref01_Bits.calls (k : Nat) (A0 : Option Addr) (c0 : Nat) (l0 : List Int) (r : Int) (w : World) (hr0 : Kd.C (Kd.int .u32) w A0 l0.length l0) (hc0 : l0.length ≤ c0) (h : sibylref01_Bits.f k l0 = some r) :
  Calls Try.prog 86 #[.slice A0 l0.length c0] w fun e w' => e = .returned (.int .i64 r) ∧ Below w.heap.size w w' := by
 have HR0 := Aside0.mk hr0
 have HC0 := Aside0.mk hc0
 clear hr0 hc0
 have HB := Aside0.mk (Below.refl w.heap.size w)
 have H : ((sibylref01_Trim.f k l0).bind fun t396 => (if (t396.length : Int) = 0 then (some 0) else (if 0 ≤ (wrap64 ((t396.length : Int) - 1)) then (if (wrap64 ((t396.length : Int) - 1)) < (t396.length : Int) then (sibylref01_Bits.l0 k (wrap64 (32 * (wrap64 ((t396.length : Int) - 1)))) (rd t396 (wrap64 ((t396.length : Int) - 1)))) else (none)) else (none)))) = some r := h
 clear h
 obtain ⟨t396, A2, H⟩ := bindA H
 by_cases c3 : (t396.length : Int) = 0
 ·rw [if_pos c3] at H
  have c3b0 : ((t396.length : Int) == 0) = true := beq_iff_eq.mpr c3
  have c3b1 : ((t396.length : Int) != 0) = false := bne_eq_false_iff_eq.mpr c3
  clear c3
  obtain rfl := Option.some.inj H
  go_enter Try.func86, Try.ntmps86
  go_wp2_with (first | ((with_reducible refine gate_callee (f := 83) rfl ?_); refine goesM (some 7) rfl rfl Try.func83 (by kernel_rfl) rfl #[.slice A0 l0.length c0] rfl (by rfl) ?_; (with_reducible refine (sibylref01_Trim.calls k _ _ l0 t396 _ ?side1 ?side2 A2.out).mono ?_); (case side1 => exact ca HR0.out); (case side2 => exact HC0.out); rintro e w4 ⟨v397, rfl, ho0, hb⟩; refine ⟨_, rfl, ?_⟩; have n_ := mk2 (Kd.R_lower ho0 (below_size (bl HB))) (below_step (bl HB) hb); clear HB; obtain ⟨HO398, HB⟩ := n_; (try clear hb); (try clear hb2); (try clear hk); (try clear hi); (try clear ho0); obtain ⟨Ao5, co5, eo5⟩ := Kd.R_slice HO398.out; subst eo5))
  go_ret
  exact ⟨by first | rfl | simp [*], bl HB⟩
 ·rw [if_neg c3] at H
  have c3b0 : ((t396.length : Int) == 0) = false := beq_eq_false_iff_ne.mpr c3
  have c3b1 : ((t396.length : Int) != 0) = true := bne_iff_ne.mpr c3
  have c3b2 : ¬ (t396 = []) := fun h_ => c3 (by rw [h_]; rfl)
  obtain ⟨ji6, hji6⟩ : ∃ j_ : Int, (wrap64 ((t396.length : Int) - 1)) = j_ := ⟨_, rfl⟩
  replace H : (if 0 ≤ (ji6) then (if (ji6) < (t396.length : Int) then (sibylref01_Bits.l0 k (wrap64 (32 * (ji6))) (rd t396 (ji6))) else (none)) else (none)) = some r := by first | (rw [hji6] at H; exact H) | (simp only [hji6] at H ⊢; exact H)
  (try rw [hji6] at A2)
  have hji6w : (IntKind.i64.wrap ((t396.length : Int) - 1)) = ji6 := (i64_w _).trans hji6
  by_cases c7 : 0 ≤ (ji6)
  ·rw [if_pos c7] at H
   have c7b0 : decide (0 ≤ (ji6)) = true := decide_eq_true c7
   clear c7
   by_cases c8 : (ji6) < (t396.length : Int)
   ·rw [if_pos c8] at H
    have c8b0 : decide ((ji6) < (t396.length : Int)) = true := decide_eq_true c8
    clear c8
    have H' := Aside0.mk H
    clear H
    go_enter Try.func86, Try.ntmps86
    go_wp2_with (first | ((with_reducible refine gate_callee (f := 83) rfl ?_); refine goesM (some 7) rfl rfl Try.func83 (by kernel_rfl) rfl #[.slice A0 l0.length c0] rfl (by rfl) ?_; (with_reducible refine (sibylref01_Trim.calls k _ _ l0 t396 _ ?side1 ?side2 A2.out).mono ?_); (case side1 => exact ca HR0.out); (case side2 => exact HC0.out); rintro e w9 ⟨v397, rfl, ho0, hb⟩; refine ⟨_, rfl, ?_⟩; have n_ := mk2 (Kd.R_lower ho0 (below_size (bl HB))) (below_step (bl HB) hb); clear HB; obtain ⟨HO398, HB⟩ := n_; (try clear hb); (try clear hb2); (try clear hk); (try clear hi); (try clear ho0); obtain ⟨Ao10, co10, eo10⟩ := Kd.R_slice HO398.out; subst eo10; have p399 : 0 ≤ ((ji6) : Int) := of_decide_eq_true (by first | (with_reducible assumption) | assumption); have q399 : (ji6) < (t396.length : Int) := of_decide_eq_true (by first | (with_reducible assumption) | assumption); obtain ⟨ad399, e399, hx399_0⟩ := Kd.at_int (Kd.R_reads' HO398.out).2.2 (ji6) p399 q399; cases e399; replace p399 := eq_true p399; replace q399 := eq_true q399))
    go_loopg [4, 5] k (fun kq v4 v5 w' => ∃ (x4_1 : Int) (x5_1 : Int), v4 = .int .i64 x4_1 ∧ v5 = .int .u32 x5_1 ∧ Aside0 (sibylref01_Bits.l0 kq x4_1 x5_1 = some r) ∧ Aside0 (kq ≤ k) ∧ Aside0 (Below w.heap.size w w'))
    case atStart => exact ⟨(wrap64 (32 * (ji6))), (rd t396 (ji6)), (by first | rfl | (simp; done) | (simp only [← hji6] <;> (first | rfl | simp)) | (simp [*]; done)), (by first | rfl | (simp; done) | (simp only [← hji6] <;> (first | rfl | simp)) | (simp [*]; done)), H', ⟨Nat.le_refl _⟩, ⟨bl HB⟩⟩
    case round =>
     clear H'
     try clear p2
     try clear c3
     try clear c3b0
     try clear c3b1
     try clear c3b2
     try clear p3
     try clear q3
     try clear hx3
     try clear p6
     try clear c7
     try clear c7b0
     try clear c8
     try clear c8b0
     try clear hx399_0
     try clear p399
     try clear q399
     obtain ⟨x4_1, x5_1, rfl, rfl, HA, HK1, HB⟩ := hrel
     cases gk with
     | zero => exact absurd HA.out (by simp [sibylref01_Bits.l0])
     | succ k1 =>
      have H := HA.out
      clear HA
      simp only [sibylref01_Bits.l0] at H
      by_cases c11 : x5_1 > 0
      ·rw [if_pos c11] at H
       have c11b0 : decide (0 < x5_1) = true := decide_eq_true c11
       clear c11
       have H' := Aside0.mk H
       clear H
       go_wp2
       go_roundg k1
       case measure => have := HK1.out; omega
       case rel => exact ⟨(wrap64 (x4_1 + 1)), ((Int.tdiv x5_1 2) % 4294967296), (by first | rfl | (simp; done) | (simp [*]; done)), (by first | rfl | (simp; done) | (simp [*]; done)), H', ⟨by have := HK1.out; omega⟩, ⟨bl HB⟩⟩
      ·rw [if_neg c11] at H
       have c11b0 : decide (0 < x5_1) = false := decide_eq_false c11
       clear c11
       obtain rfl := Option.some.inj H
       go_wp2
       go_ret
       exact ⟨by first | rfl | (simp [errW_none, errW_some] <;> rfl) | (simp only [← hji6]; first | rfl | (simp [errW_none, errW_some] <;> rfl)) | (simp [*, errW_none, errW_some] <;> rfl), bl HB⟩
   ·rw [if_neg c8] at H
    exact absurd H (by simp)
  ·rw [if_neg c7] at H
   exact absurd H (by simp)
mutual
def sibylref21_round.j0 : Nat → Bool → List Int → Int → Bool → Int → Option (Int)
 | 0, _, _, _, _, _ => none
 | k + 1, x0, x1, x2, x3, x9 => (sibylref01_Shr.f k x1 x9).bind fun t404 => ((sibylref01_Shl.f k t404 x9).bind fun t407 => ((sibylref01_Cmp.f k t407 x1).bind fun t410 => (if t410 = 0 then (sibylref21_round.j1 k x0 x2 x3 x9 t404) else (sibylref21_round.j1 k x0 x2 true x9 t404))))
def sibylref21_round.j1 : Nat → Bool → Int → Bool → Int → List Int → Option (Int)
 | 0, _, _, _, _, _ => none
 | k + 1, x0, x2, x3, x9, x10 => sibylref21_round.l0 k x0 x2 x3 x9 x10 0 (wrap64 ((x10.length : Int) - 1))
def sibylref21_round.l0 : Nat → Bool → Int → Bool → Int → List Int → Int → Int → Option (Int)
 | 0, _, _, _, _, _, _, _ => none
 | k + 1, x0, x2, x3, x9, x10, x11, x12 => if x12 ≥ 0 then (if 0 ≤ x12 then (if x12 < (x10.length : Int) then (sibylref21_round.l0 k x0 x2 x3 x9 x10 (IntKind.u64.wrap ((IntKind.u64.wrap (x11 * 4294967296)) + (IntKind.u64.wrap (rd x10 x12)))) (wrap64 (x12 - 1))) else (none)) else (none)) else (if x3 = true then ((sibylref03_Join.f k x0 (IntKind.u64.wrap ((IntKind.u64.wrap (2 * x11)) + 1)) (wrap64 ((wrap64 (x2 + x9)) - 1))).bind fun t412 => (some t412)) else ((sibylref03_Join.f k x0 (IntKind.u64.wrap (2 * x11)) (wrap64 ((wrap64 (x2 + x9)) - 1))).bind fun t413 => (some t413)))
end
def sibylref21_round.f (k : Nat) (a0 : Bool) (l1 : List Int) (a2 : Int) (a3 : Bool) : Option (Int) := (sibylref01_Bits.f k l1).bind fun t400 => (if (wrap64 (t400 - 63)) < 0 then ((sibylref01_Shl.f k l1 (wrap64 (-(wrap64 (t400 - 63))))).bind fun t401 => (sibylref21_round.j0 k a0 t401 (wrap64 (a2 + (wrap64 (t400 - 63)))) a3 0)) else (sibylref21_round.j0 k a0 l1 a2 a3 (wrap64 (t400 - 63))))
set_option maxHeartbeats 8000000 in
set_option maxRecDepth 100000 in
theorem sibylref21_round.calls (k : Nat) (a0 : Bool) (P1_ : Nat → Prop) (u9000_ : Value) (l1 : List Int) (a2 : Int) (a3 : Bool) (r : Int) (w0 w : World) (hB : Below w0.heap.size w0 w) (ho1 : Kd.R (Kd.int .u32) 99 w w0.heap.size P1_ u9000_ l1) (h : sibylref21_round.f k a0 l1 a2 a3 = some r) :
  Calls Try.prog 61 #[.bool a0, u9000_, .int .i64 a2, .bool a3] w fun e w' => e = .returned (.int .u64 r) ∧ Below w0.heap.size w0 w' ∧ Kept w w' (fun k_ => P1_ k_) := by
 have HO1 := Aside0.mk (show Kd.R (Kd.int .u32) 99 w w0.heap.size (fun k_ => (P1_ k_ ∨ w.heap.size ≤ k_)) u9000_ l1 from Kd.R_mono ho1 (fun k_ hk => (.inl hk)))
 have HK := Aside0.mk (Kept.refl w (fun k_ => P1_ k_))
 have HW0 := Aside0.mk hB.size
 have HB := Aside0.mk hB
 clear hB
 have H : ((sibylref01_Bits.f k l1).bind fun t400 => (if (wrap64 (t400 - 63)) < 0 then ((sibylref01_Shl.f k l1 (wrap64 (-(wrap64 (t400 - 63))))).bind fun t401 => (sibylref21_round.j0 k a0 t401 (wrap64 (a2 + (wrap64 (t400 - 63)))) a3 0)) else (sibylref21_round.j0 k a0 l1 a2 a3 (wrap64 (t400 - 63))))) = some r := h
 clear h
 obtain ⟨t400, A5, H⟩ := bindA H
 have HC6 := Aside0.mk H
 clear H
 obtain ⟨Ao7, co7, eo7⟩ := Kd.R_slice HO1.out
 subst eo7
 go_enter Try.func61, Try.ntmps61
 go_upto_if 17 with (first | ((with_reducible refine gate_callee (f := 86) rfl ?_); refine goesM (some 14) rfl rfl Try.func86 (by kernel_rfl) rfl #[.slice Ao7 l1.length co7] rfl (by rfl) ?_; (with_reducible refine (sibylref01_Bits.calls k _ _ l1 t400 _ ?side1 ?side2 A5.out).mono ?_); (case side1 => exact ca ((Kd.R_reads' HO1.out).2.2)); (case side2 => exact (Kd.R_reads' HO1.out).2.1); rintro e w8 ⟨rfl, hb⟩; refine ⟨_, rfl, ?_⟩; have n_ := mk3 (Kd.R_below (ra HO1.out) hb) (Kept.below (S := (fun k_ => P1_ k_)) (by repeat (first | (with_reducible first | exact HK.out | apply Kept.alloc | apply Kept.drewN | apply Kept.drew) | exact HK.out)) hb) (below_step (bl HB) hb); clear HO1 HK HB; obtain ⟨HO1, HK, HB⟩ := n_; (try clear hb); (try clear hb2); (try clear hk); (try clear hi)))
 (try simp only [Act.put, List.setIfInBounds_toArray, List.set_cons_zero, List.set_cons_succ])
 go_cut [1, 2, 9] (fun v1 v2 v9 wc => ∃ (kq : Nat) (x1_5 : List Int) (x2_5 : Int) (x9_5 : Int), v2 = .int .i64 x2_5 ∧ v9 = .int .i64 x9_5 ∧ Aside0 (sibylref21_round.j0 kq a0 x1_5 x2_5 a3 x9_5 = some r) ∧ Aside0 (kq ≤ k) ∧ Aside0 (Kd.R (Kd.int .u32) 99 wc w0.heap.size (fun k_ => (P1_ k_ ∨ w.heap.size ≤ k_)) v1 x1_5) ∧ Aside0 (Kept w wc (fun k_ => P1_ k_)) ∧ Aside0 (Below w0.heap.size w0 wc))
 case first =>
  have H := HC6.out
  clear HC6
  by_cases c9 : (wrap64 (t400 - 63)) < 0
  ·rw [if_pos c9] at H
   have c9b0 : decide ((wrap64 (t400 - 63)) < 0) = true := decide_eq_true c9
   clear c9
   (first | rw [c9b0] | (simp only [i64_w, i32_w]; rw [c9b0]) | skip)
   obtain ⟨t401, A10, H⟩ := bindA H
   have H' := Aside0.mk H
   clear H
   go_wp2_with (first | ((with_reducible refine gate_callee (f := 69) rfl ?_); refine goesM (some 21) rfl rfl Try.func69 (by kernel_rfl) rfl #[.slice Ao7 l1.length co7, .int .i64 (wrap64 (-(wrap64 (t400 - 63))))] rfl (by rfl) ?_; (with_reducible refine (sibylref01_Shl.calls k _ _ l1 (wrap64 (-(wrap64 (t400 - 63)))) t401 _ ?side1 ?side2 A10.out).mono ?_); (case side1 => exact ca ((Kd.R_reads' HO1.out).2.2)); (case side2 => exact (Kd.R_reads' HO1.out).2.1); rintro e w11 ⟨v402, rfl, ho0, hb⟩; refine ⟨_, rfl, ?_⟩; have n_ := mk4 (Kd.R_elder' (ra HO1.out) (Kd.R_base ho0) hb) (Kd.R_lower (Kd.R_new' (Kd.R_newM (M := fun k_ => (P1_ k_ ∨ w.heap.size ≤ k_)) ho0 (by first | exact HK.out.1 | exact (show Kept w _ (fun k_ => P1_ k_) from by repeat (first | (with_reducible first | exact HK.out | apply Kept.alloc | apply Kept.drewN | apply Kept.drew) | exact HK.out)).1) (fun k_ h_ => .inr h_)) (Kd.R_lt (ra HO1.out))) (below_size (bl HB))) (Kept.below (S := (fun k_ => P1_ k_)) (by repeat (first | (with_reducible first | exact HK.out | apply Kept.alloc | apply Kept.drewN | apply Kept.drew) | exact HK.out)) hb) (below_step (bl HB) hb); clear HO1 HK HB; obtain ⟨HO1, HO403, HK, HB⟩ := n_; (try clear hb); (try clear hb2); (try clear hk); (try clear hi); (try clear ho0)))
   go_meet
   case rel => exact ⟨_, (t401), (wrap64 (a2 + (wrap64 (t400 - 63)))), (0), (by first | rfl | (simp; done) | (simp [*]; done)), (by first | rfl | (simp; done) | (simp [*]; done)), H', ⟨by first | omega | exact Nat.le_refl _⟩, ⟨ra (Kd.R_mono HO403.out (fun _ hk => hk.1.1))⟩, ⟨by repeat (first | (with_reducible first | exact HK.out | apply Kept.alloc | apply Kept.drewN | apply Kept.drew) | exact HK.out)⟩, ⟨bl HB⟩⟩
  ·rw [if_neg c9] at H
   have c9b0 : decide ((wrap64 (t400 - 63)) < 0) = false := decide_eq_false c9
   clear c9
   (first | rw [c9b0] | (simp only [i64_w, i32_w]; rw [c9b0]) | skip)
   have H' := Aside0.mk H
   clear H
   go_wp2
   go_meet
   case rel => exact ⟨_, (l1), (a2), (wrap64 (t400 - 63)), (by first | rfl | (simp; done) | (simp [*]; done)), (by first | rfl | (simp; done) | (simp [*]; done)), H', ⟨by first | omega | exact Nat.le_refl _⟩, ⟨ra HO1.out⟩, ⟨by repeat (first | (with_reducible first | exact HK.out | apply Kept.alloc | apply Kept.drewN | apply Kept.drew) | exact HK.out)⟩, ⟨bl HB⟩⟩
 case rest =>
  clear HC6
  try clear p2
  try clear c6
  try clear p6
  try clear c8
  try clear c9
  try clear c9b0
  obtain ⟨kq, x1_5, x2_5, x9_5, rfl, rfl, HA, HJ5, HO_1, HK, HB⟩ := hcut
  cases kq with
  | zero => exact absurd HA.out (by simp [sibylref21_round.j0])
  | succ kj5 =>
   have H := HA.out
   clear HA
   simp only [sibylref21_round.j0] at H
   obtain ⟨t404, A12, H⟩ := bindA H
   obtain ⟨t407, A13, H⟩ := bindA H
   obtain ⟨t410, A14, H⟩ := bindA H
   have HC15 := Aside0.mk H
   clear H
   obtain ⟨Ao16, co16, eo16⟩ := Kd.R_slice HO_1.out
   subst eo16
   go_upto_if 33 with (first | ((with_reducible refine gate_callee (f := 87) rfl ?_); refine goesM (some 27) rfl rfl Try.func87 (by kernel_rfl) rfl #[.slice Ao16 x1_5.length co16, .int .i64 x9_5] rfl (by rfl) ?_; (with_reducible refine (sibylref01_Shr.calls kj5 _ _ x1_5 x9_5 t404 _ ?side1 ?side2 A12.out).mono ?_); (case side1 => exact ca ((Kd.R_reads' HO_1.out).2.2)); (case side2 => exact (Kd.R_reads' HO_1.out).2.1); rintro e w17 ⟨v405, rfl, ho0, hb⟩; refine ⟨_, rfl, ?_⟩; have n_ := mk4 (Kd.R_elder' (ra HO_1.out) (Kd.R_base ho0) hb) (Kd.R_lower (Kd.R_new' (Kd.R_newM (M := fun k_ => (P1_ k_ ∨ w.heap.size ≤ k_)) ho0 (by first | exact HK.out.1 | exact (show Kept w _ (fun k_ => P1_ k_) from by repeat (first | (with_reducible first | exact HK.out | apply Kept.alloc | apply Kept.drewN | apply Kept.drew) | exact HK.out)).1) (fun k_ h_ => .inr h_)) (Kd.R_lt (ra HO_1.out))) (below_size (bl HB))) (Kept.below (S := (fun k_ => P1_ k_)) (by repeat (first | (with_reducible first | exact HK.out | apply Kept.alloc | apply Kept.drewN | apply Kept.drew) | exact HK.out)) hb) (below_step (bl HB) hb); clear HO_1 HK HB; obtain ⟨HO_1, HO406, HK, HB⟩ := n_; (try clear hb); (try clear hb2); (try clear hk); (try clear hi); (try clear ho0); obtain ⟨Ao18, co18, eo18⟩ := Kd.R_slice HO406.out; subst eo18) | ((with_reducible refine gate_callee (f := 69) rfl ?_); refine goesM (some 30) rfl rfl Try.func69 (by kernel_rfl) rfl #[.slice Ao18 t404.length co18, .int .i64 x9_5] rfl (by rfl) ?_; (with_reducible refine (sibylref01_Shl.calls kj5 _ _ t404 x9_5 t407 _ ?side1 ?side2 A13.out).mono ?_); (case side1 => exact ca ((Kd.R_reads' HO406.out).2.2)); (case side2 => exact (Kd.R_reads' HO406.out).2.1); rintro e w19 ⟨v408, rfl, ho0, hb⟩; refine ⟨_, rfl, ?_⟩; have n_ := mk5 (Kd.R_elder' (ra HO_1.out) (Kd.R_base ho0) hb) (Kd.R_elder' (ra HO406.out) (Kd.R_base ho0) hb) (Kd.R_lower (Kd.R_new' (Kd.R_new' (Kd.R_newM (M := fun k_ => (P1_ k_ ∨ w.heap.size ≤ k_)) ho0 (by first | exact HK.out.1 | exact (show Kept w _ (fun k_ => P1_ k_) from by repeat (first | (with_reducible first | exact HK.out | apply Kept.alloc | apply Kept.drewN | apply Kept.drew) | exact HK.out)).1) (fun k_ h_ => .inr h_)) (Kd.R_lt (ra HO_1.out))) (Kd.R_lt (ra HO406.out))) (below_size (bl HB))) (Kept.below (S := (fun k_ => P1_ k_)) (by repeat (first | (with_reducible first | exact HK.out | apply Kept.alloc | apply Kept.drewN | apply Kept.drew) | exact HK.out)) hb) (below_step (bl HB) hb); clear HO_1 HO406 HK HB; obtain ⟨HO_1, HO406, HO409, HK, HB⟩ := n_; (try clear hb); (try clear hb2); (try clear hk); (try clear hi); (try clear ho0); obtain ⟨Ao20, co20, eo20⟩ := Kd.R_slice HO409.out; subst eo20) | ((with_reducible refine gate_callee (f := 70) rfl ?_); refine goesM (some 32) rfl rfl Try.func70 (by kernel_rfl) rfl #[.slice Ao20 t407.length co20, .slice Ao16 x1_5.length co16] rfl (by rfl) ?_; (with_reducible refine (sibylref01_Cmp.calls kj5 _ _ t407 _ _ x1_5 t410 _ ?side1 ?side2 ?side3 ?side4 A14.out).mono ?_); (case side1 => exact ca ((Kd.R_reads' HO409.out).2.2)); (case side2 => exact (Kd.R_reads' HO409.out).2.1); (case side3 => exact ca ((Kd.R_reads' HO_1.out).2.2)); (case side4 => exact (Kd.R_reads' HO_1.out).2.1); rintro e w21 ⟨rfl, hb⟩; refine ⟨_, rfl, ?_⟩; have n_ := mk5 (Kd.R_below (ra HO_1.out) hb) (Kd.R_below (ra HO406.out) hb) (Kd.R_below (ra HO409.out) hb) (Kept.below (S := (fun k_ => P1_ k_)) (by repeat (first | (with_reducible first | exact HK.out | apply Kept.alloc | apply Kept.drewN | apply Kept.drew) | exact HK.out)) hb) (below_step (bl HB) hb); clear HO_1 HO406 HO409 HK HB; obtain ⟨HO_1, HO406, HO409, HK, HB⟩ := n_; (try clear hb); (try clear hb2); (try clear hk); (try clear hi)))
   (try simp only [Act.put, List.setIfInBounds_toArray, List.set_cons_zero, List.set_cons_succ])
   go_cut [3] (fun v3 wc => ∃ (kq : Nat) (x3_14 : Bool), v3 = .bool x3_14 ∧ Aside0 (sibylref21_round.j1 kq a0 x2_5 x3_14 x9_5 t404 = some r) ∧ Aside0 (kq ≤ kj5) ∧ Aside0 (Kd.R (Kd.int .u32) 99 wc w0.heap.size (fun k_ => (P1_ k_ ∨ w.heap.size ≤ k_)) (.slice Ao18 t404.length co18) t404) ∧ Aside0 (Kept w wc (fun k_ => P1_ k_)) ∧ Aside0 (Below w0.heap.size w0 wc))
   case first =>
    have H := HC15.out
    clear HC15
    by_cases c22 : t410 = 0
    ·rw [if_pos c22] at H
     have c22b0 : (t410 == 0) = true := beq_iff_eq.mpr c22
     have c22b1 : (t410 != 0) = false := bne_eq_false_iff_eq.mpr c22
     clear c22
     (first | rw [c22b0] | (simp only [i64_w, i32_w]; rw [c22b0]) | skip)
     have H' := Aside0.mk H
     clear H
     go_wp2
     go_meet
     case rel => exact ⟨_, (a3), (by first | rfl | (simp; done) | (simp [*]; done)), H', ⟨by have := HJ5.out; first | omega | exact Nat.le_refl _⟩, ⟨ra (Kd.R_mono HO406.out (fun _ hk => hk.1.1.1))⟩, ⟨by repeat (first | (with_reducible first | exact HK.out | apply Kept.alloc | apply Kept.drewN | apply Kept.drew) | exact HK.out)⟩, ⟨bl HB⟩⟩
    ·rw [if_neg c22] at H
     have c22b0 : (t410 == 0) = false := beq_eq_false_iff_ne.mpr c22
     have c22b1 : (t410 != 0) = true := bne_iff_ne.mpr c22
     (first | rw [c22b0] | (simp only [i64_w, i32_w]; rw [c22b0]) | skip)
     have H' := Aside0.mk H
     clear H
     go_wp2
     go_meet
     case rel => exact ⟨_, (true), (by first | rfl | (simp; done) | (simp [*]; done)), H', ⟨by have := HJ5.out; first | omega | exact Nat.le_refl _⟩, ⟨ra (Kd.R_mono HO406.out (fun _ hk => hk.1.1.1))⟩, ⟨by repeat (first | (with_reducible first | exact HK.out | apply Kept.alloc | apply Kept.drewN | apply Kept.drew) | exact HK.out)⟩, ⟨bl HB⟩⟩
   case rest =>
    clear HC15
    try clear c2
    try clear p2
    try clear c6
    try clear p6
    try clear c7
    try clear c8
    try clear c9
    try clear c9b0
    try clear c22
    try clear c22b0
    try clear c22b1
    try clear p2
    try clear p6
    obtain ⟨kq, x3_14, rfl, HA, HJ14, HO_10, HK, HB⟩ := hcut
    cases kq with
    | zero => exact absurd HA.out (by simp [sibylref21_round.j1])
    | succ kj14 =>
     have H := HA.out
     clear HA
     simp only [sibylref21_round.j1] at H
     have H' := Aside0.mk H
     clear H
     go_wp2
     go_loopg [11, 12] kj14 (fun kq v11 v12 w' => ∃ (x11_3 : Int) (x12_3 : Int), v11 = .int .u64 x11_3 ∧ v12 = .int .i64 x12_3 ∧ Aside0 (sibylref21_round.l0 kq a0 x2_5 x3_14 x9_5 t404 x11_3 x12_3 = some r) ∧ Aside0 (kq ≤ kj14) ∧ Aside0 (Kd.R (Kd.int .u32) 99 w' w0.heap.size (fun k_ => (P1_ k_ ∨ w.heap.size ≤ k_)) (.slice Ao18 t404.length co18) t404) ∧ Aside0 (Kept w w' (fun k_ => P1_ k_)) ∧ Aside0 (Below w0.heap.size w0 w'))
     case atStart => exact ⟨(0), (wrap64 ((t404.length : Int) - 1)), (by first | rfl | (simp; done) | (simp [*]; done)), (by first | rfl | (simp; done) | (simp [*]; done)), H', ⟨Nat.le_refl _⟩, ⟨ra HO_10.out⟩, ⟨by repeat (first | (with_reducible first | exact HK.out | apply Kept.alloc | apply Kept.drewN | apply Kept.drew) | exact HK.out)⟩, ⟨bl HB⟩⟩
     case round =>
      clear H'
      try clear c2
      try clear p2
      try clear c6
      try clear p6
      try clear c7
      try clear c8
      try clear c9
      try clear c9b0
      try clear c22
      try clear c22b0
      try clear c22b1
      try clear p2
      try clear p6
      obtain ⟨x11_3, x12_3, rfl, rfl, HA, HK3, HO_10, HK, HB⟩ := hrel
      cases gk with
      | zero => exact absurd HA.out (by simp [sibylref21_round.l0])
      | succ k3 =>
       have H := HA.out
       clear HA
       simp only [sibylref21_round.l0] at H
       by_cases c23 : x12_3 ≥ 0
       ·rw [if_pos c23] at H
        have c23b0 : decide (0 ≤ x12_3) = true := decide_eq_true c23
        clear c23
        by_cases c24 : 0 ≤ x12_3
        ·rw [if_pos c24] at H
         have c24b0 : decide (0 ≤ x12_3) = true := decide_eq_true c24
         clear c24
         by_cases c25 : x12_3 < (t404.length : Int)
         ·rw [if_pos c25] at H
          have c25b0 : decide (x12_3 < (t404.length : Int)) = true := decide_eq_true c25
          clear c25
          have H' := Aside0.mk H
          clear H
          have p411 : 0 ≤ (x12_3 : Int) := of_decide_eq_true (by first | (with_reducible assumption) | assumption)
          have q411 : x12_3 < (t404.length : Int) := of_decide_eq_true (by first | (with_reducible assumption) | assumption)
          obtain ⟨ad411, e411, hx411_0⟩ := Kd.at_int (Kd.R_reads' HO_10.out).2.2 x12_3 p411 q411
          cases e411
          replace p411 := eq_true p411
          replace q411 := eq_true q411
          go_wp2
          go_roundg k3
          case measure => have := HJ5.out; have := HJ14.out; have := HK3.out; omega
          case rel => exact ⟨(IntKind.u64.wrap ((IntKind.u64.wrap (x11_3 * 4294967296)) + (IntKind.u64.wrap (rd t404 x12_3)))), (wrap64 (x12_3 - 1)), (by first | rfl | (simp; done) | (simp [*]; done)), (by first | rfl | (simp; done) | (simp [*]; done)), H', ⟨by have := HJ5.out; have := HJ14.out; have := HK3.out; omega⟩, ⟨ra HO_10.out⟩, ⟨by repeat (first | (with_reducible first | exact HK.out | apply Kept.alloc | apply Kept.drewN | apply Kept.drew) | exact HK.out)⟩, ⟨bl HB⟩⟩
         ·rw [if_neg c25] at H
          exact absurd H (by simp)
        ·rw [if_neg c24] at H
         exact absurd H (by simp)
       ·rw [if_neg c23] at H
        have c23b0 : decide (0 ≤ x12_3) = false := decide_eq_false c23
        clear c23
        by_cases c26 : x3_14 = true
        ·subst c26
         have H1 : ((sibylref03_Join.f k3 a0 (IntKind.u64.wrap ((IntKind.u64.wrap (2 * x11_3)) + 1)) (wrap64 ((wrap64 (x2_5 + x9_5)) - 1))).bind fun t412 => (some t412)) = some r := by rw [if_pos rfl] at H; exact H
         clear H
         have H := H1
         clear H1
         obtain ⟨t412, A27, H⟩ := bindA H
         obtain rfl := Option.some.inj H
         go_wp2_with (first | ((with_reducible refine gate_callee (f := 59) rfl ?_); refine goesM (some 60) rfl rfl Try.func59 (by kernel_rfl) rfl #[.bool a0, .int .u64 (IntKind.u64.wrap ((IntKind.u64.wrap (2 * x11_3)) + 1)), .int .i64 (wrap64 ((wrap64 (x2_5 + x9_5)) - 1))] rfl (by rfl) ?_; (with_reducible refine (sibylref03_Join.calls k3 a0 (IntKind.u64.wrap ((IntKind.u64.wrap (2 * x11_3)) + 1)) (wrap64 ((wrap64 (x2_5 + x9_5)) - 1)) t412 _ A27.out).mono ?_); rintro e w' ⟨rfl, ⟨nd, rfl⟩⟩; refine ⟨_, rfl, ?_⟩))
         go_ret
         exact ⟨by first | rfl | simp [*], bl HB, by repeat (first | (with_reducible first | exact HK.out | apply Kept.alloc | apply Kept.drewN | apply Kept.drew) | exact HK.out)⟩
        ·replace c26 := Bool.eq_false_iff.mpr c26
         subst c26
         have H1 : ((sibylref03_Join.f k3 a0 (IntKind.u64.wrap (2 * x11_3)) (wrap64 ((wrap64 (x2_5 + x9_5)) - 1))).bind fun t413 => (some t413)) = some r := by rw [if_neg (show ¬ (false = true) by decide)] at H; exact H
         clear H
         have H := H1
         clear H1
         obtain ⟨t413, A28, H⟩ := bindA H
         obtain rfl := Option.some.inj H
         go_wp2_with (first | ((with_reducible refine gate_callee (f := 59) rfl ?_); refine goesM (some 60) rfl rfl Try.func59 (by kernel_rfl) rfl #[.bool a0, .int .u64 (IntKind.u64.wrap (2 * x11_3)), .int .i64 (wrap64 ((wrap64 (x2_5 + x9_5)) - 1))] rfl (by rfl) ?_; (with_reducible refine (sibylref03_Join.calls k3 a0 (IntKind.u64.wrap (2 * x11_3)) (wrap64 ((wrap64 (x2_5 + x9_5)) - 1)) t413 _ A28.out).mono ?_); rintro e w' ⟨rfl, ⟨nd, rfl⟩⟩; refine ⟨_, rfl, ?_⟩))
         go_ret
         exact ⟨by first | rfl | simp [*], bl HB, by repeat (first | (with_reducible first | exact HK.out | apply Kept.alloc | apply Kept.drewN | apply Kept.drew) | exact HK.out)⟩
def sibylref21_natural.f (a0 : Int) : Option (List Int) := some (([(Int.tmod a0 4294967296) % 4294967296, (IntKind.u64.wrap (Int.tdiv a0 4294967296)) % 4294967296] : List Int))
set_option maxHeartbeats 8000000 in
set_option maxRecDepth 100000 in
theorem sibylref21_natural.calls (a0 : Int) (r : List Int) (w : World) (h : sibylref21_natural.f a0 = some r) :
  Calls Try.prog 63 #[.int .u64 a0] w fun e w' => ∃ v0_ : Value, e = .returned (v0_) ∧ Kd.R (Kd.int .u32) 99 w' w.heap.size (fun _ => True) v0_ r ∧ Below w.heap.size w w' := by
 have HB := Aside0.mk (Below.refl w.heap.size w)
 have H : (some (([(Int.tmod a0 4294967296) % 4294967296, (IntKind.u64.wrap (Int.tdiv a0 4294967296)) % 4294967296] : List Int))) = some r := h
 clear h
 obtain ⟨y414, hy414⟩ : ∃ y_ : List Int, y_ = (([(Int.tmod a0 4294967296) % 4294967296, (IntKind.u64.wrap (Int.tdiv a0 4294967296)) % 4294967296] : List Int)) := ⟨_, rfl⟩
 replace H : (some y414) = some r := by rw [hy414]; exact H
 have Ny414 := Aside0.mk hy414
 clear hy414
 obtain rfl := Option.some.inj H
 go_enter Try.func63, Try.ntmps63
 go_wp2_with (first | ((with_reducible refine gate_dst (N := 9) rfl ?_); refine Kd.R_lit (Kd.int .u32) _ 99 ?hg (N := 9) ?hd (xs := ([(Int.tmod a0 4294967296) % 4294967296, (IntKind.u64.wrap (Int.tdiv a0 4294967296)) % 4294967296] : List Int)) (inner := [.int .u32 ((Int.tmod a0 4294967296) % 4294967296), .int .u32 ((IntKind.u64.wrap (Int.tdiv a0 4294967296)) % 4294967296)]) (ok := fun _ => True) (okp := fun _ => True) ?hr ?hp (fun _ hk => hk) trivial (Below.refl _ _) (Nat.le_refl _) (by simp) ?_; (case hd => rfl); (case hg => rfl); (case hr => first | (go_simp; done) | (go_simp; rfl)); (case hp => exact (Reps.one (show Kd.M (Kd.int .u32) _ _ _ ((Int.tmod a0 4294967296) % 4294967296) [.int .u32 ((Int.tmod a0 4294967296) % 4294967296)] from rfl) (Reps.one (show Kd.M (Kd.int .u32) _ _ _ ((IntKind.u64.wrap (Int.tdiv a0 4294967296)) % 4294967296) [.int .u32 ((IntKind.u64.wrap (Int.tdiv a0 4294967296)) % 4294967296)] from rfl) (Reps.none _ _)))); intro v415 w2 ho3 hb hg_ hnew_; clear hg_ hnew_; (first | rw [← Ny414.out] at ho3 | (simp only [Int.reduceToNat] at ho3; rw [← Ny414.out] at ho3)); have n_ := mk2 (Kd.R_lower ho3 (below_size (bl HB))) (below_step (bl HB) hb); clear HB; obtain ⟨HO416, HB⟩ := n_; clear hb ho3))
 go_ret
 exact ⟨_, by first | rfl | simp [*], ra HO416.out, bl HB⟩
mutual
def sibylref21_Add.j0 : Nat → Int → Int → Bool → Option (Int)
 | 0, _, _, _ => none
 | k + 1, x0, x1, x25 => if x25 = true then (some 9221120237041090561) else ((sibylref03_Size.f x0).bind fun t419 => ((sibylref03_Size.f x1).bind fun t420 => (if t419 = 9218868437227405312 then (if t420 = 9218868437227405312 then (sibylref21_Add.j1 k x0 x1 (t419 == 9218868437227405312) (t420 == 9218868437227405312) (x0 != x1)) else (sibylref21_Add.j1 k x0 x1 (t419 == 9218868437227405312) (t420 == 9218868437227405312) false)) else (sibylref21_Add.j1 k x0 x1 (t419 == 9218868437227405312) (t420 == 9218868437227405312) false))))
def sibylref21_Add.j1 : Nat → Int → Int → Bool → Bool → Bool → Option (Int)
 | 0, _, _, _, _, _ => none
 | k + 1, x0, x1, x5, x6, x40 => if x40 = true then (some 9221120237041090561) else (if x5 = true then (some x0) else (if x6 = true then (some x1) else ((sibylref03_Parts.f k x0).bind fun bt421 => ((sibylref03_Parts.f k x1).bind fun bt425 => (if bt425.2.2.1 < bt421.2.2.1 then (sibylref21_Add.j2 k x0 bt421.1 bt421.2.1 bt421.2.2.1 bt425.1 bt425.2.1 bt425.2.2.1 bt425.2.2.1) else (sibylref21_Add.j2 k x0 bt421.1 bt421.2.1 bt421.2.2.1 bt425.1 bt425.2.1 bt425.2.2.1 bt421.2.2.1))))))
def sibylref21_Add.j2 : Nat → Int → Bool → Int → Int → Bool → Int → Int → Int → Option (Int)
 | 0, _, _, _, _, _, _, _, _ => none
 | k + 1, x0, x7, x8, x9, x11, x12, x13, x15 => (sibylref21_natural.f x8).bind fun t429 => ((sibylref01_Shl.f k t429 (wrap64 (x9 - x15))).bind fun t432 => ((sibylref21_natural.f x12).bind fun t435 => ((sibylref01_Shl.f k t435 (wrap64 (x13 - x15))).bind fun t438 => (if (x7 != x11) = true then ((sibylref01_Cmp.f k t432 t438).bind fun t441 => (if t441 = 0 then (some 0) else (if t441 > 0 then ((sibylref01_Minus.f k t432 t438).bind fun t442 => ((sibylref21_round.f k x7 t442 x15 false).bind fun t445 => (some t445))) else ((sibylref01_Minus.f k t438 t432).bind fun t446 => ((sibylref21_round.f k x11 t446 x15 false).bind fun t449 => (some t449)))))) else ((sibylref01_Plus.f k t432 t438).bind fun t450 => (if (t450.length : Int) = 0 then (some x0) else ((sibylref21_round.f k x7 t450 x15 false).bind fun t453 => (some t453))))))))
end
def sibylref21_Add.f (k : Nat) (a0 : Int) (a1 : Int) : Option (Int) := (sibylref03_IsNaN.f a0).bind fun t417 => (if t417 = true then (sibylref21_Add.j0 k a0 a1 true) else ((sibylref03_IsNaN.f a1).bind fun t418 => (sibylref21_Add.j0 k a0 a1 t418)))
set_option maxHeartbeats 8000000 in
set_option maxRecDepth 100000 in
theorem sibylref21_Add.calls (k : Nat) (a0 : Int) (a1 : Int) (r : Int) (w : World) (h : sibylref21_Add.f k a0 a1 = some r) :
  Calls Try.prog 37 #[.int .u64 a0, .int .u64 a1] w fun e w' => e = .returned (.int .u64 r) ∧ Below w.heap.size w w' := by
 have HB := Aside0.mk (Below.refl w.heap.size w)
 have H : ((sibylref03_IsNaN.f a0).bind fun t417 => (if t417 = true then (sibylref21_Add.j0 k a0 a1 true) else ((sibylref03_IsNaN.f a1).bind fun t418 => (sibylref21_Add.j0 k a0 a1 t418)))) = some r := h
 clear h
 have HC3 := Aside0.mk H
 clear H
 go_enter Try.func37, Try.ntmps37
 go_upto_region 1 with (fail)
 go_cut [25] (fun v25 wc => ∃ (kq : Nat) (x25_2 : Bool), v25 = .bool x25_2 ∧ Aside0 (sibylref21_Add.j0 kq a0 a1 x25_2 = some r) ∧ Aside0 (kq ≤ k) ∧ Aside0 (Below w.heap.size w wc))
 case first =>
  have H := HC3.out
  clear HC3
  obtain ⟨t417, A4, H⟩ := bindA H
  by_cases c5 : t417 = true
  ·subst c5
   have H1 : (sibylref21_Add.j0 k a0 a1 true) = some r := by rw [if_pos rfl] at H; exact H
   clear H
   have H := H1
   clear H1
   have H' := Aside0.mk H
   clear H
   go_wp2_with (first | ((with_reducible refine gate_callee (f := 22) rfl ?_); refine goesM (some 21) rfl rfl Try.func22 (by kernel_rfl) rfl #[.int .u64 a0] rfl (by rfl) ?_; (with_reducible refine (sibylref03_IsNaN.calls a0 true _ A4.out).mono ?_); rintro e w' ⟨rfl, ⟨nd, rfl⟩⟩; refine ⟨_, rfl, ?_⟩))
   go_meet
   case rel => exact ⟨_, (true), (by first | rfl | (simp; done) | (simp [*]; done)), H', ⟨by first | omega | exact Nat.le_refl _⟩, ⟨bl HB⟩⟩
  ·replace c5 := Bool.eq_false_iff.mpr c5
   subst c5
   have H1 : ((sibylref03_IsNaN.f a1).bind fun t418 => (sibylref21_Add.j0 k a0 a1 t418)) = some r := by rw [if_neg (show ¬ (false = true) by decide)] at H; exact H
   clear H
   have H := H1
   clear H1
   obtain ⟨t418, A6, H⟩ := bindA H
   have H' := Aside0.mk H
   clear H
   go_wp2_with (first | ((with_reducible refine gate_callee (f := 22) rfl ?_); refine goesM (some 21) rfl rfl Try.func22 (by kernel_rfl) rfl #[.int .u64 a0] rfl (by rfl) ?_; (with_reducible refine (sibylref03_IsNaN.calls a0 false _ A4.out).mono ?_); rintro e w' ⟨rfl, ⟨nd, rfl⟩⟩; refine ⟨_, rfl, ?_⟩) | (go_at_call 22; (with_reducible refine (sibylref03_IsNaN.calls a1 t418 _ A6.out).mono ?_); rintro e w' ⟨rfl, ⟨nd, rfl⟩⟩))
   go_meet
   case rel => exact ⟨_, (t418), (by first | rfl | (simp; done) | (simp [*]; done)), H', ⟨by first | omega | exact Nat.le_refl _⟩, ⟨bl HB⟩⟩
 case rest =>
  clear HC3
  try clear c2
  try clear p2
  try clear c3
  try clear c5
  obtain ⟨kq, x25_2, rfl, HA, HJ2, HB⟩ := hcut
  cases kq with
  | zero => exact absurd HA.out (by simp [sibylref21_Add.j0])
  | succ kj2 =>
   have H := HA.out
   clear HA
   simp only [sibylref21_Add.j0] at H
   by_cases c7 : x25_2 = true
   ·subst c7
    have H1 : (some 9221120237041090561) = some r := by rw [if_pos rfl] at H; exact H
    clear H
    have H := H1
    clear H1
    obtain rfl := Option.some.inj H
    go_wp2
    go_ret
    exact ⟨by first | rfl | simp [*], bl HB⟩
   ·replace c7 := Bool.eq_false_iff.mpr c7
    subst c7
    have H1 : ((sibylref03_Size.f a0).bind fun t419 => ((sibylref03_Size.f a1).bind fun t420 => (if t419 = 9218868437227405312 then (if t420 = 9218868437227405312 then (sibylref21_Add.j1 kj2 a0 a1 (t419 == 9218868437227405312) (t420 == 9218868437227405312) (a0 != a1)) else (sibylref21_Add.j1 kj2 a0 a1 (t419 == 9218868437227405312) (t420 == 9218868437227405312) false)) else (sibylref21_Add.j1 kj2 a0 a1 (t419 == 9218868437227405312) (t420 == 9218868437227405312) false)))) = some r := by rw [if_neg (show ¬ (false = true) by decide)] at H; exact H
    clear H
    have H := H1
    clear H1
    obtain ⟨t419, A8, H⟩ := bindA H
    obtain ⟨t420, A9, H⟩ := bindA H
    have HC10 := Aside0.mk H
    clear H
    go_upto_region 4 with (first | ((with_reducible refine gate_callee (f := 49) rfl ?_); refine goesM (some 27) rfl rfl Try.func49 (by kernel_rfl) rfl #[.int .u64 a0] rfl (by rfl) ?_; (with_reducible refine (sibylref03_Size.calls a0 t419 _ A8.out).mono ?_); rintro e w' ⟨rfl, ⟨nd, rfl⟩⟩; refine ⟨_, rfl, ?_⟩) | ((with_reducible refine gate_callee (f := 49) rfl ?_); refine goesM (some 30) rfl rfl Try.func49 (by kernel_rfl) rfl #[.int .u64 a1] rfl (by rfl) ?_; (with_reducible refine (sibylref03_Size.calls a1 t420 _ A9.out).mono ?_); rintro e w' ⟨rfl, ⟨nd, rfl⟩⟩; refine ⟨_, rfl, ?_⟩))
    (try simp only [Act.put, List.setIfInBounds_toArray, List.set_cons_zero, List.set_cons_succ])
    go_cut [5, 6, 40] (fun v5 v6 v40 wc => ∃ (kq : Nat) (x40_9 : Bool), v5 = .bool (t419 == 9218868437227405312) ∧ v6 = .bool (t420 == 9218868437227405312) ∧ v40 = .bool x40_9 ∧ Aside0 (sibylref21_Add.j1 kq a0 a1 (t419 == 9218868437227405312) (t420 == 9218868437227405312) x40_9 = some r) ∧ Aside0 (kq ≤ kj2) ∧ Aside0 (Below w.heap.size w wc))
    case first =>
     have H := HC10.out
     clear HC10
     by_cases c11 : t419 = 9218868437227405312
     ·rw [if_pos c11] at H
      have c11b0 : (t419 == 9218868437227405312) = true := beq_iff_eq.mpr c11
      have c11b1 : (t419 != 9218868437227405312) = false := bne_eq_false_iff_eq.mpr c11
      clear c11
      (first | rw [c11b0] | (simp only [i64_w, i32_w]; rw [c11b0]) | skip)
      by_cases c12 : t420 = 9218868437227405312
      ·rw [if_pos c12] at H
       have c12b0 : (t420 == 9218868437227405312) = true := beq_iff_eq.mpr c12
       have c12b1 : (t420 != 9218868437227405312) = false := bne_eq_false_iff_eq.mpr c12
       clear c12
       have H' := Aside0.mk H
       clear H
       go_wp2
       go_meet
       case rel => exact ⟨_, ((a0 != a1)), (by first | rfl | (simp; done) | (simp [*]; done)), (by first | rfl | (simp; done) | (simp [*]; done)), (by first | rfl | (simp; done) | (simp [*]; done)), H', ⟨by have := HJ2.out; first | omega | exact Nat.le_refl _⟩, ⟨bl HB⟩⟩
      ·rw [if_neg c12] at H
       have c12b0 : (t420 == 9218868437227405312) = false := beq_eq_false_iff_ne.mpr c12
       have c12b1 : (t420 != 9218868437227405312) = true := bne_iff_ne.mpr c12
       have H' := Aside0.mk H
       clear H
       go_wp2
       go_meet
       case rel => exact ⟨_, (false), (by first | rfl | (simp; done) | (simp [*]; done)), (by first | rfl | (simp; done) | (simp [*]; done)), (by first | rfl | (simp; done) | (simp [*]; done)), H', ⟨by have := HJ2.out; first | omega | exact Nat.le_refl _⟩, ⟨bl HB⟩⟩
     ·rw [if_neg c11] at H
      have c11b0 : (t419 == 9218868437227405312) = false := beq_eq_false_iff_ne.mpr c11
      have c11b1 : (t419 != 9218868437227405312) = true := bne_iff_ne.mpr c11
      (first | rw [c11b0] | (simp only [i64_w, i32_w]; rw [c11b0]) | skip)
      have H' := Aside0.mk H
      clear H
      go_wp2
      go_meet
      case rel => exact ⟨_, (false), (by first | rfl | (simp; done) | (simp [*]; done)), (by first | rfl | (simp; done) | (simp [*]; done)), (by first | rfl | (simp; done) | (simp [*]; done)), H', ⟨by have := HJ2.out; first | omega | exact Nat.le_refl _⟩, ⟨bl HB⟩⟩
    case rest =>
     clear HC10
     try clear c1
     try clear c2
     try clear p2
     try clear c3
     try clear c4
     try clear c5
     try clear c7
     try clear c11
     try clear c11b0
     try clear c11b1
     try clear c12
     try clear c12b0
     try clear c12b1
     try clear p2
     obtain ⟨kq, x40_9, rfl, rfl, rfl, HA, HJ9, HB⟩ := hcut
     cases kq with
     | zero => exact absurd HA.out (by simp [sibylref21_Add.j1])
     | succ kj9 =>
      have H := HA.out
      clear HA
      simp only [sibylref21_Add.j1] at H
      by_cases c13 : x40_9 = true
      ·subst c13
       have H1 : (some 9221120237041090561) = some r := by rw [if_pos rfl] at H; exact H
       clear H
       have H := H1
       clear H1
       obtain rfl := Option.some.inj H
       go_wp2
       go_ret
       exact ⟨by first | rfl | simp [*], bl HB⟩
      ·replace c13 := Bool.eq_false_iff.mpr c13
       subst c13
       have H1 : (if (t419 == 9218868437227405312) = true then (some a0) else (if (t420 == 9218868437227405312) = true then (some a1) else ((sibylref03_Parts.f kj9 a0).bind fun bt421 => ((sibylref03_Parts.f kj9 a1).bind fun bt425 => (if bt425.2.2.1 < bt421.2.2.1 then (sibylref21_Add.j2 kj9 a0 bt421.1 bt421.2.1 bt421.2.2.1 bt425.1 bt425.2.1 bt425.2.2.1 bt425.2.2.1) else (sibylref21_Add.j2 kj9 a0 bt421.1 bt421.2.1 bt421.2.2.1 bt425.1 bt425.2.1 bt425.2.2.1 bt421.2.2.1)))))) = some r := by rw [if_neg (show ¬ (false = true) by decide)] at H; exact H
       clear H
       have H := H1
       clear H1
       by_cases c14 : (t419 == 9218868437227405312) = true
       ·rw [if_pos c14] at H
        have c14b0 : (t419 == 9218868437227405312) = true := c14
        (try (have c14b1 : decide (t419 = 9218868437227405312) = true := by simpa using c14))
        (try (have c14b2 : (t419 == 9218868437227405312) = true := by simpa using c14))
        clear c14
        obtain rfl := Option.some.inj H
        go_wp2
        go_ret
        exact ⟨by first | rfl | simp [*], bl HB⟩
       ·rw [if_neg c14] at H
        have c14b0 : (t419 == 9218868437227405312) = false := by simpa using c14
        (try (have c14b1 : decide (t419 = 9218868437227405312) = false := by simpa using c14))
        (try (have c14b2 : (t419 == 9218868437227405312) = false := by simpa using c14))
        (try (have c14b3 : ¬ (t419 = 9218868437227405312) := by simpa using c14))
        clear c14
        by_cases c15 : (t420 == 9218868437227405312) = true
        ·rw [if_pos c15] at H
         have c15b0 : (t420 == 9218868437227405312) = true := c15
         (try (have c15b1 : decide (t420 = 9218868437227405312) = true := by simpa using c15))
         (try (have c15b2 : (t420 == 9218868437227405312) = true := by simpa using c15))
         clear c15
         obtain rfl := Option.some.inj H
         go_wp2
         go_ret
         exact ⟨by first | rfl | simp [*], bl HB⟩
        ·rw [if_neg c15] at H
         have c15b0 : (t420 == 9218868437227405312) = false := by simpa using c15
         (try (have c15b1 : decide (t420 = 9218868437227405312) = false := by simpa using c15))
         (try (have c15b2 : (t420 == 9218868437227405312) = false := by simpa using c15))
         (try (have c15b3 : ¬ (t420 = 9218868437227405312) := by simpa using c15))
         clear c15
         obtain ⟨⟨t421, t422, t423, t424⟩, A16, H⟩ := bindA H
         dsimp only at H
         obtain ⟨⟨t425, t426, t427, t428⟩, A17, H⟩ := bindA H
         dsimp only at H
         have HC18 := Aside0.mk H
         clear H
         go_upto_if 62 with (first | ((with_reducible refine gate_callee (f := 60) rfl ?_); refine goesM (some 47) rfl rfl Try.func60 (by kernel_rfl) rfl #[.int .u64 a0] rfl (by rfl) ?_; (with_reducible refine (sibylref03_Parts.calls kj9 a0 t421 t422 t423 t424 _ A16.out).mono ?_); rintro e w' ⟨rfl, ⟨nd, rfl⟩⟩; refine ⟨_, rfl, ?_⟩) | ((with_reducible refine gate_callee (f := 60) rfl ?_); refine goesM (some 54) rfl rfl Try.func60 (by kernel_rfl) rfl #[.int .u64 a1] rfl (by rfl) ?_; (with_reducible refine (sibylref03_Parts.calls kj9 a1 t425 t426 t427 t428 _ A17.out).mono ?_); rintro e w' ⟨rfl, ⟨nd, rfl⟩⟩; refine ⟨_, rfl, ?_⟩))
         (try simp only [Act.put, List.setIfInBounds_toArray, List.set_cons_zero, List.set_cons_succ])
         go_cut [15] (fun v15 wc => ∃ (kq : Nat) (x15_17 : Int), v15 = .int .i64 x15_17 ∧ Aside0 (sibylref21_Add.j2 kq a0 t421 t422 t423 t425 t426 t427 x15_17 = some r) ∧ Aside0 (kq ≤ kj9) ∧ Aside0 (Below w.heap.size w wc))
         case first =>
          have H := HC18.out
          clear HC18
          by_cases c19 : t427 < t423
          ·rw [if_pos c19] at H
           have c19b0 : decide (t427 < t423) = true := decide_eq_true c19
           clear c19
           (first | rw [c19b0] | (simp only [i64_w, i32_w]; rw [c19b0]) | skip)
           have H' := Aside0.mk H
           clear H
           go_wp2
           go_meet
           case rel => exact ⟨_, (t427), (by first | rfl | (simp; done) | (simp [*]; done)), H', ⟨by have := HJ2.out; have := HJ9.out; first | omega | exact Nat.le_refl _⟩, ⟨bl HB⟩⟩
          ·rw [if_neg c19] at H
           have c19b0 : decide (t427 < t423) = false := decide_eq_false c19
           clear c19
           (first | rw [c19b0] | (simp only [i64_w, i32_w]; rw [c19b0]) | skip)
           have H' := Aside0.mk H
           clear H
           go_wp2
           go_meet
           case rel => exact ⟨_, (t423), (by first | rfl | (simp; done) | (simp [*]; done)), H', ⟨by have := HJ2.out; have := HJ9.out; first | omega | exact Nat.le_refl _⟩, ⟨bl HB⟩⟩
         case rest =>
          clear HC18
          try clear c1
          try clear c2
          try clear p2
          try clear c3
          try clear c4
          try clear c5
          try clear c6
          try clear c7
          try clear c11
          try clear c11b0
          try clear c11b1
          try clear c12
          try clear c12b0
          try clear c12b1
          try clear c13
          try clear c14
          try clear c14b0
          try clear c14b1
          try clear c14b2
          try clear c15
          try clear c15b0
          try clear c15b1
          try clear c15b2
          try clear c19
          try clear c19b0
          try clear p2
          obtain ⟨kq, x15_17, rfl, HA, HJ17, HB⟩ := hcut
          cases kq with
          | zero => exact absurd HA.out (by simp [sibylref21_Add.j2])
          | succ kj17 =>
           have H := HA.out
           clear HA
           simp only [sibylref21_Add.j2] at H
           obtain ⟨t429, A20, H⟩ := bindA H
           obtain ⟨t432, A21, H⟩ := bindA H
           obtain ⟨t435, A22, H⟩ := bindA H
           obtain ⟨t438, A23, H⟩ := bindA H
           by_cases c24 : (t421 != t425) = true
           ·rw [if_pos c24] at H
            have c24b0 : (t421 != t425) = true := c24
            (try (have c24b1 : decide (t421 = t425) = false := by simpa using c24))
            (try (have c24b2 : (t421 == t425) = false := by simpa using c24))
            (try (have c24b3 : ¬ (t421 = t425) := by simpa using c24))
            clear c24
            obtain ⟨t441, A25, H⟩ := bindA H
            by_cases c26 : t441 = 0
            ·rw [if_pos c26] at H
             have c26b0 : (t441 == 0) = true := beq_iff_eq.mpr c26
             have c26b1 : (t441 != 0) = false := bne_eq_false_iff_eq.mpr c26
             clear c26
             obtain rfl := Option.some.inj H
             go_wp2_with (first | ((with_reducible refine gate_callee (f := 63) rfl ?_); refine goesM (some 65) rfl rfl Try.func63 (by kernel_rfl) rfl #[.int .u64 t422] rfl (by rfl) ?_; (with_reducible refine (sibylref21_natural.calls t422 t429 _ A20.out).mono ?_); rintro e w27 ⟨v430, rfl, ho0, hb⟩; refine ⟨_, rfl, ?_⟩; have n_ := mk2 (Kd.R_lower ho0 (below_size (bl HB))) (below_step (bl HB) hb); clear HB; obtain ⟨HO431, HB⟩ := n_; (try clear hb); (try clear hb2); (try clear hk); (try clear hi); (try clear ho0); obtain ⟨Ao28, co28, eo28⟩ := Kd.R_slice HO431.out; subst eo28) | ((with_reducible refine gate_callee (f := 69) rfl ?_); refine goesM (some 69) rfl rfl Try.func69 (by kernel_rfl) rfl #[.slice Ao28 t429.length co28, .int .i64 (wrap64 (t423 - x15_17))] rfl (by rfl) ?_; (with_reducible refine (sibylref01_Shl.calls kj17 _ _ t429 (wrap64 (t423 - x15_17)) t432 _ ?side1 ?side2 A21.out).mono ?_); (case side1 => exact ca ((Kd.R_reads' HO431.out).2.2)); (case side2 => exact (Kd.R_reads' HO431.out).2.1); rintro e w29 ⟨v433, rfl, ho0, hb⟩; refine ⟨_, rfl, ?_⟩; have n_ := mk3 (Kd.R_elder' (ra HO431.out) (Kd.R_base ho0) hb) (Kd.R_lower (Kd.R_new' ho0 (Kd.R_lt (ra HO431.out))) (below_size (bl HB))) (below_step (bl HB) hb); clear HO431 HB; obtain ⟨HO431, HO434, HB⟩ := n_; (try clear hb); (try clear hb2); (try clear hk); (try clear hi); (try clear ho0)) | ((with_reducible refine gate_callee (f := 63) rfl ?_); refine goesM (some 71) rfl rfl Try.func63 (by kernel_rfl) rfl #[.int .u64 t426] rfl (by rfl) ?_; (with_reducible refine (sibylref21_natural.calls t426 t435 _ A22.out).mono ?_); rintro e w30 ⟨v436, rfl, ho0, hb⟩; refine ⟨_, rfl, ?_⟩; have n_ := mk4 (Kd.R_elder' (ra HO431.out) (Kd.R_base ho0) hb) (Kd.R_elder' (ra HO434.out) (Kd.R_base ho0) hb) (Kd.R_lower (Kd.R_new' (Kd.R_new' ho0 (Kd.R_lt (ra HO431.out))) (Kd.R_lt (ra HO434.out))) (below_size (bl HB))) (below_step (bl HB) hb); clear HO431 HO434 HB; obtain ⟨HO431, HO434, HO437, HB⟩ := n_; (try clear hb); (try clear hb2); (try clear hk); (try clear hi); (try clear ho0); obtain ⟨Ao31, co31, eo31⟩ := Kd.R_slice HO437.out; subst eo31) | ((with_reducible refine gate_callee (f := 69) rfl ?_); refine goesM (some 75) rfl rfl Try.func69 (by kernel_rfl) rfl #[.slice Ao31 t435.length co31, .int .i64 (wrap64 (t427 - x15_17))] rfl (by rfl) ?_; (with_reducible refine (sibylref01_Shl.calls kj17 _ _ t435 (wrap64 (t427 - x15_17)) t438 _ ?side1 ?side2 A23.out).mono ?_); (case side1 => exact ca ((Kd.R_reads' HO437.out).2.2)); (case side2 => exact (Kd.R_reads' HO437.out).2.1); rintro e w32 ⟨v439, rfl, ho0, hb⟩; refine ⟨_, rfl, ?_⟩; have n_ := mk5 (Kd.R_elder' (ra HO431.out) (Kd.R_base ho0) hb) (Kd.R_elder' (ra HO434.out) (Kd.R_base ho0) hb) (Kd.R_elder' (ra HO437.out) (Kd.R_base ho0) hb) (Kd.R_lower (Kd.R_new' (Kd.R_new' (Kd.R_new' ho0 (Kd.R_lt (ra HO431.out))) (Kd.R_lt (ra HO434.out))) (Kd.R_lt (ra HO437.out))) (below_size (bl HB))) (below_step (bl HB) hb); clear HO431 HO434 HO437 HB; obtain ⟨HO431, HO434, HO437, HO440, HB⟩ := n_; (try clear hb); (try clear hb2); (try clear hk); (try clear hi); (try clear ho0); obtain ⟨Ao33, co33, eo33⟩ := Kd.R_slice HO434.out; subst eo33; obtain ⟨Ao34, co34, eo34⟩ := Kd.R_slice HO440.out; subst eo34) | ((with_reducible refine gate_callee (f := 70) rfl ?_); refine goesM (some 81) rfl rfl Try.func70 (by kernel_rfl) rfl #[.slice Ao33 t432.length co33, .slice Ao34 t438.length co34] rfl (by rfl) ?_; (with_reducible refine (sibylref01_Cmp.calls kj17 _ _ t432 _ _ t438 t441 _ ?side1 ?side2 ?side3 ?side4 A25.out).mono ?_); (case side1 => exact ca ((Kd.R_reads' HO434.out).2.2)); (case side2 => exact (Kd.R_reads' HO434.out).2.1); (case side3 => exact ca ((Kd.R_reads' HO440.out).2.2)); (case side4 => exact (Kd.R_reads' HO440.out).2.1); rintro e w35 ⟨rfl, hb⟩; refine ⟨_, rfl, ?_⟩; have n_ := mk5 (Kd.R_below (ra HO431.out) hb) (Kd.R_below (ra HO434.out) hb) (Kd.R_below (ra HO437.out) hb) (Kd.R_below (ra HO440.out) hb) (below_step (bl HB) hb); clear HO431 HO434 HO437 HO440 HB; obtain ⟨HO431, HO434, HO437, HO440, HB⟩ := n_; (try clear hb); (try clear hb2); (try clear hk); (try clear hi)))
             go_ret
             exact ⟨by first | rfl | simp [*], bl HB⟩
            ·rw [if_neg c26] at H
             have c26b0 : (t441 == 0) = false := beq_eq_false_iff_ne.mpr c26
             have c26b1 : (t441 != 0) = true := bne_iff_ne.mpr c26
             by_cases c36 : t441 > 0
             ·rw [if_pos c36] at H
              have c36b0 : decide (0 < t441) = true := decide_eq_true c36
              clear c36
              obtain ⟨t442, A37, H⟩ := bindA H
              obtain ⟨t445, A38, H⟩ := bindA H
              obtain rfl := Option.some.inj H
              go_wp2_with (first | ((with_reducible refine gate_callee (f := 63) rfl ?_); refine goesM (some 65) rfl rfl Try.func63 (by kernel_rfl) rfl #[.int .u64 t422] rfl (by rfl) ?_; (with_reducible refine (sibylref21_natural.calls t422 t429 _ A20.out).mono ?_); rintro e w39 ⟨v430, rfl, ho0, hb⟩; refine ⟨_, rfl, ?_⟩; have n_ := mk2 (Kd.R_lower ho0 (below_size (bl HB))) (below_step (bl HB) hb); clear HB; obtain ⟨HO431, HB⟩ := n_; (try clear hb); (try clear hb2); (try clear hk); (try clear hi); (try clear ho0); obtain ⟨Ao40, co40, eo40⟩ := Kd.R_slice HO431.out; subst eo40) | ((with_reducible refine gate_callee (f := 69) rfl ?_); refine goesM (some 69) rfl rfl Try.func69 (by kernel_rfl) rfl #[.slice Ao40 t429.length co40, .int .i64 (wrap64 (t423 - x15_17))] rfl (by rfl) ?_; (with_reducible refine (sibylref01_Shl.calls kj17 _ _ t429 (wrap64 (t423 - x15_17)) t432 _ ?side1 ?side2 A21.out).mono ?_); (case side1 => exact ca ((Kd.R_reads' HO431.out).2.2)); (case side2 => exact (Kd.R_reads' HO431.out).2.1); rintro e w41 ⟨v433, rfl, ho0, hb⟩; refine ⟨_, rfl, ?_⟩; have n_ := mk3 (Kd.R_elder' (ra HO431.out) (Kd.R_base ho0) hb) (Kd.R_lower (Kd.R_new' ho0 (Kd.R_lt (ra HO431.out))) (below_size (bl HB))) (below_step (bl HB) hb); clear HO431 HB; obtain ⟨HO431, HO434, HB⟩ := n_; (try clear hb); (try clear hb2); (try clear hk); (try clear hi); (try clear ho0)) | ((with_reducible refine gate_callee (f := 63) rfl ?_); refine goesM (some 71) rfl rfl Try.func63 (by kernel_rfl) rfl #[.int .u64 t426] rfl (by rfl) ?_; (with_reducible refine (sibylref21_natural.calls t426 t435 _ A22.out).mono ?_); rintro e w42 ⟨v436, rfl, ho0, hb⟩; refine ⟨_, rfl, ?_⟩; have n_ := mk4 (Kd.R_elder' (ra HO431.out) (Kd.R_base ho0) hb) (Kd.R_elder' (ra HO434.out) (Kd.R_base ho0) hb) (Kd.R_lower (Kd.R_new' (Kd.R_new' ho0 (Kd.R_lt (ra HO431.out))) (Kd.R_lt (ra HO434.out))) (below_size (bl HB))) (below_step (bl HB) hb); clear HO431 HO434 HB; obtain ⟨HO431, HO434, HO437, HB⟩ := n_; (try clear hb); (try clear hb2); (try clear hk); (try clear hi); (try clear ho0); obtain ⟨Ao43, co43, eo43⟩ := Kd.R_slice HO437.out; subst eo43) | ((with_reducible refine gate_callee (f := 69) rfl ?_); refine goesM (some 75) rfl rfl Try.func69 (by kernel_rfl) rfl #[.slice Ao43 t435.length co43, .int .i64 (wrap64 (t427 - x15_17))] rfl (by rfl) ?_; (with_reducible refine (sibylref01_Shl.calls kj17 _ _ t435 (wrap64 (t427 - x15_17)) t438 _ ?side1 ?side2 A23.out).mono ?_); (case side1 => exact ca ((Kd.R_reads' HO437.out).2.2)); (case side2 => exact (Kd.R_reads' HO437.out).2.1); rintro e w44 ⟨v439, rfl, ho0, hb⟩; refine ⟨_, rfl, ?_⟩; have n_ := mk5 (Kd.R_elder' (ra HO431.out) (Kd.R_base ho0) hb) (Kd.R_elder' (ra HO434.out) (Kd.R_base ho0) hb) (Kd.R_elder' (ra HO437.out) (Kd.R_base ho0) hb) (Kd.R_lower (Kd.R_new' (Kd.R_new' (Kd.R_new' ho0 (Kd.R_lt (ra HO431.out))) (Kd.R_lt (ra HO434.out))) (Kd.R_lt (ra HO437.out))) (below_size (bl HB))) (below_step (bl HB) hb); clear HO431 HO434 HO437 HB; obtain ⟨HO431, HO434, HO437, HO440, HB⟩ := n_; (try clear hb); (try clear hb2); (try clear hk); (try clear hi); (try clear ho0); obtain ⟨Ao45, co45, eo45⟩ := Kd.R_slice HO434.out; subst eo45; obtain ⟨Ao46, co46, eo46⟩ := Kd.R_slice HO440.out; subst eo46) | ((with_reducible refine gate_callee (f := 70) rfl ?_); refine goesM (some 81) rfl rfl Try.func70 (by kernel_rfl) rfl #[.slice Ao45 t432.length co45, .slice Ao46 t438.length co46] rfl (by rfl) ?_; (with_reducible refine (sibylref01_Cmp.calls kj17 _ _ t432 _ _ t438 t441 _ ?side1 ?side2 ?side3 ?side4 A25.out).mono ?_); (case side1 => exact ca ((Kd.R_reads' HO434.out).2.2)); (case side2 => exact (Kd.R_reads' HO434.out).2.1); (case side3 => exact ca ((Kd.R_reads' HO440.out).2.2)); (case side4 => exact (Kd.R_reads' HO440.out).2.1); rintro e w47 ⟨rfl, hb⟩; refine ⟨_, rfl, ?_⟩; have n_ := mk5 (Kd.R_below (ra HO431.out) hb) (Kd.R_below (ra HO434.out) hb) (Kd.R_below (ra HO437.out) hb) (Kd.R_below (ra HO440.out) hb) (below_step (bl HB) hb); clear HO431 HO434 HO437 HO440 HB; obtain ⟨HO431, HO434, HO437, HO440, HB⟩ := n_; (try clear hb); (try clear hb2); (try clear hk); (try clear hi)) | ((with_reducible refine gate_callee (f := 71) rfl ?_); refine goesM (some 89) rfl rfl Try.func71 (by kernel_rfl) rfl #[.slice Ao45 t432.length co45, .slice Ao46 t438.length co46] rfl (by rfl) ?_; (with_reducible refine (sibylref01_Minus.calls kj17 _ _ t432 _ _ t438 t442 _ ?side1 ?side2 ?side3 ?side4 A37.out).mono ?_); (case side1 => exact ca ((Kd.R_reads' HO434.out).2.2)); (case side2 => exact (Kd.R_reads' HO434.out).2.1); (case side3 => exact ca ((Kd.R_reads' HO440.out).2.2)); (case side4 => exact (Kd.R_reads' HO440.out).2.1); rintro e w48 ⟨v443, rfl, ho0, hb⟩; refine ⟨_, rfl, ?_⟩; have n_ := mk6 (Kd.R_elder' (ra HO431.out) (Kd.R_base ho0) hb) (Kd.R_elder' (ra HO434.out) (Kd.R_base ho0) hb) (Kd.R_elder' (ra HO437.out) (Kd.R_base ho0) hb) (Kd.R_elder' (ra HO440.out) (Kd.R_base ho0) hb) (Kd.R_lower (Kd.R_new' (Kd.R_new' (Kd.R_new' (Kd.R_new' ho0 (Kd.R_lt (ra HO431.out))) (Kd.R_lt (ra HO434.out))) (Kd.R_lt (ra HO437.out))) (Kd.R_lt (ra HO440.out))) (below_size (bl HB))) (below_step (bl HB) hb); clear HO431 HO434 HO437 HO440 HB; obtain ⟨HO431, HO434, HO437, HO440, HO444, HB⟩ := n_; (try clear hb); (try clear hb2); (try clear hk); (try clear hi); (try clear ho0); obtain ⟨Ao49, co49, eo49⟩ := Kd.R_slice HO444.out; subst eo49) | ((with_reducible refine gate_callee (f := 61) rfl ?_); refine goesM (some 91) rfl rfl Try.func61 (by kernel_rfl) rfl #[.bool t421, .slice Ao49 t442.length co49, .int .i64 x15_17, .bool false] rfl (by rfl) ?_; (with_reducible refine (sibylref21_round.calls kj17 t421 (fun k_ => some k_ = (.slice Ao49 t442.length co49 : Value).ownBlock) (.slice Ao49 t442.length co49) t442 x15_17 false t445 w _ ?side1 ?side2 A38.out).mono ?_); (case side1 => exact bl HB); (case side2 => exact Kd.R_tight rfl HO444.out); rintro e w50 ⟨rfl, hb, hkp⟩; refine ⟨_, rfl, ?_⟩; have n_ := mk5 (Kd.R_mono (ok' := fun k_ => some k_ ≠ (.slice Ao45 t432.length co45 : Value).ownBlock ∧ some k_ ≠ (.slice Ao43 t435.length co43 : Value).ownBlock ∧ some k_ ≠ (.slice Ao46 t438.length co46 : Value).ownBlock) (Kd.R_keptB (HO431.out) hkp (fun k_ hk_ hs_ => (hk_.2) hs_)) (fun k_ hk_ => ⟨hk_.1.1.1.1.2, hk_.1.1.1.2, hk_.1.1.2⟩)) (Kd.R_mono (ok' := fun k_ => some k_ ≠ (.slice Ao40 t429.length co40 : Value).ownBlock ∧ some k_ ≠ (.slice Ao43 t435.length co43 : Value).ownBlock ∧ some k_ ≠ (.slice Ao46 t438.length co46 : Value).ownBlock) (Kd.R_keptB (HO434.out) hkp (fun k_ hk_ hs_ => (hk_.2) hs_)) (fun k_ hk_ => ⟨hk_.1.1.1.1.2, hk_.1.1.1.2, hk_.1.1.2⟩)) (Kd.R_mono (ok' := fun k_ => some k_ ≠ (.slice Ao40 t429.length co40 : Value).ownBlock ∧ some k_ ≠ (.slice Ao45 t432.length co45 : Value).ownBlock ∧ some k_ ≠ (.slice Ao46 t438.length co46 : Value).ownBlock) (Kd.R_keptB (HO437.out) hkp (fun k_ hk_ hs_ => (hk_.2) hs_)) (fun k_ hk_ => ⟨hk_.1.1.1.1.2, hk_.1.1.1.2, hk_.1.1.2⟩)) (Kd.R_mono (ok' := fun k_ => some k_ ≠ (.slice Ao40 t429.length co40 : Value).ownBlock ∧ some k_ ≠ (.slice Ao45 t432.length co45 : Value).ownBlock ∧ some k_ ≠ (.slice Ao43 t435.length co43 : Value).ownBlock) (Kd.R_keptB (HO440.out) hkp (fun k_ hk_ hs_ => (hk_.2) hs_)) (fun k_ hk_ => ⟨hk_.1.1.1.1.2, hk_.1.1.1.2, hk_.1.1.2⟩)) (hb); clear HO431 HO434 HO437 HO440 HB HO444; obtain ⟨HO431, HO434, HO437, HO440, HB⟩ := n_; (try clear hb); (try clear hkp)))
              go_ret
              exact ⟨by first | rfl | simp [*], bl HB⟩
             ·rw [if_neg c36] at H
              have c36b0 : decide (0 < t441) = false := decide_eq_false c36
              clear c36
              obtain ⟨t446, A51, H⟩ := bindA H
              obtain ⟨t449, A52, H⟩ := bindA H
              obtain rfl := Option.some.inj H
              go_wp2_with (first | ((with_reducible refine gate_callee (f := 63) rfl ?_); refine goesM (some 65) rfl rfl Try.func63 (by kernel_rfl) rfl #[.int .u64 t422] rfl (by rfl) ?_; (with_reducible refine (sibylref21_natural.calls t422 t429 _ A20.out).mono ?_); rintro e w53 ⟨v430, rfl, ho0, hb⟩; refine ⟨_, rfl, ?_⟩; have n_ := mk2 (Kd.R_lower ho0 (below_size (bl HB))) (below_step (bl HB) hb); clear HB; obtain ⟨HO431, HB⟩ := n_; (try clear hb); (try clear hb2); (try clear hk); (try clear hi); (try clear ho0); obtain ⟨Ao54, co54, eo54⟩ := Kd.R_slice HO431.out; subst eo54) | ((with_reducible refine gate_callee (f := 69) rfl ?_); refine goesM (some 69) rfl rfl Try.func69 (by kernel_rfl) rfl #[.slice Ao54 t429.length co54, .int .i64 (wrap64 (t423 - x15_17))] rfl (by rfl) ?_; (with_reducible refine (sibylref01_Shl.calls kj17 _ _ t429 (wrap64 (t423 - x15_17)) t432 _ ?side1 ?side2 A21.out).mono ?_); (case side1 => exact ca ((Kd.R_reads' HO431.out).2.2)); (case side2 => exact (Kd.R_reads' HO431.out).2.1); rintro e w55 ⟨v433, rfl, ho0, hb⟩; refine ⟨_, rfl, ?_⟩; have n_ := mk3 (Kd.R_elder' (ra HO431.out) (Kd.R_base ho0) hb) (Kd.R_lower (Kd.R_new' ho0 (Kd.R_lt (ra HO431.out))) (below_size (bl HB))) (below_step (bl HB) hb); clear HO431 HB; obtain ⟨HO431, HO434, HB⟩ := n_; (try clear hb); (try clear hb2); (try clear hk); (try clear hi); (try clear ho0)) | ((with_reducible refine gate_callee (f := 63) rfl ?_); refine goesM (some 71) rfl rfl Try.func63 (by kernel_rfl) rfl #[.int .u64 t426] rfl (by rfl) ?_; (with_reducible refine (sibylref21_natural.calls t426 t435 _ A22.out).mono ?_); rintro e w56 ⟨v436, rfl, ho0, hb⟩; refine ⟨_, rfl, ?_⟩; have n_ := mk4 (Kd.R_elder' (ra HO431.out) (Kd.R_base ho0) hb) (Kd.R_elder' (ra HO434.out) (Kd.R_base ho0) hb) (Kd.R_lower (Kd.R_new' (Kd.R_new' ho0 (Kd.R_lt (ra HO431.out))) (Kd.R_lt (ra HO434.out))) (below_size (bl HB))) (below_step (bl HB) hb); clear HO431 HO434 HB; obtain ⟨HO431, HO434, HO437, HB⟩ := n_; (try clear hb); (try clear hb2); (try clear hk); (try clear hi); (try clear ho0); obtain ⟨Ao57, co57, eo57⟩ := Kd.R_slice HO437.out; subst eo57) | ((with_reducible refine gate_callee (f := 69) rfl ?_); refine goesM (some 75) rfl rfl Try.func69 (by kernel_rfl) rfl #[.slice Ao57 t435.length co57, .int .i64 (wrap64 (t427 - x15_17))] rfl (by rfl) ?_; (with_reducible refine (sibylref01_Shl.calls kj17 _ _ t435 (wrap64 (t427 - x15_17)) t438 _ ?side1 ?side2 A23.out).mono ?_); (case side1 => exact ca ((Kd.R_reads' HO437.out).2.2)); (case side2 => exact (Kd.R_reads' HO437.out).2.1); rintro e w58 ⟨v439, rfl, ho0, hb⟩; refine ⟨_, rfl, ?_⟩; have n_ := mk5 (Kd.R_elder' (ra HO431.out) (Kd.R_base ho0) hb) (Kd.R_elder' (ra HO434.out) (Kd.R_base ho0) hb) (Kd.R_elder' (ra HO437.out) (Kd.R_base ho0) hb) (Kd.R_lower (Kd.R_new' (Kd.R_new' (Kd.R_new' ho0 (Kd.R_lt (ra HO431.out))) (Kd.R_lt (ra HO434.out))) (Kd.R_lt (ra HO437.out))) (below_size (bl HB))) (below_step (bl HB) hb); clear HO431 HO434 HO437 HB; obtain ⟨HO431, HO434, HO437, HO440, HB⟩ := n_; (try clear hb); (try clear hb2); (try clear hk); (try clear hi); (try clear ho0); obtain ⟨Ao59, co59, eo59⟩ := Kd.R_slice HO434.out; subst eo59; obtain ⟨Ao60, co60, eo60⟩ := Kd.R_slice HO440.out; subst eo60) | ((with_reducible refine gate_callee (f := 70) rfl ?_); refine goesM (some 81) rfl rfl Try.func70 (by kernel_rfl) rfl #[.slice Ao59 t432.length co59, .slice Ao60 t438.length co60] rfl (by rfl) ?_; (with_reducible refine (sibylref01_Cmp.calls kj17 _ _ t432 _ _ t438 t441 _ ?side1 ?side2 ?side3 ?side4 A25.out).mono ?_); (case side1 => exact ca ((Kd.R_reads' HO434.out).2.2)); (case side2 => exact (Kd.R_reads' HO434.out).2.1); (case side3 => exact ca ((Kd.R_reads' HO440.out).2.2)); (case side4 => exact (Kd.R_reads' HO440.out).2.1); rintro e w61 ⟨rfl, hb⟩; refine ⟨_, rfl, ?_⟩; have n_ := mk5 (Kd.R_below (ra HO431.out) hb) (Kd.R_below (ra HO434.out) hb) (Kd.R_below (ra HO437.out) hb) (Kd.R_below (ra HO440.out) hb) (below_step (bl HB) hb); clear HO431 HO434 HO437 HO440 HB; obtain ⟨HO431, HO434, HO437, HO440, HB⟩ := n_; (try clear hb); (try clear hb2); (try clear hk); (try clear hi)) | ((with_reducible refine gate_callee (f := 71) rfl ?_); refine goesM (some 95) rfl rfl Try.func71 (by kernel_rfl) rfl #[.slice Ao60 t438.length co60, .slice Ao59 t432.length co59] rfl (by rfl) ?_; (with_reducible refine (sibylref01_Minus.calls kj17 _ _ t438 _ _ t432 t446 _ ?side1 ?side2 ?side3 ?side4 A51.out).mono ?_); (case side1 => exact ca ((Kd.R_reads' HO440.out).2.2)); (case side2 => exact (Kd.R_reads' HO440.out).2.1); (case side3 => exact ca ((Kd.R_reads' HO434.out).2.2)); (case side4 => exact (Kd.R_reads' HO434.out).2.1); rintro e w62 ⟨v447, rfl, ho0, hb⟩; refine ⟨_, rfl, ?_⟩; have n_ := mk6 (Kd.R_elder' (ra HO431.out) (Kd.R_base ho0) hb) (Kd.R_elder' (ra HO434.out) (Kd.R_base ho0) hb) (Kd.R_elder' (ra HO437.out) (Kd.R_base ho0) hb) (Kd.R_elder' (ra HO440.out) (Kd.R_base ho0) hb) (Kd.R_lower (Kd.R_new' (Kd.R_new' (Kd.R_new' (Kd.R_new' ho0 (Kd.R_lt (ra HO431.out))) (Kd.R_lt (ra HO434.out))) (Kd.R_lt (ra HO437.out))) (Kd.R_lt (ra HO440.out))) (below_size (bl HB))) (below_step (bl HB) hb); clear HO431 HO434 HO437 HO440 HB; obtain ⟨HO431, HO434, HO437, HO440, HO448, HB⟩ := n_; (try clear hb); (try clear hb2); (try clear hk); (try clear hi); (try clear ho0); obtain ⟨Ao63, co63, eo63⟩ := Kd.R_slice HO448.out; subst eo63) | ((with_reducible refine gate_callee (f := 61) rfl ?_); refine goesM (some 97) rfl rfl Try.func61 (by kernel_rfl) rfl #[.bool t425, .slice Ao63 t446.length co63, .int .i64 x15_17, .bool false] rfl (by rfl) ?_; (with_reducible refine (sibylref21_round.calls kj17 t425 (fun k_ => some k_ = (.slice Ao63 t446.length co63 : Value).ownBlock) (.slice Ao63 t446.length co63) t446 x15_17 false t449 w _ ?side1 ?side2 A52.out).mono ?_); (case side1 => exact bl HB); (case side2 => exact Kd.R_tight rfl HO448.out); rintro e w64 ⟨rfl, hb, hkp⟩; refine ⟨_, rfl, ?_⟩; have n_ := mk5 (Kd.R_mono (ok' := fun k_ => some k_ ≠ (.slice Ao59 t432.length co59 : Value).ownBlock ∧ some k_ ≠ (.slice Ao57 t435.length co57 : Value).ownBlock ∧ some k_ ≠ (.slice Ao60 t438.length co60 : Value).ownBlock) (Kd.R_keptB (HO431.out) hkp (fun k_ hk_ hs_ => (hk_.2) hs_)) (fun k_ hk_ => ⟨hk_.1.1.1.1.2, hk_.1.1.1.2, hk_.1.1.2⟩)) (Kd.R_mono (ok' := fun k_ => some k_ ≠ (.slice Ao54 t429.length co54 : Value).ownBlock ∧ some k_ ≠ (.slice Ao57 t435.length co57 : Value).ownBlock ∧ some k_ ≠ (.slice Ao60 t438.length co60 : Value).ownBlock) (Kd.R_keptB (HO434.out) hkp (fun k_ hk_ hs_ => (hk_.2) hs_)) (fun k_ hk_ => ⟨hk_.1.1.1.1.2, hk_.1.1.1.2, hk_.1.1.2⟩)) (Kd.R_mono (ok' := fun k_ => some k_ ≠ (.slice Ao54 t429.length co54 : Value).ownBlock ∧ some k_ ≠ (.slice Ao59 t432.length co59 : Value).ownBlock ∧ some k_ ≠ (.slice Ao60 t438.length co60 : Value).ownBlock) (Kd.R_keptB (HO437.out) hkp (fun k_ hk_ hs_ => (hk_.2) hs_)) (fun k_ hk_ => ⟨hk_.1.1.1.1.2, hk_.1.1.1.2, hk_.1.1.2⟩)) (Kd.R_mono (ok' := fun k_ => some k_ ≠ (.slice Ao54 t429.length co54 : Value).ownBlock ∧ some k_ ≠ (.slice Ao59 t432.length co59 : Value).ownBlock ∧ some k_ ≠ (.slice Ao57 t435.length co57 : Value).ownBlock) (Kd.R_keptB (HO440.out) hkp (fun k_ hk_ hs_ => (hk_.2) hs_)) (fun k_ hk_ => ⟨hk_.1.1.1.1.2, hk_.1.1.1.2, hk_.1.1.2⟩)) (hb); clear HO431 HO434 HO437 HO440 HB HO448; obtain ⟨HO431, HO434, HO437, HO440, HB⟩ := n_; (try clear hb); (try clear hkp)))
              go_ret
              exact ⟨by first | rfl | simp [*], bl HB⟩
           ·rw [if_neg c24] at H
            have c24b0 : (t421 != t425) = false := by simpa using c24
            (try (have c24b1 : decide (t421 = t425) = true := by simpa using c24))
            (try (have c24b2 : (t421 == t425) = true := by simpa using c24))
            clear c24
            obtain ⟨t450, A65, H⟩ := bindA H
            by_cases c66 : (t450.length : Int) = 0
            ·rw [if_pos c66] at H
             have c66b0 : ((t450.length : Int) == 0) = true := beq_iff_eq.mpr c66
             have c66b1 : ((t450.length : Int) != 0) = false := bne_eq_false_iff_eq.mpr c66
             clear c66
             obtain rfl := Option.some.inj H
             go_wp2_with (first | ((with_reducible refine gate_callee (f := 63) rfl ?_); refine goesM (some 65) rfl rfl Try.func63 (by kernel_rfl) rfl #[.int .u64 t422] rfl (by rfl) ?_; (with_reducible refine (sibylref21_natural.calls t422 t429 _ A20.out).mono ?_); rintro e w67 ⟨v430, rfl, ho0, hb⟩; refine ⟨_, rfl, ?_⟩; have n_ := mk2 (Kd.R_lower ho0 (below_size (bl HB))) (below_step (bl HB) hb); clear HB; obtain ⟨HO431, HB⟩ := n_; (try clear hb); (try clear hb2); (try clear hk); (try clear hi); (try clear ho0); obtain ⟨Ao68, co68, eo68⟩ := Kd.R_slice HO431.out; subst eo68) | ((with_reducible refine gate_callee (f := 69) rfl ?_); refine goesM (some 69) rfl rfl Try.func69 (by kernel_rfl) rfl #[.slice Ao68 t429.length co68, .int .i64 (wrap64 (t423 - x15_17))] rfl (by rfl) ?_; (with_reducible refine (sibylref01_Shl.calls kj17 _ _ t429 (wrap64 (t423 - x15_17)) t432 _ ?side1 ?side2 A21.out).mono ?_); (case side1 => exact ca ((Kd.R_reads' HO431.out).2.2)); (case side2 => exact (Kd.R_reads' HO431.out).2.1); rintro e w69 ⟨v433, rfl, ho0, hb⟩; refine ⟨_, rfl, ?_⟩; have n_ := mk3 (Kd.R_elder' (ra HO431.out) (Kd.R_base ho0) hb) (Kd.R_lower (Kd.R_new' ho0 (Kd.R_lt (ra HO431.out))) (below_size (bl HB))) (below_step (bl HB) hb); clear HO431 HB; obtain ⟨HO431, HO434, HB⟩ := n_; (try clear hb); (try clear hb2); (try clear hk); (try clear hi); (try clear ho0)) | ((with_reducible refine gate_callee (f := 63) rfl ?_); refine goesM (some 71) rfl rfl Try.func63 (by kernel_rfl) rfl #[.int .u64 t426] rfl (by rfl) ?_; (with_reducible refine (sibylref21_natural.calls t426 t435 _ A22.out).mono ?_); rintro e w70 ⟨v436, rfl, ho0, hb⟩; refine ⟨_, rfl, ?_⟩; have n_ := mk4 (Kd.R_elder' (ra HO431.out) (Kd.R_base ho0) hb) (Kd.R_elder' (ra HO434.out) (Kd.R_base ho0) hb) (Kd.R_lower (Kd.R_new' (Kd.R_new' ho0 (Kd.R_lt (ra HO431.out))) (Kd.R_lt (ra HO434.out))) (below_size (bl HB))) (below_step (bl HB) hb); clear HO431 HO434 HB; obtain ⟨HO431, HO434, HO437, HB⟩ := n_; (try clear hb); (try clear hb2); (try clear hk); (try clear hi); (try clear ho0); obtain ⟨Ao71, co71, eo71⟩ := Kd.R_slice HO437.out; subst eo71) | ((with_reducible refine gate_callee (f := 69) rfl ?_); refine goesM (some 75) rfl rfl Try.func69 (by kernel_rfl) rfl #[.slice Ao71 t435.length co71, .int .i64 (wrap64 (t427 - x15_17))] rfl (by rfl) ?_; (with_reducible refine (sibylref01_Shl.calls kj17 _ _ t435 (wrap64 (t427 - x15_17)) t438 _ ?side1 ?side2 A23.out).mono ?_); (case side1 => exact ca ((Kd.R_reads' HO437.out).2.2)); (case side2 => exact (Kd.R_reads' HO437.out).2.1); rintro e w72 ⟨v439, rfl, ho0, hb⟩; refine ⟨_, rfl, ?_⟩; have n_ := mk5 (Kd.R_elder' (ra HO431.out) (Kd.R_base ho0) hb) (Kd.R_elder' (ra HO434.out) (Kd.R_base ho0) hb) (Kd.R_elder' (ra HO437.out) (Kd.R_base ho0) hb) (Kd.R_lower (Kd.R_new' (Kd.R_new' (Kd.R_new' ho0 (Kd.R_lt (ra HO431.out))) (Kd.R_lt (ra HO434.out))) (Kd.R_lt (ra HO437.out))) (below_size (bl HB))) (below_step (bl HB) hb); clear HO431 HO434 HO437 HB; obtain ⟨HO431, HO434, HO437, HO440, HB⟩ := n_; (try clear hb); (try clear hb2); (try clear hk); (try clear hi); (try clear ho0); obtain ⟨Ao73, co73, eo73⟩ := Kd.R_slice HO434.out; subst eo73; obtain ⟨Ao74, co74, eo74⟩ := Kd.R_slice HO440.out; subst eo74) | ((with_reducible refine gate_callee (f := 72) rfl ?_); refine goesM (some 100) rfl rfl Try.func72 (by kernel_rfl) rfl #[.slice Ao73 t432.length co73, .slice Ao74 t438.length co74] rfl (by rfl) ?_; (with_reducible refine (sibylref01_Plus.calls kj17 _ _ t432 _ _ t438 t450 _ ?side1 ?side2 ?side3 ?side4 A65.out).mono ?_); (case side1 => exact ca ((Kd.R_reads' HO434.out).2.2)); (case side2 => exact (Kd.R_reads' HO434.out).2.1); (case side3 => exact ca ((Kd.R_reads' HO440.out).2.2)); (case side4 => exact (Kd.R_reads' HO440.out).2.1); rintro e w75 ⟨v451, rfl, ho0, hb⟩; refine ⟨_, rfl, ?_⟩; have n_ := mk6 (Kd.R_elder' (ra HO431.out) (Kd.R_base ho0) hb) (Kd.R_elder' (ra HO434.out) (Kd.R_base ho0) hb) (Kd.R_elder' (ra HO437.out) (Kd.R_base ho0) hb) (Kd.R_elder' (ra HO440.out) (Kd.R_base ho0) hb) (Kd.R_lower (Kd.R_new' (Kd.R_new' (Kd.R_new' (Kd.R_new' ho0 (Kd.R_lt (ra HO431.out))) (Kd.R_lt (ra HO434.out))) (Kd.R_lt (ra HO437.out))) (Kd.R_lt (ra HO440.out))) (below_size (bl HB))) (below_step (bl HB) hb); clear HO431 HO434 HO437 HO440 HB; obtain ⟨HO431, HO434, HO437, HO440, HO452, HB⟩ := n_; (try clear hb); (try clear hb2); (try clear hk); (try clear hi); (try clear ho0); obtain ⟨Ao76, co76, eo76⟩ := Kd.R_slice HO452.out; subst eo76))
             go_ret
             exact ⟨by first | rfl | simp [*], bl HB⟩
            ·rw [if_neg c66] at H
             have c66b0 : ((t450.length : Int) == 0) = false := beq_eq_false_iff_ne.mpr c66
             have c66b1 : ((t450.length : Int) != 0) = true := bne_iff_ne.mpr c66
             have c66b2 : ¬ (t450 = []) := fun h_ => c66 (by rw [h_]; rfl)
             obtain ⟨t453, A77, H⟩ := bindA H
             obtain rfl := Option.some.inj H
             go_wp2_with (first | ((with_reducible refine gate_callee (f := 63) rfl ?_); refine goesM (some 65) rfl rfl Try.func63 (by kernel_rfl) rfl #[.int .u64 t422] rfl (by rfl) ?_; (with_reducible refine (sibylref21_natural.calls t422 t429 _ A20.out).mono ?_); rintro e w78 ⟨v430, rfl, ho0, hb⟩; refine ⟨_, rfl, ?_⟩; have n_ := mk2 (Kd.R_lower ho0 (below_size (bl HB))) (below_step (bl HB) hb); clear HB; obtain ⟨HO431, HB⟩ := n_; (try clear hb); (try clear hb2); (try clear hk); (try clear hi); (try clear ho0); obtain ⟨Ao79, co79, eo79⟩ := Kd.R_slice HO431.out; subst eo79) | ((with_reducible refine gate_callee (f := 69) rfl ?_); refine goesM (some 69) rfl rfl Try.func69 (by kernel_rfl) rfl #[.slice Ao79 t429.length co79, .int .i64 (wrap64 (t423 - x15_17))] rfl (by rfl) ?_; (with_reducible refine (sibylref01_Shl.calls kj17 _ _ t429 (wrap64 (t423 - x15_17)) t432 _ ?side1 ?side2 A21.out).mono ?_); (case side1 => exact ca ((Kd.R_reads' HO431.out).2.2)); (case side2 => exact (Kd.R_reads' HO431.out).2.1); rintro e w80 ⟨v433, rfl, ho0, hb⟩; refine ⟨_, rfl, ?_⟩; have n_ := mk3 (Kd.R_elder' (ra HO431.out) (Kd.R_base ho0) hb) (Kd.R_lower (Kd.R_new' ho0 (Kd.R_lt (ra HO431.out))) (below_size (bl HB))) (below_step (bl HB) hb); clear HO431 HB; obtain ⟨HO431, HO434, HB⟩ := n_; (try clear hb); (try clear hb2); (try clear hk); (try clear hi); (try clear ho0)) | ((with_reducible refine gate_callee (f := 63) rfl ?_); refine goesM (some 71) rfl rfl Try.func63 (by kernel_rfl) rfl #[.int .u64 t426] rfl (by rfl) ?_; (with_reducible refine (sibylref21_natural.calls t426 t435 _ A22.out).mono ?_); rintro e w81 ⟨v436, rfl, ho0, hb⟩; refine ⟨_, rfl, ?_⟩; have n_ := mk4 (Kd.R_elder' (ra HO431.out) (Kd.R_base ho0) hb) (Kd.R_elder' (ra HO434.out) (Kd.R_base ho0) hb) (Kd.R_lower (Kd.R_new' (Kd.R_new' ho0 (Kd.R_lt (ra HO431.out))) (Kd.R_lt (ra HO434.out))) (below_size (bl HB))) (below_step (bl HB) hb); clear HO431 HO434 HB; obtain ⟨HO431, HO434, HO437, HB⟩ := n_; (try clear hb); (try clear hb2); (try clear hk); (try clear hi); (try clear ho0); obtain ⟨Ao82, co82, eo82⟩ := Kd.R_slice HO437.out; subst eo82) | ((with_reducible refine gate_callee (f := 69) rfl ?_); refine goesM (some 75) rfl rfl Try.func69 (by kernel_rfl) rfl #[.slice Ao82 t435.length co82, .int .i64 (wrap64 (t427 - x15_17))] rfl (by rfl) ?_; (with_reducible refine (sibylref01_Shl.calls kj17 _ _ t435 (wrap64 (t427 - x15_17)) t438 _ ?side1 ?side2 A23.out).mono ?_); (case side1 => exact ca ((Kd.R_reads' HO437.out).2.2)); (case side2 => exact (Kd.R_reads' HO437.out).2.1); rintro e w83 ⟨v439, rfl, ho0, hb⟩; refine ⟨_, rfl, ?_⟩; have n_ := mk5 (Kd.R_elder' (ra HO431.out) (Kd.R_base ho0) hb) (Kd.R_elder' (ra HO434.out) (Kd.R_base ho0) hb) (Kd.R_elder' (ra HO437.out) (Kd.R_base ho0) hb) (Kd.R_lower (Kd.R_new' (Kd.R_new' (Kd.R_new' ho0 (Kd.R_lt (ra HO431.out))) (Kd.R_lt (ra HO434.out))) (Kd.R_lt (ra HO437.out))) (below_size (bl HB))) (below_step (bl HB) hb); clear HO431 HO434 HO437 HB; obtain ⟨HO431, HO434, HO437, HO440, HB⟩ := n_; (try clear hb); (try clear hb2); (try clear hk); (try clear hi); (try clear ho0); obtain ⟨Ao84, co84, eo84⟩ := Kd.R_slice HO434.out; subst eo84; obtain ⟨Ao85, co85, eo85⟩ := Kd.R_slice HO440.out; subst eo85) | ((with_reducible refine gate_callee (f := 72) rfl ?_); refine goesM (some 100) rfl rfl Try.func72 (by kernel_rfl) rfl #[.slice Ao84 t432.length co84, .slice Ao85 t438.length co85] rfl (by rfl) ?_; (with_reducible refine (sibylref01_Plus.calls kj17 _ _ t432 _ _ t438 t450 _ ?side1 ?side2 ?side3 ?side4 A65.out).mono ?_); (case side1 => exact ca ((Kd.R_reads' HO434.out).2.2)); (case side2 => exact (Kd.R_reads' HO434.out).2.1); (case side3 => exact ca ((Kd.R_reads' HO440.out).2.2)); (case side4 => exact (Kd.R_reads' HO440.out).2.1); rintro e w86 ⟨v451, rfl, ho0, hb⟩; refine ⟨_, rfl, ?_⟩; have n_ := mk6 (Kd.R_elder' (ra HO431.out) (Kd.R_base ho0) hb) (Kd.R_elder' (ra HO434.out) (Kd.R_base ho0) hb) (Kd.R_elder' (ra HO437.out) (Kd.R_base ho0) hb) (Kd.R_elder' (ra HO440.out) (Kd.R_base ho0) hb) (Kd.R_lower (Kd.R_new' (Kd.R_new' (Kd.R_new' (Kd.R_new' ho0 (Kd.R_lt (ra HO431.out))) (Kd.R_lt (ra HO434.out))) (Kd.R_lt (ra HO437.out))) (Kd.R_lt (ra HO440.out))) (below_size (bl HB))) (below_step (bl HB) hb); clear HO431 HO434 HO437 HO440 HB; obtain ⟨HO431, HO434, HO437, HO440, HO452, HB⟩ := n_; (try clear hb); (try clear hb2); (try clear hk); (try clear hi); (try clear ho0); obtain ⟨Ao87, co87, eo87⟩ := Kd.R_slice HO452.out; subst eo87) | ((with_reducible refine gate_callee (f := 61) rfl ?_); refine goesM (some 108) rfl rfl Try.func61 (by kernel_rfl) rfl #[.bool t421, .slice Ao87 t450.length co87, .int .i64 x15_17, .bool false] rfl (by rfl) ?_; (with_reducible refine (sibylref21_round.calls kj17 t421 (fun k_ => some k_ = (.slice Ao87 t450.length co87 : Value).ownBlock) (.slice Ao87 t450.length co87) t450 x15_17 false t453 w _ ?side1 ?side2 A77.out).mono ?_); (case side1 => exact bl HB); (case side2 => exact Kd.R_tight rfl HO452.out); rintro e w88 ⟨rfl, hb, hkp⟩; refine ⟨_, rfl, ?_⟩; have n_ := mk5 (Kd.R_mono (ok' := fun k_ => some k_ ≠ (.slice Ao84 t432.length co84 : Value).ownBlock ∧ some k_ ≠ (.slice Ao82 t435.length co82 : Value).ownBlock ∧ some k_ ≠ (.slice Ao85 t438.length co85 : Value).ownBlock) (Kd.R_keptB (HO431.out) hkp (fun k_ hk_ hs_ => (hk_.2) hs_)) (fun k_ hk_ => ⟨hk_.1.1.1.1.2, hk_.1.1.1.2, hk_.1.1.2⟩)) (Kd.R_mono (ok' := fun k_ => some k_ ≠ (.slice Ao79 t429.length co79 : Value).ownBlock ∧ some k_ ≠ (.slice Ao82 t435.length co82 : Value).ownBlock ∧ some k_ ≠ (.slice Ao85 t438.length co85 : Value).ownBlock) (Kd.R_keptB (HO434.out) hkp (fun k_ hk_ hs_ => (hk_.2) hs_)) (fun k_ hk_ => ⟨hk_.1.1.1.1.2, hk_.1.1.1.2, hk_.1.1.2⟩)) (Kd.R_mono (ok' := fun k_ => some k_ ≠ (.slice Ao79 t429.length co79 : Value).ownBlock ∧ some k_ ≠ (.slice Ao84 t432.length co84 : Value).ownBlock ∧ some k_ ≠ (.slice Ao85 t438.length co85 : Value).ownBlock) (Kd.R_keptB (HO437.out) hkp (fun k_ hk_ hs_ => (hk_.2) hs_)) (fun k_ hk_ => ⟨hk_.1.1.1.1.2, hk_.1.1.1.2, hk_.1.1.2⟩)) (Kd.R_mono (ok' := fun k_ => some k_ ≠ (.slice Ao79 t429.length co79 : Value).ownBlock ∧ some k_ ≠ (.slice Ao84 t432.length co84 : Value).ownBlock ∧ some k_ ≠ (.slice Ao82 t435.length co82 : Value).ownBlock) (Kd.R_keptB (HO440.out) hkp (fun k_ hk_ hs_ => (hk_.2) hs_)) (fun k_ hk_ => ⟨hk_.1.1.1.1.2, hk_.1.1.1.2, hk_.1.1.2⟩)) (hb); clear HO431 HO434 HO437 HO440 HB HO452; obtain ⟨HO431, HO434, HO437, HO440, HB⟩ := n_; (try clear hb); (try clear hkp)))
             go_ret
             exact ⟨by first | rfl | simp [*], bl HB⟩
end Go.Proofs.Ytjppanekddljbaa.Pr
