/- What the kit's print wrote for these functions, taken together by wip/pick.py: each function's Lean function and that the Go code comes to it. -/
import Derived.Test.YtjppanekddljbaaA1
namespace Go.Proofs.Ytjppanekddljbaa.Pr
open Go.RowKit Go.Proofs.YtjppanekddljbaaW.PrintWords Go.Proofs.YtjppanekddljbaaW.PrintLast Go.Proofs.YtjppanekddljbaaW.PrintMore
attribute [local go_sem] max2_int min2_int max_two min_two max_three min_three max_four min_four
set_option linter.unusedVariables false
set_option linter.unusedSimpArgs false

/-! ### sibylref03_Size: function 49 -/
def sibylref03_Size.f (a0 : Int) : Option (Int) := some (Int.tmod a0 9223372036854775808)
set_option maxHeartbeats 8000000 in
set_option maxRecDepth 100000 in
theorem sibylref03_Size.calls (a0 : Int) (r : Int) (w : World) (h : sibylref03_Size.f a0 = some r) :
    Calls Try.prog 49 #[.int .u64 a0] w fun e w' => e = .returned (.int .u64 r) ∧ Drawn0 w w' := by
  have H : (some (Int.tmod a0 9223372036854775808)) = some r := h
  clear h
  obtain rfl := Option.some.inj H
  go_enter Try.func49, Try.ntmps49
  go_wp2
  go_ret
  exact ⟨by first | rfl | (simp; done) | (simp [*]; done), by repeat (first | exact Drawn0.refl _ | apply Drawn0.step)⟩

/-! ### sibylref03_IsNaN: function 22 -/
def sibylref03_IsNaN.f (a0 : Int) : Option (Bool) := (sibylref03_Size.f a0).bind fun t394 => (some (decide (t394 > 9218868437227405312)))
set_option maxHeartbeats 8000000 in
set_option maxRecDepth 100000 in
theorem sibylref03_IsNaN.calls (a0 : Int) (r : Bool) (w : World) (h : sibylref03_IsNaN.f a0 = some r) :
    Calls Try.prog 22 #[.int .u64 a0] w fun e w' => e = .returned (.bool r) ∧ Drawn0 w w' := by
  have H : ((sibylref03_Size.f a0).bind fun t394 => (some (decide (t394 > 9218868437227405312)))) = some r := h
  clear h
  replace H := Option.bind_eq_some_iff.mp H
  obtain ⟨t394, A20, H⟩ := H
  replace H : (some (decide (t394 > 9218868437227405312))) = some r := H
  have A2 := Aside0.mk A20
  clear A20
  obtain rfl := Option.some.inj H
  go_enter Try.func22, Try.ntmps22
  go_wp2_with (first | ((with_reducible refine gate_callee (f := 49) rfl ?_); refine goesL_ (some 4) rfl rfl Try.func49 (by kernel_rfl) rfl #[.int .u64 a0] rfl (by (try simp only [List.map_toArray, List.map_cons, List.map_nil]); first | done | rfl | (simp only [List.length_drop, List.length_take]; rfl)) ?_; (with_reducible refine (sibylref03_Size.calls a0 t394 _ A2.out).mono ?_); rintro e w' ⟨rfl, ⟨nd, rfl⟩⟩; refine ⟨_, rfl, ?_⟩))
  go_ret
  exact ⟨by first | rfl | (simp; done) | (simp [*]; done), by repeat (first | exact Drawn0.refl _ | apply Drawn0.step)⟩

/-! ### sibylref03_Parts: function 60 -/
mutual
def sibylref03_Parts.j0 : Nat → Int → Int → Int → Option (Bool × Int × Int × Int)
  | 0, _, _, _ => none
  | k + 1, x0, x7, x8 => sibylref03_Parts.l0 k x0 x7 (wrap64 (x8 - 1075))
def sibylref03_Parts.l0 : Nat → Int → Int → Int → Option (Bool × Int × Int × Int)
  | 0, _, _, _ => none
  | k + 1, x0, x7, x8 => if (Int.tmod x7 2) = 0 then (sibylref03_Parts.l0 k x0 (IntKind.u64.wrap (Int.tdiv x7 2)) (wrap64 (x8 + 1))) else (some (decide (x0 ≥ 9223372036854775808), x7, x8, 0))
end
def sibylref03_Parts.f (k : Nat) (a0 : Int) : Option (Bool × Int × Int × Int) := (sibylref03_Size.f a0).bind fun t395 => (if t395 ≥ 9218868437227405312 then (some (false, 0, 0, 30)) else (if t395 = 0 then (some (decide (a0 ≥ 9223372036854775808), 0, 0, 0)) else (if (wrap64 (t395 / 4503599627370496)) = 0 then (sibylref03_Parts.j0 k a0 (Int.tmod t395 4503599627370496) 1) else (sibylref03_Parts.j0 k a0 (IntKind.u64.wrap ((Int.tmod t395 4503599627370496) + 4503599627370496)) (wrap64 (t395 / 4503599627370496))))))
theorem sibylref03_Parts.mono_l : ∀ k, (∀ y0 y1 y2, LeO (sibylref03_Parts.j0 k y0 y1 y2) (sibylref03_Parts.j0 (k + 1) y0 y1 y2)) ∧ (∀ y0 y1 y2, LeO (sibylref03_Parts.l0 k y0 y1 y2) (sibylref03_Parts.l0 (k + 1) y0 y1 y2))
  | 0 => ⟨fun _ _ _ r h => by simp [sibylref03_Parts.j0] at h, fun _ _ _ r h => by simp [sibylref03_Parts.l0] at h⟩
  | k + 1 => by
    obtain ⟨ih0, ih1⟩ := sibylref03_Parts.mono_l k
    refine ⟨?_, ?_⟩
    · intro y0 y1 y2
      unfold sibylref03_Parts.j0
      repeat' first
      | (with_reducible exact ih0 _ _ _)
      | (with_reducible exact ih1 _ _ _)
      | (with_reducible exact LeO.refl _)
      | (with_reducible exact LeO.none _)
      | (with_reducible refine LeO.ite ?_ ?_)
      | (with_reducible refine LeO.bind ?_ (fun _ => ?_))
      | exact ih0 _ _ _
      | exact ih1 _ _ _
      | exact LeO.none _
      | refine LeO.ite ?_ ?_
      | refine LeO.bind ?_ (fun _ => ?_)
    · intro y0 y1 y2
      unfold sibylref03_Parts.l0
      repeat' first
      | (with_reducible exact ih0 _ _ _)
      | (with_reducible exact ih1 _ _ _)
      | (with_reducible exact LeO.refl _)
      | (with_reducible exact LeO.none _)
      | (with_reducible refine LeO.ite ?_ ?_)
      | (with_reducible refine LeO.bind ?_ (fun _ => ?_))
      | exact ih0 _ _ _
      | exact ih1 _ _ _
      | exact LeO.none _
      | refine LeO.ite ?_ ?_
      | refine LeO.bind ?_ (fun _ => ?_)
theorem sibylref03_Parts.mono : ∀ a0 k, LeO (sibylref03_Parts.f k a0) (sibylref03_Parts.f (k + 1) a0) := by
  intro a0 k
  obtain ⟨ih0, ih1⟩ := sibylref03_Parts.mono_l k
  unfold sibylref03_Parts.f
  repeat' first
      | (with_reducible exact ih0 _ _ _)
      | (with_reducible exact ih1 _ _ _)
      | (with_reducible exact LeO.refl _)
      | (with_reducible exact LeO.none _)
      | (with_reducible refine LeO.ite ?_ ?_)
      | (with_reducible refine LeO.bind ?_ (fun _ => ?_))
      | exact ih0 _ _ _
      | exact ih1 _ _ _
      | exact LeO.none _
      | refine LeO.ite ?_ ?_
      | refine LeO.bind ?_ (fun _ => ?_)
set_option maxHeartbeats 8000000 in
set_option maxRecDepth 100000 in
theorem sibylref03_Parts.calls (k : Nat) (a0 : Int) (r1 : Bool) (r2 : Int) (r3 : Int) (r4 : Int) (w : World) (h : sibylref03_Parts.f k a0 = some (r1, r2, r3, r4)) :
    Calls Try.prog 60 #[.int .u64 a0] w fun e w' => e = .returned (.tuple #[.bool r1, .int .u64 r2, .int .i64 r3, .int .i64 r4]) ∧ Drawn0 w w' := by
  have H : ((sibylref03_Size.f a0).bind fun t395 => (if t395 ≥ 9218868437227405312 then (some (false, 0, 0, 30)) else (if t395 = 0 then (some (decide (a0 ≥ 9223372036854775808), 0, 0, 0)) else (if (wrap64 (t395 / 4503599627370496)) = 0 then (sibylref03_Parts.j0 k a0 (Int.tmod t395 4503599627370496) 1) else (sibylref03_Parts.j0 k a0 (IntKind.u64.wrap ((Int.tmod t395 4503599627370496) + 4503599627370496)) (wrap64 (t395 / 4503599627370496))))))) = some (r1, r2, r3, r4) := h
  clear h
  replace H := Option.bind_eq_some_iff.mp H
  obtain ⟨t395, A20, H⟩ := H
  replace H : (if t395 ≥ 9218868437227405312 then (some (false, 0, 0, 30)) else (if t395 = 0 then (some (decide (a0 ≥ 9223372036854775808), 0, 0, 0)) else (if (wrap64 (t395 / 4503599627370496)) = 0 then (sibylref03_Parts.j0 k a0 (Int.tmod t395 4503599627370496) 1) else (sibylref03_Parts.j0 k a0 (IntKind.u64.wrap ((Int.tmod t395 4503599627370496) + 4503599627370496)) (wrap64 (t395 / 4503599627370496)))))) = some (r1, r2, r3, r4) := H
  have A2 := Aside0.mk A20
  clear A20
  by_cases c3 : t395 ≥ 9218868437227405312
  · rw [if_pos c3] at H
    have c3b0 : decide (9218868437227405312 ≤ t395) = true := decide_eq_true c3
    clear c3
    simp only [Option.some.injEq, Prod.mk.injEq] at H
    obtain ⟨rfl, rfl, rfl, rfl⟩ := H
    go_enter Try.func60, Try.ntmps60
    go_wp2_with (first | ((with_reducible refine gate_callee (f := 49) rfl ?_); refine goesL_ (some 10) rfl rfl Try.func49 (by kernel_rfl) rfl #[.int .u64 a0] rfl (by (try simp only [List.map_toArray, List.map_cons, List.map_nil]); first | done | rfl | (simp only [List.length_drop, List.length_take]; rfl)) ?_; (with_reducible refine (sibylref03_Size.calls a0 t395 _ A2.out).mono ?_); rintro e w' ⟨rfl, ⟨nd, rfl⟩⟩; refine ⟨_, rfl, ?_⟩))
    refine bodyPost_ret (results_list (rs := [.tmp 2, .tmp 3, .tmp 4, .tmp 5]) rfl (by simp) (.tmp (.tmp (.tmp (.tmp .nil))))) rfl ?_
    exact ⟨by first | rfl | (simp; done) | (simp [*]; done), by repeat (first | exact Drawn0.refl _ | apply Drawn0.step)⟩
  · rw [if_neg c3] at H
    have c3b0 : decide (9218868437227405312 ≤ t395) = false := decide_eq_false c3
    clear c3
    by_cases c4 : t395 = 0
    · rw [if_pos c4] at H
      have c4b0 : (t395 == 0) = true := beq_iff_eq.mpr c4
      have c4b1 : (t395 != 0) = false := bne_eq_false_iff_eq.mpr c4
      clear c4
      simp only [Option.some.injEq, Prod.mk.injEq] at H
      obtain ⟨rfl, rfl, rfl, rfl⟩ := H
      go_enter Try.func60, Try.ntmps60
      go_wp2_with (first | ((with_reducible refine gate_callee (f := 49) rfl ?_); refine goesL_ (some 10) rfl rfl Try.func49 (by kernel_rfl) rfl #[.int .u64 a0] rfl (by (try simp only [List.map_toArray, List.map_cons, List.map_nil]); first | done | rfl | (simp only [List.length_drop, List.length_take]; rfl)) ?_; (with_reducible refine (sibylref03_Size.calls a0 t395 _ A2.out).mono ?_); rintro e w' ⟨rfl, ⟨nd, rfl⟩⟩; refine ⟨_, rfl, ?_⟩))
      refine bodyPost_ret (results_list (rs := [.tmp 2, .tmp 3, .tmp 4, .tmp 5]) rfl (by simp) (.tmp (.tmp (.tmp (.tmp .nil))))) rfl ?_
      exact ⟨by first | rfl | (simp; done) | (simp [*]; done), by repeat (first | exact Drawn0.refl _ | apply Drawn0.step)⟩
    · rw [if_neg c4] at H
      have c4b0 : (t395 == 0) = false := beq_eq_false_iff_ne.mpr c4
      have c4b1 : (t395 != 0) = true := bne_iff_ne.mpr c4
      have HC5 := Aside0.mk H
      clear H
      go_enter Try.func60, Try.ntmps60
      go_upto_if 23 with (first | ((with_reducible refine gate_callee (f := 49) rfl ?_); refine goesL_ (some 10) rfl rfl Try.func49 (by kernel_rfl) rfl #[.int .u64 a0] rfl (by (try simp only [List.map_toArray, List.map_cons, List.map_nil]); first | done | rfl | (simp only [List.length_drop, List.length_take]; rfl)) ?_; (with_reducible refine (sibylref03_Size.calls a0 t395 _ A2.out).mono ?_); rintro e w' ⟨rfl, ⟨nd, rfl⟩⟩; refine ⟨_, rfl, ?_⟩))
      (try simp only [Act.put, List.setIfInBounds_toArray, List.set_cons_zero, List.set_cons_succ])
      go_cut [7, 8] (fun v7 v8 wc => ∃ (kq : Nat) (x7_4 : Int) (x8_4 : Int), v7 = .int .u64 x7_4 ∧ v8 = .int .i64 x8_4 ∧ Aside0 (sibylref03_Parts.j0 kq a0 x7_4 x8_4 = some (r1, r2, r3, r4)) ∧ Aside0 (kq ≤ k) ∧ Drawn0 w wc)
      case first =>
        have H := HC5.out
        clear HC5
        by_cases c6 : (wrap64 (t395 / 4503599627370496)) = 0
        · rw [if_pos c6] at H
          have c6b0 : ((wrap64 (t395 / 4503599627370496)) == 0) = true := beq_iff_eq.mpr c6
          have c6b1 : ((wrap64 (t395 / 4503599627370496)) != 0) = false := bne_eq_false_iff_eq.mpr c6
          clear c6
          (first | rw [c6b0] | (simp only [i64_w, i32_w]; rw [c6b0]) | skip)
          have H' := Aside0.mk H
          clear H
          go_wp2
          go_meet
          case rel => exact ⟨_, (Int.tmod t395 4503599627370496), (1), (by first | rfl | (simp; done) | (simp [*]; done)), (by first | rfl | (simp; done) | (simp [*]; done)), H', ⟨by first | omega | exact Nat.le_refl _⟩, by repeat (first | exact Drawn0.refl _ | apply Drawn0.step)⟩
        · rw [if_neg c6] at H
          have c6b0 : ((wrap64 (t395 / 4503599627370496)) == 0) = false := beq_eq_false_iff_ne.mpr c6
          have c6b1 : ((wrap64 (t395 / 4503599627370496)) != 0) = true := bne_iff_ne.mpr c6
          (first | rw [c6b0] | (simp only [i64_w, i32_w]; rw [c6b0]) | skip)
          have H' := Aside0.mk H
          clear H
          go_wp2
          go_meet
          case rel => exact ⟨_, (IntKind.u64.wrap ((Int.tmod t395 4503599627370496) + 4503599627370496)), (wrap64 (t395 / 4503599627370496)), (by first | rfl | (simp; done) | (simp [*]; done)), (by first | rfl | (simp; done) | (simp [*]; done)), H', ⟨by first | omega | exact Nat.le_refl _⟩, by repeat (first | exact Drawn0.refl _ | apply Drawn0.step)⟩
      case rest =>
        clear HC5
        try clear p2
        try clear c3
        try clear c3b0
        try clear c4
        try clear c4b0
        try clear c4b1
        try clear c6
        try clear c6b0
        try clear c6b1
        try clear p6
        obtain ⟨kq, x7_4, x8_4, rfl, rfl, HA, HJ4, ⟨mc4, rfl⟩⟩ := hcut
        cases kq with
        | zero => exact absurd HA.out (by simp [sibylref03_Parts.j0])
        | succ kj4 =>
          have H := HA.out
          clear HA
          simp only [sibylref03_Parts.j0] at H
          have H' := Aside0.mk H
          clear H
          go_wp2
          go_loopg [7, 8] kj4 (fun kq v7 v8 w' => ∃ (x7_2 : Int) (x8_2 : Int), v7 = .int .u64 x7_2 ∧ v8 = .int .i64 x8_2 ∧ Aside0 (sibylref03_Parts.l0 kq a0 x7_2 x8_2 = some (r1, r2, r3, r4)) ∧ Aside0 (kq ≤ kj4) ∧ Drawn0 w w')
          case atStart => exact ⟨(x7_4), (wrap64 (x8_4 - 1075)), (by first | rfl | (simp; done) | (simp [*]; done)), (by first | rfl | (simp; done) | (simp [*]; done)), H', ⟨Nat.le_refl _⟩, by repeat (first | exact Drawn0.refl _ | apply Drawn0.step)⟩
          case round =>
            clear H'
            try clear p2
            try clear c3
            try clear c3b0
            try clear c4
            try clear c4b0
            try clear c4b1
            try clear c6
            try clear c6b0
            try clear c6b1
            try clear p6
            try clear p2
            try clear p6
            obtain ⟨x7_2, x8_2, rfl, rfl, HA, HK2, ⟨m2, rfl⟩⟩ := hrel
            cases gk with
            | zero => exact absurd HA.out (by simp [sibylref03_Parts.l0])
            | succ k2 =>
              have H := HA.out
              clear HA
              simp only [sibylref03_Parts.l0] at H
              by_cases c7 : (Int.tmod x7_2 2) = 0
              · rw [if_pos c7] at H
                have c7b0 : ((Int.tmod x7_2 2) == 0) = true := beq_iff_eq.mpr c7
                have c7b1 : ((Int.tmod x7_2 2) != 0) = false := bne_eq_false_iff_eq.mpr c7
                clear c7
                have H' := Aside0.mk H
                clear H
                go_wp2
                go_roundg k2
                case measure => have := HJ4.out; have := HK2.out; omega
                case rel => exact ⟨(IntKind.u64.wrap (Int.tdiv x7_2 2)), (wrap64 (x8_2 + 1)), (by first | rfl | (simp; done) | (simp [*]; done)), (by first | rfl | (simp; done) | (simp [*]; done)), H', ⟨by have := HJ4.out; have := HK2.out; omega⟩, by repeat (first | exact Drawn0.refl _ | apply Drawn0.step)⟩
              · rw [if_neg c7] at H
                have c7b0 : ((Int.tmod x7_2 2) == 0) = false := beq_eq_false_iff_ne.mpr c7
                have c7b1 : ((Int.tmod x7_2 2) != 0) = true := bne_iff_ne.mpr c7
                simp only [Option.some.injEq, Prod.mk.injEq] at H
                obtain ⟨rfl, rfl, rfl, rfl⟩ := H
                go_wp2
                refine bodyPost_ret (results_list (rs := [.tmp 2, .tmp 3, .tmp 4, .tmp 5]) rfl (by simp) (.tmp (.tmp (.tmp (.tmp .nil))))) rfl ?_
                exact ⟨by first | rfl | (simp; done) | (simp [*]; done), by repeat (first | exact Drawn0.refl _ | apply Drawn0.step)⟩

/-! ### sibylref03_length: function 85 -/
def sibylref03_length.l0 : Nat → Int → Int → Option (Int)
  | 0, _, _ => none
  | k + 1, x0, x3 => if x0 > 0 then (sibylref03_length.l0 k (IntKind.u64.wrap (Int.tdiv x0 2)) (wrap64 (x3 + 1))) else (some x3)
def sibylref03_length.f (k : Nat) (a0 : Int) : Option (Int) := sibylref03_length.l0 k a0 0
theorem sibylref03_length.mono_l : ∀ k, (∀ y0 y1, LeO (sibylref03_length.l0 k y0 y1) (sibylref03_length.l0 (k + 1) y0 y1))
  | 0 => fun _ _ r h => by simp [sibylref03_length.l0] at h
  | k + 1 => by
    have ih0 := sibylref03_length.mono_l k
    · intro y0 y1
      unfold sibylref03_length.l0
      repeat' first
      | (with_reducible exact ih0 _ _)
      | (with_reducible exact LeO.refl _)
      | (with_reducible exact LeO.none _)
      | (with_reducible refine LeO.ite ?_ ?_)
      | (with_reducible refine LeO.bind ?_ (fun _ => ?_))
      | exact ih0 _ _
      | exact LeO.none _
      | refine LeO.ite ?_ ?_
      | refine LeO.bind ?_ (fun _ => ?_)
theorem sibylref03_length.mono : ∀ a0 k, LeO (sibylref03_length.f k a0) (sibylref03_length.f (k + 1) a0) := by
  intro a0 k
  have ih0 := sibylref03_length.mono_l k
  unfold sibylref03_length.f
  repeat' first
      | (with_reducible exact ih0 _ _)
      | (with_reducible exact LeO.refl _)
      | (with_reducible exact LeO.none _)
      | (with_reducible refine LeO.ite ?_ ?_)
      | (with_reducible refine LeO.bind ?_ (fun _ => ?_))
      | exact ih0 _ _
      | exact LeO.none _
      | refine LeO.ite ?_ ?_
      | refine LeO.bind ?_ (fun _ => ?_)
set_option maxHeartbeats 8000000 in
set_option maxRecDepth 100000 in
theorem sibylref03_length.calls (k : Nat) (a0 : Int) (r : Int) (w : World) (h : sibylref03_length.f k a0 = some r) :
    Calls Try.prog 85 #[.int .u64 a0] w fun e w' => e = .returned (.int .i64 r) ∧ Drawn0 w w' := by
  have H : (sibylref03_length.l0 k a0 0) = some r := h
  clear h
  have H' := Aside0.mk H
  clear H
  go_enter Try.func85, Try.ntmps85
  go_wp2
  go_loopg [0, 3] k (fun kq v0 v3 w' => ∃ (x0_1 : Int) (x3_1 : Int), v0 = .int .u64 x0_1 ∧ v3 = .int .i64 x3_1 ∧ Aside0 (sibylref03_length.l0 kq x0_1 x3_1 = some r) ∧ Aside0 (kq ≤ k) ∧ Drawn0 w w')
  case atStart => exact ⟨(a0), (0), (by first | rfl | (simp; done) | (simp [*]; done)), (by first | rfl | (simp; done) | (simp [*]; done)), H', ⟨Nat.le_refl _⟩, by repeat (first | exact Drawn0.refl _ | apply Drawn0.step)⟩
  case round =>
    clear H'
    obtain ⟨x0_1, x3_1, rfl, rfl, HA, HK1, ⟨m1, rfl⟩⟩ := hrel
    cases gk with
    | zero => exact absurd HA.out (by simp [sibylref03_length.l0])
    | succ k1 =>
      have H := HA.out
      clear HA
      simp only [sibylref03_length.l0] at H
      by_cases c2 : x0_1 > 0
      · rw [if_pos c2] at H
        have c2b0 : decide (0 < x0_1) = true := decide_eq_true c2
        clear c2
        have H' := Aside0.mk H
        clear H
        go_wp2
        go_roundg k1
        case measure => have := HK1.out; omega
        case rel => exact ⟨(IntKind.u64.wrap (Int.tdiv x0_1 2)), (wrap64 (x3_1 + 1)), (by first | rfl | (simp; done) | (simp [*]; done)), (by first | rfl | (simp; done) | (simp [*]; done)), H', ⟨by have := HK1.out; omega⟩, by repeat (first | exact Drawn0.refl _ | apply Drawn0.step)⟩
      · rw [if_neg c2] at H
        have c2b0 : decide (0 < x0_1) = false := decide_eq_false c2
        clear c2
        obtain rfl := Option.some.inj H
        go_wp2
        go_ret
        exact ⟨by first | rfl | (simp; done) | (simp [*]; done), by repeat (first | exact Drawn0.refl _ | apply Drawn0.step)⟩

/-! ### sibylref03_Join: function 59 -/
mutual
def sibylref03_Join.j0 : Nat → Int → Int → Int → Option (Int)
  | 0, _, _, _ => none
  | k + 1, x1, x2, x7 => if x1 = 0 then (sibylref03_Join.j1 k x1 x2 x7 true) else (sibylref03_Join.j1 k x1 x2 x7 (decide (x2 < (-3000))))
def sibylref03_Join.j1 : Nat → Int → Int → Int → Bool → Option (Int)
  | 0, _, _, _, _ => none
  | k + 1, x1, x2, x7, x19 => if x19 = true then (some x7) else (if x2 > 3000 then (some (IntKind.u64.wrap (x7 + 9218868437227405312))) else ((sibylref03_length.f k x1).bind fun t392 => (if (wrap64 ((wrap64 (x2 + t392)) - 53)) < (-1074) then (sibylref03_Join.j2 k x1 x2 x7 (-1074)) else (sibylref03_Join.j2 k x1 x2 x7 (wrap64 ((wrap64 (x2 + t392)) - 53))))))
def sibylref03_Join.j2 : Nat → Int → Int → Int → Int → Option (Int)
  | 0, _, _, _, _ => none
  | k + 1, x1, x2, x7, x8 => sibylref03_Join.l0 k x1 x2 x7 x8 x1
def sibylref03_Join.l0 : Nat → Int → Int → Int → Int → Int → Option (Int)
  | 0, _, _, _, _, _ => none
  | k + 1, x1, x2, x7, x8, x9 => if x2 > x8 then (sibylref03_Join.l0 k x1 (wrap64 (x2 - 1)) x7 x8 (IntKind.u64.wrap (x9 * 2))) else (if x2 < x8 then (if (wrap64 (x8 - x2)) > 64 then (some x7) else (if 0 ≤ (IntKind.u64.wrap (wrap64 ((wrap64 (x8 - x2)) - 1))) then (if (wrap64 (x8 - x2)) < 64 then (if 0 ≤ (IntKind.u64.wrap (wrap64 (x8 - x2))) then (if (IntKind.u64.wrap (x1 - (shl .u64 (shr .u64 x1 (IntKind.u64.wrap (wrap64 (x8 - x2)))) (IntKind.u64.wrap (wrap64 (x8 - x2)))))) > (shl .u64 1 (IntKind.u64.wrap (wrap64 ((wrap64 (x8 - x2)) - 1)))) then (sibylref03_Join.j4 k x7 x8 (IntKind.u64.wrap ((shr .u64 x1 (IntKind.u64.wrap (wrap64 (x8 - x2)))) + 1))) else (if (IntKind.u64.wrap (x1 - (shl .u64 (shr .u64 x1 (IntKind.u64.wrap (wrap64 (x8 - x2)))) (IntKind.u64.wrap (wrap64 (x8 - x2)))))) = (shl .u64 1 (IntKind.u64.wrap (wrap64 ((wrap64 (x8 - x2)) - 1)))) then (if (Int.tmod (shr .u64 x1 (IntKind.u64.wrap (wrap64 (x8 - x2)))) 2) = 1 then (sibylref03_Join.j4 k x7 x8 (IntKind.u64.wrap ((shr .u64 x1 (IntKind.u64.wrap (wrap64 (x8 - x2)))) + 1))) else (sibylref03_Join.j4 k x7 x8 (shr .u64 x1 (IntKind.u64.wrap (wrap64 (x8 - x2)))))) else (sibylref03_Join.j4 k x7 x8 (shr .u64 x1 (IntKind.u64.wrap (wrap64 (x8 - x2))))))) else (none)) else (if x1 > (shl .u64 1 (IntKind.u64.wrap (wrap64 ((wrap64 (x8 - x2)) - 1)))) then (sibylref03_Join.j4 k x7 x8 (0 + 1)) else (if x1 = (shl .u64 1 (IntKind.u64.wrap (wrap64 ((wrap64 (x8 - x2)) - 1)))) then (if ((0 : Int) % 2) = 1 then (sibylref03_Join.j4 k x7 x8 (0 + 1)) else (sibylref03_Join.j4 k x7 x8 0)) else (sibylref03_Join.j4 k x7 x8 0)))) else (none))) else (sibylref03_Join.j4 k x7 x8 x9))
def sibylref03_Join.j4 : Nat → Int → Int → Int → Option (Int)
  | 0, _, _, _ => none
  | k + 1, x7, x8, x9 => if x9 = 9007199254740992 then (sibylref03_Join.j5 k x7 (wrap64 (x8 + 1)) 4503599627370496) else (sibylref03_Join.j5 k x7 x8 x9)
def sibylref03_Join.j5 : Nat → Int → Int → Int → Option (Int)
  | 0, _, _, _ => none
  | k + 1, x7, x8, x9 => if x9 < 4503599627370496 then (some (IntKind.u64.wrap (x7 + x9))) else (if (wrap64 (x8 + 1075)) > 2046 then (some (IntKind.u64.wrap (x7 + 9218868437227405312))) else (some (IntKind.u64.wrap ((IntKind.u64.wrap ((IntKind.u64.wrap (x7 + (IntKind.u64.wrap ((IntKind.u64.wrap (wrap64 (x8 + 1075))) * 4503599627370496)))) + x9)) - 4503599627370496))))
end
def sibylref03_Join.f (k : Nat) (a0 : Bool) (a1 : Int) (a2 : Int) : Option (Int) := if a0 = true then (sibylref03_Join.j0 k a1 a2 9223372036854775808) else (sibylref03_Join.j0 k a1 a2 0)
theorem sibylref03_Join.mono_l : ∀ k, (∀ y0 y1 y2, LeO (sibylref03_Join.j0 k y0 y1 y2) (sibylref03_Join.j0 (k + 1) y0 y1 y2)) ∧ (∀ y0 y1 y2 y3, LeO (sibylref03_Join.j1 k y0 y1 y2 y3) (sibylref03_Join.j1 (k + 1) y0 y1 y2 y3)) ∧ (∀ y0 y1 y2 y3, LeO (sibylref03_Join.j2 k y0 y1 y2 y3) (sibylref03_Join.j2 (k + 1) y0 y1 y2 y3)) ∧ (∀ y0 y1 y2 y3 y4, LeO (sibylref03_Join.l0 k y0 y1 y2 y3 y4) (sibylref03_Join.l0 (k + 1) y0 y1 y2 y3 y4)) ∧ (∀ y0 y1 y2, LeO (sibylref03_Join.j4 k y0 y1 y2) (sibylref03_Join.j4 (k + 1) y0 y1 y2)) ∧ (∀ y0 y1 y2, LeO (sibylref03_Join.j5 k y0 y1 y2) (sibylref03_Join.j5 (k + 1) y0 y1 y2))
  | 0 => ⟨fun _ _ _ r h => by simp [sibylref03_Join.j0] at h, fun _ _ _ _ r h => by simp [sibylref03_Join.j1] at h, fun _ _ _ _ r h => by simp [sibylref03_Join.j2] at h, fun _ _ _ _ _ r h => by simp [sibylref03_Join.l0] at h, fun _ _ _ r h => by simp [sibylref03_Join.j4] at h, fun _ _ _ r h => by simp [sibylref03_Join.j5] at h⟩
  | k + 1 => by
    obtain ⟨ih0, ih1, ih2, ih3, ih4, ih5⟩ := sibylref03_Join.mono_l k
    refine ⟨?_, ?_, ?_, ?_, ?_, ?_⟩
    · intro y0 y1 y2
      unfold sibylref03_Join.j0
      repeat' first
      | (with_reducible exact ih0 _ _ _)
      | (with_reducible exact ih1 _ _ _ _)
      | (with_reducible exact ih2 _ _ _ _)
      | (with_reducible exact ih3 _ _ _ _ _)
      | (with_reducible exact ih4 _ _ _)
      | (with_reducible exact ih5 _ _ _)
      | (with_reducible exact sibylref03_length.mono _ _)
      | (with_reducible exact LeO.refl _)
      | (with_reducible exact LeO.none _)
      | (with_reducible refine LeO.ite ?_ ?_)
      | (with_reducible refine LeO.bind ?_ (fun _ => ?_))
      | exact ih0 _ _ _
      | exact ih1 _ _ _ _
      | exact ih2 _ _ _ _
      | exact ih3 _ _ _ _ _
      | exact ih4 _ _ _
      | exact ih5 _ _ _
      | exact sibylref03_length.mono _ _
      | exact LeO.none _
      | refine LeO.ite ?_ ?_
      | refine LeO.bind ?_ (fun _ => ?_)
    · intro y0 y1 y2 y3
      unfold sibylref03_Join.j1
      repeat' first
      | (with_reducible exact ih0 _ _ _)
      | (with_reducible exact ih1 _ _ _ _)
      | (with_reducible exact ih2 _ _ _ _)
      | (with_reducible exact ih3 _ _ _ _ _)
      | (with_reducible exact ih4 _ _ _)
      | (with_reducible exact ih5 _ _ _)
      | (with_reducible exact sibylref03_length.mono _ _)
      | (with_reducible exact LeO.refl _)
      | (with_reducible exact LeO.none _)
      | (with_reducible refine LeO.ite ?_ ?_)
      | (with_reducible refine LeO.bind ?_ (fun _ => ?_))
      | exact ih0 _ _ _
      | exact ih1 _ _ _ _
      | exact ih2 _ _ _ _
      | exact ih3 _ _ _ _ _
      | exact ih4 _ _ _
      | exact ih5 _ _ _
      | exact sibylref03_length.mono _ _
      | exact LeO.none _
      | refine LeO.ite ?_ ?_
      | refine LeO.bind ?_ (fun _ => ?_)
    · intro y0 y1 y2 y3
      unfold sibylref03_Join.j2
      repeat' first
      | (with_reducible exact ih0 _ _ _)
      | (with_reducible exact ih1 _ _ _ _)
      | (with_reducible exact ih2 _ _ _ _)
      | (with_reducible exact ih3 _ _ _ _ _)
      | (with_reducible exact ih4 _ _ _)
      | (with_reducible exact ih5 _ _ _)
      | (with_reducible exact sibylref03_length.mono _ _)
      | (with_reducible exact LeO.refl _)
      | (with_reducible exact LeO.none _)
      | (with_reducible refine LeO.ite ?_ ?_)
      | (with_reducible refine LeO.bind ?_ (fun _ => ?_))
      | exact ih0 _ _ _
      | exact ih1 _ _ _ _
      | exact ih2 _ _ _ _
      | exact ih3 _ _ _ _ _
      | exact ih4 _ _ _
      | exact ih5 _ _ _
      | exact sibylref03_length.mono _ _
      | exact LeO.none _
      | refine LeO.ite ?_ ?_
      | refine LeO.bind ?_ (fun _ => ?_)
    · intro y0 y1 y2 y3 y4
      unfold sibylref03_Join.l0
      repeat' first
      | (with_reducible exact ih0 _ _ _)
      | (with_reducible exact ih1 _ _ _ _)
      | (with_reducible exact ih2 _ _ _ _)
      | (with_reducible exact ih3 _ _ _ _ _)
      | (with_reducible exact ih4 _ _ _)
      | (with_reducible exact ih5 _ _ _)
      | (with_reducible exact sibylref03_length.mono _ _)
      | (with_reducible exact LeO.refl _)
      | (with_reducible exact LeO.none _)
      | (with_reducible refine LeO.ite ?_ ?_)
      | (with_reducible refine LeO.bind ?_ (fun _ => ?_))
      | exact ih0 _ _ _
      | exact ih1 _ _ _ _
      | exact ih2 _ _ _ _
      | exact ih3 _ _ _ _ _
      | exact ih4 _ _ _
      | exact ih5 _ _ _
      | exact sibylref03_length.mono _ _
      | exact LeO.none _
      | refine LeO.ite ?_ ?_
      | refine LeO.bind ?_ (fun _ => ?_)
    · intro y0 y1 y2
      unfold sibylref03_Join.j4
      repeat' first
      | (with_reducible exact ih0 _ _ _)
      | (with_reducible exact ih1 _ _ _ _)
      | (with_reducible exact ih2 _ _ _ _)
      | (with_reducible exact ih3 _ _ _ _ _)
      | (with_reducible exact ih4 _ _ _)
      | (with_reducible exact ih5 _ _ _)
      | (with_reducible exact sibylref03_length.mono _ _)
      | (with_reducible exact LeO.refl _)
      | (with_reducible exact LeO.none _)
      | (with_reducible refine LeO.ite ?_ ?_)
      | (with_reducible refine LeO.bind ?_ (fun _ => ?_))
      | exact ih0 _ _ _
      | exact ih1 _ _ _ _
      | exact ih2 _ _ _ _
      | exact ih3 _ _ _ _ _
      | exact ih4 _ _ _
      | exact ih5 _ _ _
      | exact sibylref03_length.mono _ _
      | exact LeO.none _
      | refine LeO.ite ?_ ?_
      | refine LeO.bind ?_ (fun _ => ?_)
    · intro y0 y1 y2
      unfold sibylref03_Join.j5
      repeat' first
      | (with_reducible exact ih0 _ _ _)
      | (with_reducible exact ih1 _ _ _ _)
      | (with_reducible exact ih2 _ _ _ _)
      | (with_reducible exact ih3 _ _ _ _ _)
      | (with_reducible exact ih4 _ _ _)
      | (with_reducible exact ih5 _ _ _)
      | (with_reducible exact sibylref03_length.mono _ _)
      | (with_reducible exact LeO.refl _)
      | (with_reducible exact LeO.none _)
      | (with_reducible refine LeO.ite ?_ ?_)
      | (with_reducible refine LeO.bind ?_ (fun _ => ?_))
      | exact ih0 _ _ _
      | exact ih1 _ _ _ _
      | exact ih2 _ _ _ _
      | exact ih3 _ _ _ _ _
      | exact ih4 _ _ _
      | exact ih5 _ _ _
      | exact sibylref03_length.mono _ _
      | exact LeO.none _
      | refine LeO.ite ?_ ?_
      | refine LeO.bind ?_ (fun _ => ?_)
theorem sibylref03_Join.mono : ∀ a0 a1 a2 k, LeO (sibylref03_Join.f k a0 a1 a2) (sibylref03_Join.f (k + 1) a0 a1 a2) := by
  intro a0 a1 a2 k
  obtain ⟨ih0, ih1, ih2, ih3, ih4, ih5⟩ := sibylref03_Join.mono_l k
  unfold sibylref03_Join.f
  repeat' first
      | (with_reducible exact ih0 _ _ _)
      | (with_reducible exact ih1 _ _ _ _)
      | (with_reducible exact ih2 _ _ _ _)
      | (with_reducible exact ih3 _ _ _ _ _)
      | (with_reducible exact ih4 _ _ _)
      | (with_reducible exact ih5 _ _ _)
      | (with_reducible exact sibylref03_length.mono _ _)
      | (with_reducible exact LeO.refl _)
      | (with_reducible exact LeO.none _)
      | (with_reducible refine LeO.ite ?_ ?_)
      | (with_reducible refine LeO.bind ?_ (fun _ => ?_))
      | exact ih0 _ _ _
      | exact ih1 _ _ _ _
      | exact ih2 _ _ _ _
      | exact ih3 _ _ _ _ _
      | exact ih4 _ _ _
      | exact ih5 _ _ _
      | exact sibylref03_length.mono _ _
      | exact LeO.none _
      | refine LeO.ite ?_ ?_
      | refine LeO.bind ?_ (fun _ => ?_)
set_option maxHeartbeats 8000000 in
set_option maxRecDepth 100000 in
theorem sibylref03_Join.calls (k : Nat) (a0 : Bool) (a1 : Int) (a2 : Int) (r : Int) (w : World) (h : sibylref03_Join.f k a0 a1 a2 = some r) :
    Calls Try.prog 59 #[.bool a0, .int .u64 a1, .int .i64 a2] w fun e w' => e = .returned (.int .u64 r) ∧ Drawn0 w w' := by
  have H : (if a0 = true then (sibylref03_Join.j0 k a1 a2 9223372036854775808) else (sibylref03_Join.j0 k a1 a2 0)) = some r := h
  clear h
  have HC4 := Aside0.mk H
  clear H
  go_enter Try.func59, Try.ntmps59
  go_upto_if 13 with (fail)
  go_cut [7] (fun v7 wc => ∃ (kq : Nat) (x7_3 : Int), v7 = .int .u64 x7_3 ∧ Aside0 (sibylref03_Join.j0 kq a1 a2 x7_3 = some r) ∧ Aside0 (kq ≤ k) ∧ Drawn0 w wc)
  case first =>
    have H := HC4.out
    clear HC4
    by_cases c5 : a0 = true
    · subst c5
      have H1 : (sibylref03_Join.j0 k a1 a2 9223372036854775808) = some r := by rw [if_pos rfl] at H; exact H
      clear H
      have H := H1
      clear H1
      have H' := Aside0.mk H
      clear H
      go_wp2
      go_meet
      case rel => exact ⟨_, (9223372036854775808), (by first | rfl | (simp; done) | (simp [*]; done)), H', ⟨by first | omega | exact Nat.le_refl _⟩, by repeat (first | exact Drawn0.refl _ | apply Drawn0.step)⟩
    · replace c5 := Bool.eq_false_iff.mpr c5
      subst c5
      have H1 : (sibylref03_Join.j0 k a1 a2 0) = some r := by rw [if_neg (show ¬ (false = true) by decide)] at H; exact H
      clear H
      have H := H1
      clear H1
      have H' := Aside0.mk H
      clear H
      go_wp2
      go_meet
      case rel => exact ⟨_, (0), (by first | rfl | (simp; done) | (simp [*]; done)), H', ⟨by first | omega | exact Nat.le_refl _⟩, by repeat (first | exact Drawn0.refl _ | apply Drawn0.step)⟩
  case rest =>
    clear HC4
    try clear p2
    try clear c5
    obtain ⟨kq, x7_3, rfl, HA, HJ3, ⟨mc3, rfl⟩⟩ := hcut
    cases kq with
    | zero => exact absurd HA.out (by simp [sibylref03_Join.j0])
    | succ kj3 =>
      have H := HA.out
      clear HA
      simp only [sibylref03_Join.j0] at H
      have HC6 := Aside0.mk H
      clear H
      go_upto_region 4 with (fail)
      go_cut [19] (fun v19 wc => ∃ (kq : Nat) (x19_5 : Bool), v19 = .bool x19_5 ∧ Aside0 (sibylref03_Join.j1 kq a1 a2 x7_3 x19_5 = some r) ∧ Aside0 (kq ≤ kj3) ∧ Drawn0 w wc)
      case first =>
        have H := HC6.out
        clear HC6
        by_cases c7 : a1 = 0
        · rw [if_pos c7] at H
          have c7b0 : (a1 == 0) = true := beq_iff_eq.mpr c7
          have c7b1 : (a1 != 0) = false := bne_eq_false_iff_eq.mpr c7
          clear c7
          (first | rw [c7b0] | (simp only [i64_w, i32_w]; rw [c7b0]) | skip)
          have H' := Aside0.mk H
          clear H
          go_wp2
          go_meet
          case rel => exact ⟨_, (true), (by first | rfl | (simp; done) | (simp [*]; done)), H', ⟨by have := HJ3.out; first | omega | exact Nat.le_refl _⟩, by repeat (first | exact Drawn0.refl _ | apply Drawn0.step)⟩
        · rw [if_neg c7] at H
          have c7b0 : (a1 == 0) = false := beq_eq_false_iff_ne.mpr c7
          have c7b1 : (a1 != 0) = true := bne_iff_ne.mpr c7
          (first | rw [c7b0] | (simp only [i64_w, i32_w]; rw [c7b0]) | skip)
          have H' := Aside0.mk H
          clear H
          go_wp2
          go_meet
          case rel => exact ⟨_, (decide (a2 < (-3000))), (by first | rfl | (simp; done) | (simp [*]; done)), H', ⟨by have := HJ3.out; first | omega | exact Nat.le_refl _⟩, by repeat (first | exact Drawn0.refl _ | apply Drawn0.step)⟩
      case rest =>
        clear HC6
        try clear p2
        try clear c3
        try clear c5
        try clear c7
        try clear c7b0
        try clear c7b1
        try clear p2
        obtain ⟨kq, x19_5, rfl, HA, HJ5, ⟨mc5, rfl⟩⟩ := hcut
        cases kq with
        | zero => exact absurd HA.out (by simp [sibylref03_Join.j1])
        | succ kj5 =>
          have H := HA.out
          clear HA
          simp only [sibylref03_Join.j1] at H
          by_cases c8 : x19_5 = true
          · subst c8
            have H1 : (some x7_3) = some r := by rw [if_pos rfl] at H; exact H
            clear H
            have H := H1
            clear H1
            obtain rfl := Option.some.inj H
            go_wp2
            go_ret
            exact ⟨by first | rfl | (simp; done) | (simp [*]; done), by repeat (first | exact Drawn0.refl _ | apply Drawn0.step)⟩
          · replace c8 := Bool.eq_false_iff.mpr c8
            subst c8
            have H1 : (if a2 > 3000 then (some (IntKind.u64.wrap (x7_3 + 9218868437227405312))) else ((sibylref03_length.f kj5 a1).bind fun t392 => (if (wrap64 ((wrap64 (a2 + t392)) - 53)) < (-1074) then (sibylref03_Join.j2 kj5 a1 a2 x7_3 (-1074)) else (sibylref03_Join.j2 kj5 a1 a2 x7_3 (wrap64 ((wrap64 (a2 + t392)) - 53)))))) = some r := by rw [if_neg (show ¬ (false = true) by decide)] at H; exact H
            clear H
            have H := H1
            clear H1
            by_cases c9 : a2 > 3000
            · rw [if_pos c9] at H
              have c9b0 : decide (3000 < a2) = true := decide_eq_true c9
              clear c9
              obtain rfl := Option.some.inj H
              go_wp2
              go_ret
              exact ⟨by first | rfl | (simp; done) | (simp [*]; done), by repeat (first | exact Drawn0.refl _ | apply Drawn0.step)⟩
            · rw [if_neg c9] at H
              have c9b0 : decide (3000 < a2) = false := decide_eq_false c9
              clear c9
              replace H := Option.bind_eq_some_iff.mp H
              obtain ⟨t392, A100, H⟩ := H
              replace H : (if (wrap64 ((wrap64 (a2 + t392)) - 53)) < (-1074) then (sibylref03_Join.j2 kj5 a1 a2 x7_3 (-1074)) else (sibylref03_Join.j2 kj5 a1 a2 x7_3 (wrap64 ((wrap64 (a2 + t392)) - 53)))) = some r := H
              have A10 := Aside0.mk A100
              clear A100
              have HC11 := Aside0.mk H
              clear H
              go_upto_if 31 with (first | ((with_reducible refine gate_callee (f := 85) rfl ?_); refine goesL_ (some 27) rfl rfl Try.func85 (by kernel_rfl) rfl #[.int .u64 a1] rfl (by (try simp only [List.map_toArray, List.map_cons, List.map_nil]); first | done | rfl | (simp only [List.length_drop, List.length_take]; rfl)) ?_; (with_reducible refine (sibylref03_length.calls kj5 a1 t392 _ A10.out).mono ?_); rintro e w' ⟨rfl, ⟨nd, rfl⟩⟩; refine ⟨_, rfl, ?_⟩))
              (try simp only [Act.put, List.setIfInBounds_toArray, List.set_cons_zero, List.set_cons_succ])
              go_cut [8] (fun v8 wc => ∃ (kq : Nat) (x8_10 : Int), v8 = .int .i64 x8_10 ∧ Aside0 (sibylref03_Join.j2 kq a1 a2 x7_3 x8_10 = some r) ∧ Aside0 (kq ≤ kj5) ∧ Drawn0 w wc)
              case first =>
                have H := HC11.out
                clear HC11
                by_cases c12 : (wrap64 ((wrap64 (a2 + t392)) - 53)) < (-1074)
                · rw [if_pos c12] at H
                  have c12b0 : decide ((wrap64 ((wrap64 (a2 + t392)) - 53)) < (-1074)) = true := decide_eq_true c12
                  clear c12
                  (first | rw [c12b0] | (simp only [i64_w, i32_w]; rw [c12b0]) | skip)
                  have H' := Aside0.mk H
                  clear H
                  go_wp2
                  go_meet
                  case rel => exact ⟨_, ((-1074)), (by first | rfl | (simp; done) | (simp [*]; done)), H', ⟨by have := HJ3.out; have := HJ5.out; first | omega | exact Nat.le_refl _⟩, by repeat (first | exact Drawn0.refl _ | apply Drawn0.step)⟩
                · rw [if_neg c12] at H
                  have c12b0 : decide ((wrap64 ((wrap64 (a2 + t392)) - 53)) < (-1074)) = false := decide_eq_false c12
                  clear c12
                  (first | rw [c12b0] | (simp only [i64_w, i32_w]; rw [c12b0]) | skip)
                  have H' := Aside0.mk H
                  clear H
                  go_wp2
                  go_meet
                  case rel => exact ⟨_, (wrap64 ((wrap64 (a2 + t392)) - 53)), (by first | rfl | (simp; done) | (simp [*]; done)), H', ⟨by have := HJ3.out; have := HJ5.out; first | omega | exact Nat.le_refl _⟩, by repeat (first | exact Drawn0.refl _ | apply Drawn0.step)⟩
              case rest =>
                clear HC11
                try clear c1
                try clear p2
                try clear c3
                try clear c5
                try clear p6
                try clear c7
                try clear c7b0
                try clear c7b1
                try clear c8
                try clear c9
                try clear c9b0
                try clear c12
                try clear c12b0
                try clear p2
                obtain ⟨kq, x8_10, rfl, HA, HJ10, ⟨mc10, rfl⟩⟩ := hcut
                cases kq with
                | zero => exact absurd HA.out (by simp [sibylref03_Join.j2])
                | succ kj10 =>
                  have H := HA.out
                  clear HA
                  simp only [sibylref03_Join.j2] at H
                  have H' := Aside0.mk H
                  clear H
                  go_wp2
                  go_loopg [2, 9] kj10 (fun kq v2 v9 w' => ∃ (x2_4 : Int) (x9_4 : Int), v2 = .int .i64 x2_4 ∧ v9 = .int .u64 x9_4 ∧ Aside0 (sibylref03_Join.l0 kq a1 x2_4 x7_3 x8_10 x9_4 = some r) ∧ Aside0 (kq ≤ kj10) ∧ Drawn0 w w')
                  case atStart => exact ⟨(a2), (a1), (by first | rfl | (simp; done) | (simp [*]; done)), (by first | rfl | (simp; done) | (simp [*]; done)), H', ⟨Nat.le_refl _⟩, by repeat (first | exact Drawn0.refl _ | apply Drawn0.step)⟩
                  case round =>
                    clear H'
                    try clear c1
                    try clear p2
                    try clear c3
                    try clear c5
                    try clear p6
                    try clear c7
                    try clear c7b0
                    try clear c7b1
                    try clear c8
                    try clear c9
                    try clear c9b0
                    try clear c10
                    try clear c12
                    try clear c12b0
                    try clear p2
                    try clear p6
                    obtain ⟨x2_4, x9_4, rfl, rfl, HA, HK4, ⟨m4, rfl⟩⟩ := hrel
                    cases gk with
                    | zero => exact absurd HA.out (by simp [sibylref03_Join.l0])
                    | succ k4 =>
                      have H := HA.out
                      clear HA
                      simp only [sibylref03_Join.l0] at H
                      by_cases c13 : x2_4 > x8_10
                      · rw [if_pos c13] at H
                        have c13b0 : decide (x8_10 < x2_4) = true := decide_eq_true c13
                        clear c13
                        have H' := Aside0.mk H
                        clear H
                        go_wp2
                        go_roundg k4
                        case measure => have := HJ3.out; have := HJ5.out; have := HJ10.out; have := HK4.out; omega
                        case rel => exact ⟨(wrap64 (x2_4 - 1)), (IntKind.u64.wrap (x9_4 * 2)), (by first | rfl | (simp; done) | (simp [*]; done)), (by first | rfl | (simp; done) | (simp [*]; done)), H', ⟨by have := HJ3.out; have := HJ5.out; have := HJ10.out; have := HK4.out; omega⟩, by repeat (first | exact Drawn0.refl _ | apply Drawn0.step)⟩
                      · rw [if_neg c13] at H
                        have c13b0 : decide (x8_10 < x2_4) = false := decide_eq_false c13
                        clear c13
                        have HC14 := Aside0.mk H
                        clear H
                        go_upto_if 42 with (fail)
                        go_cut [9] (fun v9 wc => ∃ (kq : Nat) (x9_13 : Int), v9 = .int .u64 x9_13 ∧ Aside0 (sibylref03_Join.j4 kq x7_3 x8_10 x9_13 = some r) ∧ Aside0 (kq ≤ k4) ∧ Drawn0 w wc)
                        case first =>
                          have H := HC14.out
                          clear HC14
                          by_cases c15 : x2_4 < x8_10
                          · rw [if_pos c15] at H
                            have c15b0 : decide (x2_4 < x8_10) = true := decide_eq_true c15
                            clear c15
                            (first | rw [c15b0] | (simp only [i64_w, i32_w]; rw [c15b0]) | skip)
                            by_cases c16 : (wrap64 (x8_10 - x2_4)) > 64
                            · rw [if_pos c16] at H
                              have c16b0 : decide (64 < (wrap64 (x8_10 - x2_4))) = true := decide_eq_true c16
                              clear c16
                              obtain rfl := Option.some.inj H
                              go_wp2
                              go_ret
                              exact ⟨by first | rfl | (simp; done) | (simp [*]; done), by repeat (first | exact Drawn0.refl _ | apply Drawn0.step)⟩
                            · rw [if_neg c16] at H
                              have c16b0 : decide (64 < (wrap64 (x8_10 - x2_4))) = false := decide_eq_false c16
                              clear c16
                              obtain ⟨ji17, hji17⟩ : ∃ j_ : Int, (IntKind.u64.wrap (wrap64 ((wrap64 (x8_10 - x2_4)) - 1))) = j_ := ⟨_, rfl⟩
                              replace H : (if 0 ≤ (ji17) then (if (wrap64 (x8_10 - x2_4)) < 64 then (if 0 ≤ (IntKind.u64.wrap (wrap64 (x8_10 - x2_4))) then (if (IntKind.u64.wrap (a1 - (shl .u64 (shr .u64 a1 (IntKind.u64.wrap (wrap64 (x8_10 - x2_4)))) (IntKind.u64.wrap (wrap64 (x8_10 - x2_4)))))) > (shl .u64 1 (ji17)) then (sibylref03_Join.j4 k4 x7_3 x8_10 (IntKind.u64.wrap ((shr .u64 a1 (IntKind.u64.wrap (wrap64 (x8_10 - x2_4)))) + 1))) else (if (IntKind.u64.wrap (a1 - (shl .u64 (shr .u64 a1 (IntKind.u64.wrap (wrap64 (x8_10 - x2_4)))) (IntKind.u64.wrap (wrap64 (x8_10 - x2_4)))))) = (shl .u64 1 (ji17)) then (if (Int.tmod (shr .u64 a1 (IntKind.u64.wrap (wrap64 (x8_10 - x2_4)))) 2) = 1 then (sibylref03_Join.j4 k4 x7_3 x8_10 (IntKind.u64.wrap ((shr .u64 a1 (IntKind.u64.wrap (wrap64 (x8_10 - x2_4)))) + 1))) else (sibylref03_Join.j4 k4 x7_3 x8_10 (shr .u64 a1 (IntKind.u64.wrap (wrap64 (x8_10 - x2_4)))))) else (sibylref03_Join.j4 k4 x7_3 x8_10 (shr .u64 a1 (IntKind.u64.wrap (wrap64 (x8_10 - x2_4))))))) else (none)) else (if a1 > (shl .u64 1 (ji17)) then (sibylref03_Join.j4 k4 x7_3 x8_10 (0 + 1)) else (if a1 = (shl .u64 1 (ji17)) then (if ((0 : Int) % 2) = 1 then (sibylref03_Join.j4 k4 x7_3 x8_10 (0 + 1)) else (sibylref03_Join.j4 k4 x7_3 x8_10 0)) else (sibylref03_Join.j4 k4 x7_3 x8_10 0)))) else (none)) = some r := by first | (rw [hji17] at H; exact H) | (simp only [hji17] at H ⊢; exact H)
                              by_cases c18 : 0 ≤ (ji17)
                              · rw [if_pos c18] at H
                                have c18b0 := eq_true c18
                                have c18b1 : decide (0 ≤ (ji17)) = true := decide_eq_true c18
                                clear c18
                                obtain ⟨ji19, hji19⟩ : ∃ j_ : Int, (shl .u64 1 (ji17)) = j_ := ⟨_, rfl⟩
                                replace H : (if (wrap64 (x8_10 - x2_4)) < 64 then (if 0 ≤ (IntKind.u64.wrap (wrap64 (x8_10 - x2_4))) then (if (IntKind.u64.wrap (a1 - (shl .u64 (shr .u64 a1 (IntKind.u64.wrap (wrap64 (x8_10 - x2_4)))) (IntKind.u64.wrap (wrap64 (x8_10 - x2_4)))))) > (ji19) then (sibylref03_Join.j4 k4 x7_3 x8_10 (IntKind.u64.wrap ((shr .u64 a1 (IntKind.u64.wrap (wrap64 (x8_10 - x2_4)))) + 1))) else (if (IntKind.u64.wrap (a1 - (shl .u64 (shr .u64 a1 (IntKind.u64.wrap (wrap64 (x8_10 - x2_4)))) (IntKind.u64.wrap (wrap64 (x8_10 - x2_4)))))) = (ji19) then (if (Int.tmod (shr .u64 a1 (IntKind.u64.wrap (wrap64 (x8_10 - x2_4)))) 2) = 1 then (sibylref03_Join.j4 k4 x7_3 x8_10 (IntKind.u64.wrap ((shr .u64 a1 (IntKind.u64.wrap (wrap64 (x8_10 - x2_4)))) + 1))) else (sibylref03_Join.j4 k4 x7_3 x8_10 (shr .u64 a1 (IntKind.u64.wrap (wrap64 (x8_10 - x2_4)))))) else (sibylref03_Join.j4 k4 x7_3 x8_10 (shr .u64 a1 (IntKind.u64.wrap (wrap64 (x8_10 - x2_4))))))) else (none)) else (if a1 > (ji19) then (sibylref03_Join.j4 k4 x7_3 x8_10 (0 + 1)) else (if a1 = (ji19) then (if ((0 : Int) % 2) = 1 then (sibylref03_Join.j4 k4 x7_3 x8_10 (0 + 1)) else (sibylref03_Join.j4 k4 x7_3 x8_10 0)) else (sibylref03_Join.j4 k4 x7_3 x8_10 0)))) = some r := by first | (rw [hji19] at H; exact H) | (simp only [hji19] at H ⊢; exact H)
                                have hji19_ : (IntKind.u64.wrap (1 * 2 ^ min (ji17).toNat 64)) = ji19 := hji19
                                have hji19z : (ji17) ≤ 64 → (IntKind.u64.wrap (1 * 2 ^ (ji17).toNat)) = ji19 := shl_small hji19
                                have hji19u : (IntKind.u64.wrap (2 ^ min (ji17).toNat 64)) = ji19 := by have h_ := hji19_; rw [Int.one_mul] at h_; exact h_
                                have hji19v : (ji17) ≤ 64 → (IntKind.u64.wrap (2 ^ (ji17).toNat)) = ji19 := fun hle_ => by have h_ := hji19z hle_; rw [Int.one_mul] at h_; exact h_
                                by_cases c20 : (wrap64 (x8_10 - x2_4)) < 64
                                · rw [if_pos c20] at H
                                  have c20b0 : decide ((wrap64 (x8_10 - x2_4)) < 64) = true := decide_eq_true c20
                                  clear c20
                                  obtain ⟨ji21, hji21⟩ : ∃ j_ : Int, (IntKind.u64.wrap (wrap64 (x8_10 - x2_4))) = j_ := ⟨_, rfl⟩
                                  replace H : (if 0 ≤ (ji21) then (if (IntKind.u64.wrap (a1 - (shl .u64 (shr .u64 a1 (ji21)) (ji21)))) > (ji19) then (sibylref03_Join.j4 k4 x7_3 x8_10 (IntKind.u64.wrap ((shr .u64 a1 (ji21)) + 1))) else (if (IntKind.u64.wrap (a1 - (shl .u64 (shr .u64 a1 (ji21)) (ji21)))) = (ji19) then (if (Int.tmod (shr .u64 a1 (ji21)) 2) = 1 then (sibylref03_Join.j4 k4 x7_3 x8_10 (IntKind.u64.wrap ((shr .u64 a1 (ji21)) + 1))) else (sibylref03_Join.j4 k4 x7_3 x8_10 (shr .u64 a1 (ji21)))) else (sibylref03_Join.j4 k4 x7_3 x8_10 (shr .u64 a1 (ji21))))) else (none)) = some r := by first | (rw [hji21] at H; exact H) | (simp only [hji21] at H ⊢; exact H)
                                  by_cases c22 : 0 ≤ (ji21)
                                  · rw [if_pos c22] at H
                                    have c22b0 := eq_true c22
                                    have c22b1 : decide (0 ≤ (ji21)) = true := decide_eq_true c22
                                    clear c22
                                    obtain ⟨ji23, hji23⟩ : ∃ j_ : Int, (shr .u64 a1 (ji21)) = j_ := ⟨_, rfl⟩
                                    replace H : (if (IntKind.u64.wrap (a1 - (shl .u64 (ji23) (ji21)))) > (ji19) then (sibylref03_Join.j4 k4 x7_3 x8_10 (IntKind.u64.wrap ((ji23) + 1))) else (if (IntKind.u64.wrap (a1 - (shl .u64 (ji23) (ji21)))) = (ji19) then (if (Int.tmod (ji23) 2) = 1 then (sibylref03_Join.j4 k4 x7_3 x8_10 (IntKind.u64.wrap ((ji23) + 1))) else (sibylref03_Join.j4 k4 x7_3 x8_10 ji23)) else (sibylref03_Join.j4 k4 x7_3 x8_10 ji23))) = some r := by first | (rw [hji23] at H; exact H) | (simp only [hji23] at H ⊢; exact H)
                                    have hji23_ : (a1 / 2 ^ min (ji21).toNat 64) = ji23 := hji23
                                    have hji23z : (ji21) ≤ 64 → (a1 / 2 ^ (ji21).toNat) = ji23 := shr_small hji23
                                    have c24b0 := eq_true (of_decide_eq_true (by first | (with_reducible assumption) | assumption) : 0 ≤ (ji21))
                                    obtain ⟨ji25, hji25⟩ : ∃ j_ : Int, (shl .u64 (ji23) (ji21)) = j_ := ⟨_, rfl⟩
                                    replace H : (if (IntKind.u64.wrap (a1 - (ji25))) > (ji19) then (sibylref03_Join.j4 k4 x7_3 x8_10 (IntKind.u64.wrap ((ji23) + 1))) else (if (IntKind.u64.wrap (a1 - (ji25))) = (ji19) then (if (Int.tmod (ji23) 2) = 1 then (sibylref03_Join.j4 k4 x7_3 x8_10 (IntKind.u64.wrap ((ji23) + 1))) else (sibylref03_Join.j4 k4 x7_3 x8_10 ji23)) else (sibylref03_Join.j4 k4 x7_3 x8_10 ji23))) = some r := by first | (rw [hji25] at H; exact H) | (simp only [hji25] at H ⊢; exact H)
                                    have hji25_ : (IntKind.u64.wrap ((ji23) * 2 ^ min (ji21).toNat 64)) = ji25 := hji25
                                    have hji25z : (ji21) ≤ 64 → (IntKind.u64.wrap ((ji23) * 2 ^ (ji21).toNat)) = ji25 := shl_small hji25
                                    by_cases c26 : (IntKind.u64.wrap (a1 - (ji25))) > (ji19)
                                    · rw [if_pos c26] at H
                                      have c26b0 : decide ((ji19) < (IntKind.u64.wrap (a1 - (ji25)))) = true := decide_eq_true c26
                                      clear c26
                                      have H' := Aside0.mk H
                                      clear H
                                      go_wp2
                                      go_meet
                                      case rel => exact ⟨_, (IntKind.u64.wrap ((ji23) + 1)), (by first | rfl | (simp; done) | (simp only [← hji23] <;> (first | rfl | simp)) | (simp [*]; done)), H', ⟨by have := HJ3.out; have := HJ5.out; have := HJ10.out; have := HK4.out; first | omega | exact Nat.le_refl _⟩, by repeat (first | exact Drawn0.refl _ | apply Drawn0.step)⟩
                                    · rw [if_neg c26] at H
                                      have c26b0 : decide ((ji19) < (IntKind.u64.wrap (a1 - (ji25)))) = false := decide_eq_false c26
                                      clear c26
                                      by_cases c27 : (IntKind.u64.wrap (a1 - (ji25))) = (ji19)
                                      · rw [if_pos c27] at H
                                        have c27b0 : ((IntKind.u64.wrap (a1 - (ji25))) == (ji19)) = true := beq_iff_eq.mpr c27
                                        have c27b1 : ((IntKind.u64.wrap (a1 - (ji25))) != (ji19)) = false := bne_eq_false_iff_eq.mpr c27
                                        clear c27
                                        by_cases c28 : (Int.tmod (ji23) 2) = 1
                                        · rw [if_pos c28] at H
                                          have c28b0 : ((Int.tmod (ji23) 2) == 1) = true := beq_iff_eq.mpr c28
                                          have c28b1 : ((Int.tmod (ji23) 2) != 1) = false := bne_eq_false_iff_eq.mpr c28
                                          clear c28
                                          have H' := Aside0.mk H
                                          clear H
                                          go_wp2
                                          go_meet
                                          case rel => exact ⟨_, (IntKind.u64.wrap ((ji23) + 1)), (by first | rfl | (simp; done) | (simp only [← hji23] <;> (first | rfl | simp)) | (simp [*]; done)), H', ⟨by have := HJ3.out; have := HJ5.out; have := HJ10.out; have := HK4.out; first | omega | exact Nat.le_refl _⟩, by repeat (first | exact Drawn0.refl _ | apply Drawn0.step)⟩
                                        · rw [if_neg c28] at H
                                          have c28b0 : ((Int.tmod (ji23) 2) == 1) = false := beq_eq_false_iff_ne.mpr c28
                                          have c28b1 : ((Int.tmod (ji23) 2) != 1) = true := bne_iff_ne.mpr c28
                                          have H' := Aside0.mk H
                                          clear H
                                          go_wp2
                                          go_meet
                                          case rel => exact ⟨_, (ji23), (by first | rfl | (simp; done) | (simp only [← hji23] <;> (first | rfl | simp)) | (simp [*]; done)), H', ⟨by have := HJ3.out; have := HJ5.out; have := HJ10.out; have := HK4.out; first | omega | exact Nat.le_refl _⟩, by repeat (first | exact Drawn0.refl _ | apply Drawn0.step)⟩
                                      · rw [if_neg c27] at H
                                        have c27b0 : ((IntKind.u64.wrap (a1 - (ji25))) == (ji19)) = false := beq_eq_false_iff_ne.mpr c27
                                        have c27b1 : ((IntKind.u64.wrap (a1 - (ji25))) != (ji19)) = true := bne_iff_ne.mpr c27
                                        have H' := Aside0.mk H
                                        clear H
                                        go_wp2
                                        go_meet
                                        case rel => exact ⟨_, (ji23), (by first | rfl | (simp; done) | (simp only [← hji23] <;> (first | rfl | simp)) | (simp [*]; done)), H', ⟨by have := HJ3.out; have := HJ5.out; have := HJ10.out; have := HK4.out; first | omega | exact Nat.le_refl _⟩, by repeat (first | exact Drawn0.refl _ | apply Drawn0.step)⟩
                                  · rw [if_neg c22] at H
                                    exact absurd H (by simp)
                                · rw [if_neg c20] at H
                                  have c20b0 : decide ((wrap64 (x8_10 - x2_4)) < 64) = false := decide_eq_false c20
                                  clear c20
                                  by_cases c29 : a1 > (ji19)
                                  · rw [if_pos c29] at H
                                    have c29b0 : decide ((ji19) < a1) = true := decide_eq_true c29
                                    clear c29
                                    have H' := Aside0.mk H
                                    clear H
                                    go_wp2
                                    go_meet
                                    case rel => exact ⟨_, (0 + 1), (by first | rfl | (simp; done) | (simp [*]; done)), H', ⟨by have := HJ3.out; have := HJ5.out; have := HJ10.out; have := HK4.out; first | omega | exact Nat.le_refl _⟩, by repeat (first | exact Drawn0.refl _ | apply Drawn0.step)⟩
                                  · rw [if_neg c29] at H
                                    have c29b0 : decide ((ji19) < a1) = false := decide_eq_false c29
                                    clear c29
                                    by_cases c30 : a1 = (ji19)
                                    · rw [if_pos c30] at H
                                      have c30b0 : (a1 == (ji19)) = true := beq_iff_eq.mpr c30
                                      have c30b1 : (a1 != (ji19)) = false := bne_eq_false_iff_eq.mpr c30
                                      clear c30
                                      by_cases c31 : ((0 : Int) % 2) = 1
                                      · exact absurd c31 (by decide)
                                      · rw [if_neg c31] at H
                                        have c31b0 : (((0 : Int) % 2) == 1) = false := beq_eq_false_iff_ne.mpr c31
                                        have c31b1 : (((0 : Int) % 2) != 1) = true := bne_iff_ne.mpr c31
                                        have H' := Aside0.mk H
                                        clear H
                                        go_wp2
                                        go_meet
                                        case rel => exact ⟨_, (0), (by first | rfl | (simp; done) | (simp [*]; done)), H', ⟨by have := HJ3.out; have := HJ5.out; have := HJ10.out; have := HK4.out; first | omega | exact Nat.le_refl _⟩, by repeat (first | exact Drawn0.refl _ | apply Drawn0.step)⟩
                                    · rw [if_neg c30] at H
                                      have c30b0 : (a1 == (ji19)) = false := beq_eq_false_iff_ne.mpr c30
                                      have c30b1 : (a1 != (ji19)) = true := bne_iff_ne.mpr c30
                                      have H' := Aside0.mk H
                                      clear H
                                      go_wp2
                                      go_meet
                                      case rel => exact ⟨_, (0), (by first | rfl | (simp; done) | (simp [*]; done)), H', ⟨by have := HJ3.out; have := HJ5.out; have := HJ10.out; have := HK4.out; first | omega | exact Nat.le_refl _⟩, by repeat (first | exact Drawn0.refl _ | apply Drawn0.step)⟩
                              · rw [if_neg c18] at H
                                exact absurd H (by simp)
                          · rw [if_neg c15] at H
                            have c15b0 : decide (x2_4 < x8_10) = false := decide_eq_false c15
                            clear c15
                            (first | rw [c15b0] | (simp only [i64_w, i32_w]; rw [c15b0]) | skip)
                            have H' := Aside0.mk H
                            clear H
                            go_wp2
                            go_meet
                            case rel => exact ⟨_, (x9_4), (by first | rfl | (simp; done) | (simp [*]; done)), H', ⟨by have := HJ3.out; have := HJ5.out; have := HJ10.out; have := HK4.out; first | omega | exact Nat.le_refl _⟩, by repeat (first | exact Drawn0.refl _ | apply Drawn0.step)⟩
                        case rest =>
                          clear HC14
                          try clear c1
                          try clear c2
                          try clear p2
                          try clear c3
                          try clear c5
                          try clear p6
                          try clear c7
                          try clear c7b0
                          try clear c7b1
                          try clear c8
                          try clear c9
                          try clear c9b0
                          try clear c10
                          try clear c12
                          try clear c12b0
                          try clear c13
                          try clear c13b0
                          try clear c15
                          try clear c15b0
                          try clear c16
                          try clear c16b0
                          try clear c18
                          try clear c18b0
                          try clear c18b1
                          try clear c20
                          try clear c20b0
                          try clear c22
                          try clear c22b0
                          try clear c22b1
                          try clear c24
                          try clear c24b0
                          try clear c26
                          try clear c26b0
                          try clear c27
                          try clear c27b0
                          try clear c27b1
                          try clear c28
                          try clear c28b0
                          try clear c28b1
                          try clear c29
                          try clear c29b0
                          try clear c30
                          try clear c30b0
                          try clear c30b1
                          try clear c31
                          try clear c31b0
                          try clear c31b1
                          try clear p2
                          try clear p6
                          obtain ⟨kq, x9_13, rfl, HA, HJ13, ⟨mc13, rfl⟩⟩ := hcut
                          cases kq with
                          | zero => exact absurd HA.out (by simp [sibylref03_Join.j4])
                          | succ kj13 =>
                            have H := HA.out
                            clear HA
                            simp only [sibylref03_Join.j4] at H
                            have HC32 := Aside0.mk H
                            clear H
                            go_upto_if 82 with (fail)
                            go_cut [8, 9] (fun v8 v9 wc => ∃ (kq : Nat) (x8_31 : Int) (x9_31 : Int), v8 = .int .i64 x8_31 ∧ v9 = .int .u64 x9_31 ∧ Aside0 (sibylref03_Join.j5 kq x7_3 x8_31 x9_31 = some r) ∧ Aside0 (kq ≤ kj13) ∧ Drawn0 w wc)
                            case first =>
                              have H := HC32.out
                              clear HC32
                              by_cases c33 : x9_13 = 9007199254740992
                              · rw [if_pos c33] at H
                                have c33b0 : (x9_13 == 9007199254740992) = true := beq_iff_eq.mpr c33
                                have c33b1 : (x9_13 != 9007199254740992) = false := bne_eq_false_iff_eq.mpr c33
                                clear c33
                                (first | rw [c33b0] | (simp only [i64_w, i32_w]; rw [c33b0]) | skip)
                                have H' := Aside0.mk H
                                clear H
                                go_wp2
                                go_meet
                                case rel => exact ⟨_, (wrap64 (x8_10 + 1)), (4503599627370496), (by first | rfl | (simp; done) | (simp [*]; done)), (by first | rfl | (simp; done) | (simp [*]; done)), H', ⟨by have := HJ3.out; have := HJ5.out; have := HJ10.out; have := HK4.out; have := HJ13.out; first | omega | exact Nat.le_refl _⟩, by repeat (first | exact Drawn0.refl _ | apply Drawn0.step)⟩
                              · rw [if_neg c33] at H
                                have c33b0 : (x9_13 == 9007199254740992) = false := beq_eq_false_iff_ne.mpr c33
                                have c33b1 : (x9_13 != 9007199254740992) = true := bne_iff_ne.mpr c33
                                (first | rw [c33b0] | (simp only [i64_w, i32_w]; rw [c33b0]) | skip)
                                have H' := Aside0.mk H
                                clear H
                                go_wp2
                                go_meet
                                case rel => exact ⟨_, (x8_10), (x9_13), (by first | rfl | (simp; done) | (simp [*]; done)), (by first | rfl | (simp; done) | (simp [*]; done)), H', ⟨by have := HJ3.out; have := HJ5.out; have := HJ10.out; have := HK4.out; have := HJ13.out; first | omega | exact Nat.le_refl _⟩, by repeat (first | exact Drawn0.refl _ | apply Drawn0.step)⟩
                            case rest =>
                              clear HC32
                              try clear c1
                              try clear c2
                              try clear p2
                              try clear c3
                              try clear c5
                              try clear p6
                              try clear c7
                              try clear c7b0
                              try clear c7b1
                              try clear c8
                              try clear c9
                              try clear c9b0
                              try clear c10
                              try clear c12
                              try clear c12b0
                              try clear c13
                              try clear c13b0
                              try clear c15
                              try clear c15b0
                              try clear c16
                              try clear c16b0
                              try clear c18
                              try clear c18b0
                              try clear c18b1
                              try clear c20
                              try clear c20b0
                              try clear c22
                              try clear c22b0
                              try clear c22b1
                              try clear c24
                              try clear c24b0
                              try clear c26
                              try clear c26b0
                              try clear c27
                              try clear c27b0
                              try clear c27b1
                              try clear c28
                              try clear c28b0
                              try clear c28b1
                              try clear c29
                              try clear c29b0
                              try clear c30
                              try clear c30b0
                              try clear c30b1
                              try clear c31
                              try clear c31b0
                              try clear c31b1
                              try clear c33
                              try clear c33b0
                              try clear c33b1
                              try clear p2
                              try clear p6
                              obtain ⟨kq, x8_31, x9_31, rfl, rfl, HA, HJ31, ⟨mc31, rfl⟩⟩ := hcut
                              cases kq with
                              | zero => exact absurd HA.out (by simp [sibylref03_Join.j5])
                              | succ kj31 =>
                                have H := HA.out
                                clear HA
                                simp only [sibylref03_Join.j5] at H
                                by_cases c34 : x9_31 < 4503599627370496
                                · rw [if_pos c34] at H
                                  have c34b0 : decide (x9_31 < 4503599627370496) = true := decide_eq_true c34
                                  clear c34
                                  obtain rfl := Option.some.inj H
                                  go_wp2
                                  go_ret
                                  exact ⟨by first | rfl | (simp; done) | (simp [*]; done), by repeat (first | exact Drawn0.refl _ | apply Drawn0.step)⟩
                                · rw [if_neg c34] at H
                                  have c34b0 : decide (x9_31 < 4503599627370496) = false := decide_eq_false c34
                                  clear c34
                                  by_cases c35 : (wrap64 (x8_31 + 1075)) > 2046
                                  · rw [if_pos c35] at H
                                    have c35b0 : decide (2046 < (wrap64 (x8_31 + 1075))) = true := decide_eq_true c35
                                    clear c35
                                    obtain rfl := Option.some.inj H
                                    go_wp2
                                    go_ret
                                    exact ⟨by first | rfl | (simp; done) | (simp [*]; done), by repeat (first | exact Drawn0.refl _ | apply Drawn0.step)⟩
                                  · rw [if_neg c35] at H
                                    have c35b0 : decide (2046 < (wrap64 (x8_31 + 1075))) = false := decide_eq_false c35
                                    clear c35
                                    obtain rfl := Option.some.inj H
                                    go_wp2
                                    go_ret
                                    exact ⟨by first | rfl | (simp; done) | (simp [*]; done), by repeat (first | exact Drawn0.refl _ | apply Drawn0.step)⟩

/-! ### sibylref01_Bits: function 86 -/
def sibylref01_Bits.l0 : Nat → Int → Int → Option (Int)
  | 0, _, _ => none
  | k + 1, x4, x5 => if x5 > 0 then (sibylref01_Bits.l0 k (wrap64 (x4 + 1)) ((Int.tdiv x5 2) % 4294967296)) else (some x4)
def sibylref01_Bits.f (k : Nat) (l0 : List Int) : Option (Int) := (sibylref01_Trim.f k l0).bind fun t396 => (if (t396.length : Int) = 0 then (some 0) else (if 0 ≤ (wrap64 ((t396.length : Int) - 1)) then (if (wrap64 ((t396.length : Int) - 1)) < (t396.length : Int) then (sibylref01_Bits.l0 k (wrap64 (32 * (wrap64 ((t396.length : Int) - 1)))) (rd t396 (wrap64 ((t396.length : Int) - 1)))) else (none)) else (none)))
theorem sibylref01_Bits.mono_l : ∀ k, (∀ y0 y1, LeO (sibylref01_Bits.l0 k y0 y1) (sibylref01_Bits.l0 (k + 1) y0 y1))
  | 0 => fun _ _ r h => by simp [sibylref01_Bits.l0] at h
  | k + 1 => by
    have ih0 := sibylref01_Bits.mono_l k
    · intro y0 y1
      unfold sibylref01_Bits.l0
      repeat' first
      | (with_reducible exact ih0 _ _)
      | (with_reducible exact sibylref01_Trim.mono _ _)
      | (with_reducible exact LeO.refl _)
      | (with_reducible exact LeO.none _)
      | (with_reducible refine LeO.ite ?_ ?_)
      | (with_reducible refine LeO.bind ?_ (fun _ => ?_))
      | exact ih0 _ _
      | exact sibylref01_Trim.mono _ _
      | exact LeO.none _
      | refine LeO.ite ?_ ?_
      | refine LeO.bind ?_ (fun _ => ?_)
theorem sibylref01_Bits.mono : ∀ a0 k, LeO (sibylref01_Bits.f k a0) (sibylref01_Bits.f (k + 1) a0) := by
  intro a0 k
  have ih0 := sibylref01_Bits.mono_l k
  unfold sibylref01_Bits.f
  repeat' first
      | (with_reducible exact ih0 _ _)
      | (with_reducible exact sibylref01_Trim.mono _ _)
      | (with_reducible exact LeO.refl _)
      | (with_reducible exact LeO.none _)
      | (with_reducible refine LeO.ite ?_ ?_)
      | (with_reducible refine LeO.bind ?_ (fun _ => ?_))
      | exact ih0 _ _
      | exact sibylref01_Trim.mono _ _
      | exact LeO.none _
      | refine LeO.ite ?_ ?_
      | refine LeO.bind ?_ (fun _ => ?_)
set_option maxHeartbeats 8000000 in
set_option maxRecDepth 100000 in
theorem sibylref01_Bits.calls (k : Nat) (A0 : Option Addr) (c0 : Nat) (l0 : List Int) (r : Int) (w : World) (hr0 : Kd.C (Kd.int .u32) w A0 l0.length l0) (hc0 : l0.length ≤ c0) (h : sibylref01_Bits.f k l0 = some r) :
    Calls Try.prog 86 #[.slice A0 l0.length c0] w fun e w' => e = .returned (.int .i64 r) ∧ Below w.heap.size w w' := by
  have HR0 := Aside0.mk hr0
  have HC0 := Aside0.mk hc0
  clear hr0 hc0
  have HB := Aside0.mk (Below.refl w.heap.size w)
  have H : ((sibylref01_Trim.f k l0).bind fun t396 => (if (t396.length : Int) = 0 then (some 0) else (if 0 ≤ (wrap64 ((t396.length : Int) - 1)) then (if (wrap64 ((t396.length : Int) - 1)) < (t396.length : Int) then (sibylref01_Bits.l0 k (wrap64 (32 * (wrap64 ((t396.length : Int) - 1)))) (rd t396 (wrap64 ((t396.length : Int) - 1)))) else (none)) else (none)))) = some r := h
  clear h
  replace H := Option.bind_eq_some_iff.mp H
  obtain ⟨t396, A20, H⟩ := H
  replace H : (if (t396.length : Int) = 0 then (some 0) else (if 0 ≤ (wrap64 ((t396.length : Int) - 1)) then (if (wrap64 ((t396.length : Int) - 1)) < (t396.length : Int) then (sibylref01_Bits.l0 k (wrap64 (32 * (wrap64 ((t396.length : Int) - 1)))) (rd t396 (wrap64 ((t396.length : Int) - 1)))) else (none)) else (none))) = some r := H
  have A2 := Aside0.mk A20
  clear A20
  by_cases c3 : (t396.length : Int) = 0
  · rw [if_pos c3] at H
    have c3b0 : ((t396.length : Int) == 0) = true := beq_iff_eq.mpr c3
    have c3b1 : ((t396.length : Int) != 0) = false := bne_eq_false_iff_eq.mpr c3
    clear c3
    obtain rfl := Option.some.inj H
    go_enter Try.func86, Try.ntmps86
    go_wp2_with (first | ((with_reducible refine gate_callee (f := 83) rfl ?_); refine goesL_ (some 7) rfl rfl Try.func83 (by kernel_rfl) rfl #[.slice A0 l0.length c0] rfl (by (try simp only [List.map_toArray, List.map_cons, List.map_nil]); first | done | rfl | (simp only [List.length_drop, List.length_take]; rfl)) ?_; (with_reducible refine (sibylref01_Trim.calls k _ _ l0 t396 _ ?side1 ?side2 A2.out).mono ?_); (case side1 => repeat (first | exact HR0.out | (with_reducible refine Kd.C_alloc ?_ _) | (with_reducible refine Kd.C_drewN ?_ _) | (with_reducible refine Kd.C_drew ?_))); (case side2 => exact HC0.out); rintro e w4 ⟨v397, rfl, ho0, hb⟩; refine ⟨_, rfl, ?_⟩; have n0_ := Aside0.mk (Kd.R_lower ho0 (below_size (by repeat (first | (with_reducible first | exact HB.out | apply below_alloc | apply pw_below_drewN | apply below_drew1) | exact HB.out)))); have n1_ := Aside0.mk (below_step (by repeat (first | (with_reducible first | exact HB.out | apply below_alloc | apply pw_below_drewN | apply below_drew1) | exact HB.out)) hb); clear HB; have HO398 := n0_; have HB := n1_; clear n0_ n1_; (try clear hb); (try clear hb2); (try clear hk); (try clear hi); (try clear ho0); obtain ⟨Ao5, co5, eo5⟩ := Kd.R_slice HO398.out; subst eo5))
    go_ret
    exact ⟨by first | rfl | (simp [errW_none, errW_some] <;> rfl) | (simp [*, errW_none, errW_some] <;> rfl), by repeat (first | (with_reducible first | exact HB.out | apply below_alloc | apply pw_below_drewN | apply below_drew1) | exact HB.out)⟩
  · rw [if_neg c3] at H
    have c3b0 : ((t396.length : Int) == 0) = false := beq_eq_false_iff_ne.mpr c3
    have c3b1 : ((t396.length : Int) != 0) = true := bne_iff_ne.mpr c3
    have c3b2 : ¬ (t396 = []) := fun h_ => c3 (by rw [h_]; rfl)
    obtain ⟨ji6, hji6⟩ : ∃ j_ : Int, (wrap64 ((t396.length : Int) - 1)) = j_ := ⟨_, rfl⟩
    replace H : (if 0 ≤ (ji6) then (if (ji6) < (t396.length : Int) then (sibylref01_Bits.l0 k (wrap64 (32 * (ji6))) (rd t396 (ji6))) else (none)) else (none)) = some r := by first | (rw [hji6] at H; exact H) | (simp only [hji6] at H ⊢; exact H)
    (try rw [hji6] at A2)
    have hji6w : (IntKind.i64.wrap ((t396.length : Int) - 1)) = ji6 := (i64_w _).trans hji6
    by_cases c7 : 0 ≤ (ji6)
    · rw [if_pos c7] at H
      have c7b0 : decide (0 ≤ (ji6)) = true := decide_eq_true c7
      clear c7
      by_cases c8 : (ji6) < (t396.length : Int)
      · rw [if_pos c8] at H
        have c8b0 : decide ((ji6) < (t396.length : Int)) = true := decide_eq_true c8
        clear c8
        have H' := Aside0.mk H
        clear H
        go_enter Try.func86, Try.ntmps86
        go_wp2_with (first | ((with_reducible refine gate_callee (f := 83) rfl ?_); refine goesL_ (some 7) rfl rfl Try.func83 (by kernel_rfl) rfl #[.slice A0 l0.length c0] rfl (by (try simp only [List.map_toArray, List.map_cons, List.map_nil]); first | done | rfl | (simp only [List.length_drop, List.length_take]; rfl)) ?_; (with_reducible refine (sibylref01_Trim.calls k _ _ l0 t396 _ ?side1 ?side2 A2.out).mono ?_); (case side1 => repeat (first | exact HR0.out | (with_reducible refine Kd.C_alloc ?_ _) | (with_reducible refine Kd.C_drewN ?_ _) | (with_reducible refine Kd.C_drew ?_))); (case side2 => exact HC0.out); rintro e w9 ⟨v397, rfl, ho0, hb⟩; refine ⟨_, rfl, ?_⟩; have n0_ := Aside0.mk (Kd.R_lower ho0 (below_size (by repeat (first | (with_reducible first | exact HB.out | apply below_alloc | apply pw_below_drewN | apply below_drew1) | exact HB.out)))); have n1_ := Aside0.mk (below_step (by repeat (first | (with_reducible first | exact HB.out | apply below_alloc | apply pw_below_drewN | apply below_drew1) | exact HB.out)) hb); clear HB; have HO398 := n0_; have HB := n1_; clear n0_ n1_; (try clear hb); (try clear hb2); (try clear hk); (try clear hi); (try clear ho0); obtain ⟨Ao10, co10, eo10⟩ := Kd.R_slice HO398.out; subst eo10; have p399 : 0 ≤ ((ji6) : Int) := of_decide_eq_true (by first | (with_reducible assumption) | assumption); have q399 : (ji6) < (t396.length : Int) := of_decide_eq_true (by first | (with_reducible assumption) | assumption); obtain ⟨ad399, e399, hx399_0⟩ := Kd.at_int (Kd.R_reads' HO398.out).2.2 (ji6) p399 q399; cases e399; replace p399 := eq_true p399; replace q399 := eq_true q399))
        go_loopg [4, 5] k (fun kq v4 v5 w' => ∃ (x4_1 : Int) (x5_1 : Int), v4 = .int .i64 x4_1 ∧ v5 = .int .u32 x5_1 ∧ Aside0 (sibylref01_Bits.l0 kq x4_1 x5_1 = some r) ∧ Aside0 (kq ≤ k) ∧ Aside0 (Below w.heap.size w w'))
        case atStart => exact ⟨(wrap64 (32 * (ji6))), (rd t396 (ji6)), (by first | rfl | (simp; done) | (simp only [← hji6] <;> (first | rfl | simp)) | (simp [*]; done)), (by first | rfl | (simp; done) | (simp only [← hji6] <;> (first | rfl | simp)) | (simp [*]; done)), H', ⟨Nat.le_refl _⟩, ⟨by repeat (first | (with_reducible first | exact HB.out | apply below_alloc | apply pw_below_drewN | apply below_drew1) | exact HB.out)⟩⟩
        case round =>
          clear H'
          try clear p2
          try clear c3
          try clear c3b0
          try clear c3b1
          try clear c3b2
          try clear p3
          try clear q3
          try clear hx3
          try clear p6
          try clear c7
          try clear c7b0
          try clear c8
          try clear c8b0
          try clear hx399_0
          try clear p399
          try clear q399
          obtain ⟨x4_1, x5_1, rfl, rfl, HA, HK1, HB⟩ := hrel
          cases gk with
          | zero => exact absurd HA.out (by simp [sibylref01_Bits.l0])
          | succ k1 =>
            have H := HA.out
            clear HA
            simp only [sibylref01_Bits.l0] at H
            by_cases c11 : x5_1 > 0
            · rw [if_pos c11] at H
              have c11b0 : decide (0 < x5_1) = true := decide_eq_true c11
              clear c11
              have H' := Aside0.mk H
              clear H
              go_wp2
              go_roundg k1
              case measure => have := HK1.out; omega
              case rel => exact ⟨(wrap64 (x4_1 + 1)), ((Int.tdiv x5_1 2) % 4294967296), (by first | rfl | (simp; done) | (simp [*]; done)), (by first | rfl | (simp; done) | (simp [*]; done)), H', ⟨by have := HK1.out; omega⟩, ⟨by repeat (first | (with_reducible first | exact HB.out | apply below_alloc | apply pw_below_drewN | apply below_drew1) | exact HB.out)⟩⟩
            · rw [if_neg c11] at H
              have c11b0 : decide (0 < x5_1) = false := decide_eq_false c11
              clear c11
              obtain rfl := Option.some.inj H
              go_wp2
              go_ret
              exact ⟨by first | rfl | (simp [errW_none, errW_some] <;> rfl) | (simp only [← hji6]; first | rfl | (simp [errW_none, errW_some] <;> rfl)) | (simp [*, errW_none, errW_some] <;> rfl), by repeat (first | (with_reducible first | exact HB.out | apply below_alloc | apply pw_below_drewN | apply below_drew1) | exact HB.out)⟩
      · rw [if_neg c8] at H
        exact absurd H (by simp)
    · rw [if_neg c7] at H
      exact absurd H (by simp)

/-! ### sibylref21_round: function 61 -/
mutual
def sibylref21_round.j0 : Nat → Bool → List Int → Int → Bool → Int → Option (Int)
  | 0, _, _, _, _, _ => none
  | k + 1, x0, x1, x2, x3, x9 => (sibylref01_Shr.f k x1 x9).bind fun t404 => ((sibylref01_Shl.f k t404 x9).bind fun t407 => ((sibylref01_Cmp.f k t407 x1).bind fun t410 => (if t410 = 0 then (sibylref21_round.j1 k x0 x2 x3 x9 t404) else (sibylref21_round.j1 k x0 x2 true x9 t404))))
def sibylref21_round.j1 : Nat → Bool → Int → Bool → Int → List Int → Option (Int)
  | 0, _, _, _, _, _ => none
  | k + 1, x0, x2, x3, x9, x10 => sibylref21_round.l0 k x0 x2 x3 x9 x10 0 (wrap64 ((x10.length : Int) - 1))
def sibylref21_round.l0 : Nat → Bool → Int → Bool → Int → List Int → Int → Int → Option (Int)
  | 0, _, _, _, _, _, _, _ => none
  | k + 1, x0, x2, x3, x9, x10, x11, x12 => if x12 ≥ 0 then (if 0 ≤ x12 then (if x12 < (x10.length : Int) then (sibylref21_round.l0 k x0 x2 x3 x9 x10 (IntKind.u64.wrap ((IntKind.u64.wrap (x11 * 4294967296)) + (IntKind.u64.wrap (rd x10 x12)))) (wrap64 (x12 - 1))) else (none)) else (none)) else (if x3 = true then ((sibylref03_Join.f k x0 (IntKind.u64.wrap ((IntKind.u64.wrap (2 * x11)) + 1)) (wrap64 ((wrap64 (x2 + x9)) - 1))).bind fun t412 => (some t412)) else ((sibylref03_Join.f k x0 (IntKind.u64.wrap (2 * x11)) (wrap64 ((wrap64 (x2 + x9)) - 1))).bind fun t413 => (some t413)))
end
def sibylref21_round.f (k : Nat) (a0 : Bool) (l1 : List Int) (a2 : Int) (a3 : Bool) : Option (Int) := (sibylref01_Bits.f k l1).bind fun t400 => (if (wrap64 (t400 - 63)) < 0 then ((sibylref01_Shl.f k l1 (wrap64 (-(wrap64 (t400 - 63))))).bind fun t401 => (sibylref21_round.j0 k a0 t401 (wrap64 (a2 + (wrap64 (t400 - 63)))) a3 0)) else (sibylref21_round.j0 k a0 l1 a2 a3 (wrap64 (t400 - 63))))
theorem sibylref21_round.mono_l : ∀ k, (∀ y0 y1 y2 y3 y4, LeO (sibylref21_round.j0 k y0 y1 y2 y3 y4) (sibylref21_round.j0 (k + 1) y0 y1 y2 y3 y4)) ∧ (∀ y0 y1 y2 y3 y4, LeO (sibylref21_round.j1 k y0 y1 y2 y3 y4) (sibylref21_round.j1 (k + 1) y0 y1 y2 y3 y4)) ∧ (∀ y0 y1 y2 y3 y4 y5 y6, LeO (sibylref21_round.l0 k y0 y1 y2 y3 y4 y5 y6) (sibylref21_round.l0 (k + 1) y0 y1 y2 y3 y4 y5 y6))
  | 0 => ⟨fun _ _ _ _ _ r h => by simp [sibylref21_round.j0] at h, fun _ _ _ _ _ r h => by simp [sibylref21_round.j1] at h, fun _ _ _ _ _ _ _ r h => by simp [sibylref21_round.l0] at h⟩
  | k + 1 => by
    obtain ⟨ih0, ih1, ih2⟩ := sibylref21_round.mono_l k
    refine ⟨?_, ?_, ?_⟩
    · intro y0 y1 y2 y3 y4
      unfold sibylref21_round.j0
      repeat' first
      | (with_reducible exact ih0 _ _ _ _ _)
      | (with_reducible exact ih1 _ _ _ _ _)
      | (with_reducible exact ih2 _ _ _ _ _ _ _)
      | (with_reducible exact sibylref01_Bits.mono _ _)
      | (with_reducible exact sibylref01_Cmp.mono _ _ _)
      | (with_reducible exact sibylref01_Shl.mono _ _ _)
      | (with_reducible exact sibylref01_Shr.mono _ _ _)
      | (with_reducible exact sibylref03_Join.mono _ _ _ _)
      | (with_reducible exact LeO.refl _)
      | (with_reducible exact LeO.none _)
      | (with_reducible refine LeO.ite ?_ ?_)
      | (with_reducible refine LeO.bind ?_ (fun _ => ?_))
      | exact ih0 _ _ _ _ _
      | exact ih1 _ _ _ _ _
      | exact ih2 _ _ _ _ _ _ _
      | exact sibylref01_Bits.mono _ _
      | exact sibylref01_Cmp.mono _ _ _
      | exact sibylref01_Shl.mono _ _ _
      | exact sibylref01_Shr.mono _ _ _
      | exact sibylref03_Join.mono _ _ _ _
      | exact LeO.none _
      | refine LeO.ite ?_ ?_
      | refine LeO.bind ?_ (fun _ => ?_)
    · intro y0 y1 y2 y3 y4
      unfold sibylref21_round.j1
      repeat' first
      | (with_reducible exact ih0 _ _ _ _ _)
      | (with_reducible exact ih1 _ _ _ _ _)
      | (with_reducible exact ih2 _ _ _ _ _ _ _)
      | (with_reducible exact sibylref01_Bits.mono _ _)
      | (with_reducible exact sibylref01_Cmp.mono _ _ _)
      | (with_reducible exact sibylref01_Shl.mono _ _ _)
      | (with_reducible exact sibylref01_Shr.mono _ _ _)
      | (with_reducible exact sibylref03_Join.mono _ _ _ _)
      | (with_reducible exact LeO.refl _)
      | (with_reducible exact LeO.none _)
      | (with_reducible refine LeO.ite ?_ ?_)
      | (with_reducible refine LeO.bind ?_ (fun _ => ?_))
      | exact ih0 _ _ _ _ _
      | exact ih1 _ _ _ _ _
      | exact ih2 _ _ _ _ _ _ _
      | exact sibylref01_Bits.mono _ _
      | exact sibylref01_Cmp.mono _ _ _
      | exact sibylref01_Shl.mono _ _ _
      | exact sibylref01_Shr.mono _ _ _
      | exact sibylref03_Join.mono _ _ _ _
      | exact LeO.none _
      | refine LeO.ite ?_ ?_
      | refine LeO.bind ?_ (fun _ => ?_)
    · intro y0 y1 y2 y3 y4 y5 y6
      unfold sibylref21_round.l0
      repeat' first
      | (with_reducible exact ih0 _ _ _ _ _)
      | (with_reducible exact ih1 _ _ _ _ _)
      | (with_reducible exact ih2 _ _ _ _ _ _ _)
      | (with_reducible exact sibylref01_Bits.mono _ _)
      | (with_reducible exact sibylref01_Cmp.mono _ _ _)
      | (with_reducible exact sibylref01_Shl.mono _ _ _)
      | (with_reducible exact sibylref01_Shr.mono _ _ _)
      | (with_reducible exact sibylref03_Join.mono _ _ _ _)
      | (with_reducible exact LeO.refl _)
      | (with_reducible exact LeO.none _)
      | (with_reducible refine LeO.ite ?_ ?_)
      | (with_reducible refine LeO.bind ?_ (fun _ => ?_))
      | exact ih0 _ _ _ _ _
      | exact ih1 _ _ _ _ _
      | exact ih2 _ _ _ _ _ _ _
      | exact sibylref01_Bits.mono _ _
      | exact sibylref01_Cmp.mono _ _ _
      | exact sibylref01_Shl.mono _ _ _
      | exact sibylref01_Shr.mono _ _ _
      | exact sibylref03_Join.mono _ _ _ _
      | exact LeO.none _
      | refine LeO.ite ?_ ?_
      | refine LeO.bind ?_ (fun _ => ?_)
theorem sibylref21_round.mono : ∀ a0 a1 a2 a3 k, LeO (sibylref21_round.f k a0 a1 a2 a3) (sibylref21_round.f (k + 1) a0 a1 a2 a3) := by
  intro a0 a1 a2 a3 k
  obtain ⟨ih0, ih1, ih2⟩ := sibylref21_round.mono_l k
  unfold sibylref21_round.f
  repeat' first
      | (with_reducible exact ih0 _ _ _ _ _)
      | (with_reducible exact ih1 _ _ _ _ _)
      | (with_reducible exact ih2 _ _ _ _ _ _ _)
      | (with_reducible exact sibylref01_Bits.mono _ _)
      | (with_reducible exact sibylref01_Cmp.mono _ _ _)
      | (with_reducible exact sibylref01_Shl.mono _ _ _)
      | (with_reducible exact sibylref01_Shr.mono _ _ _)
      | (with_reducible exact sibylref03_Join.mono _ _ _ _)
      | (with_reducible exact LeO.refl _)
      | (with_reducible exact LeO.none _)
      | (with_reducible refine LeO.ite ?_ ?_)
      | (with_reducible refine LeO.bind ?_ (fun _ => ?_))
      | exact ih0 _ _ _ _ _
      | exact ih1 _ _ _ _ _
      | exact ih2 _ _ _ _ _ _ _
      | exact sibylref01_Bits.mono _ _
      | exact sibylref01_Cmp.mono _ _ _
      | exact sibylref01_Shl.mono _ _ _
      | exact sibylref01_Shr.mono _ _ _
      | exact sibylref03_Join.mono _ _ _ _
      | exact LeO.none _
      | refine LeO.ite ?_ ?_
      | refine LeO.bind ?_ (fun _ => ?_)
set_option maxHeartbeats 8000000 in
set_option maxRecDepth 100000 in
theorem sibylref21_round.calls (k : Nat) (a0 : Bool) (P1_ : Nat → Prop) (u9000_ : Value) (l1 : List Int) (a2 : Int) (a3 : Bool) (r : Int) (w0 w : World) (hB : Below w0.heap.size w0 w) (ho1 : Kd.R (Kd.int .u32) 99 w w0.heap.size P1_ u9000_ l1) (h : sibylref21_round.f k a0 l1 a2 a3 = some r) :
    Calls Try.prog 61 #[.bool a0, u9000_, .int .i64 a2, .bool a3] w fun e w' => e = .returned (.int .u64 r) ∧ Below w0.heap.size w0 w' ∧ Kept w w' (fun k_ => P1_ k_) := by
  have HO1 := Aside0.mk (show Kd.R (Kd.int .u32) 99 w w0.heap.size (fun k_ => (P1_ k_ ∨ w.heap.size ≤ k_)) u9000_ l1 from Kd.R_mono ho1 (fun k_ hk => (.inl hk)))
  have HK := Aside0.mk (Kept.refl w (fun k_ => P1_ k_))
  have HW0 := Aside0.mk hB.size
  have HB := Aside0.mk hB
  clear hB
  have H : ((sibylref01_Bits.f k l1).bind fun t400 => (if (wrap64 (t400 - 63)) < 0 then ((sibylref01_Shl.f k l1 (wrap64 (-(wrap64 (t400 - 63))))).bind fun t401 => (sibylref21_round.j0 k a0 t401 (wrap64 (a2 + (wrap64 (t400 - 63)))) a3 0)) else (sibylref21_round.j0 k a0 l1 a2 a3 (wrap64 (t400 - 63))))) = some r := h
  clear h
  replace H := Option.bind_eq_some_iff.mp H
  obtain ⟨t400, A50, H⟩ := H
  replace H : (if (wrap64 (t400 - 63)) < 0 then ((sibylref01_Shl.f k l1 (wrap64 (-(wrap64 (t400 - 63))))).bind fun t401 => (sibylref21_round.j0 k a0 t401 (wrap64 (a2 + (wrap64 (t400 - 63)))) a3 0)) else (sibylref21_round.j0 k a0 l1 a2 a3 (wrap64 (t400 - 63)))) = some r := H
  have A5 := Aside0.mk A50
  clear A50
  have HC6 := Aside0.mk H
  clear H
  obtain ⟨Ao7, co7, eo7⟩ := Kd.R_slice HO1.out
  subst eo7
  go_enter Try.func61, Try.ntmps61
  go_upto_if 17 with (first | ((with_reducible refine gate_callee (f := 86) rfl ?_); refine goesL_ (some 14) rfl rfl Try.func86 (by kernel_rfl) rfl #[.slice Ao7 l1.length co7] rfl (by (try simp only [List.map_toArray, List.map_cons, List.map_nil]); first | done | rfl | (simp only [List.length_drop, List.length_take]; rfl)) ?_; (with_reducible refine (sibylref01_Bits.calls k _ _ l1 t400 _ ?side1 ?side2 A5.out).mono ?_); (case side1 => repeat (first | exact (Kd.R_reads' HO1.out).2.2 | (with_reducible refine Kd.C_alloc ?_ _) | (with_reducible refine Kd.C_drewN ?_ _) | (with_reducible refine Kd.C_drew ?_))); (case side2 => exact (Kd.R_reads' HO1.out).2.1); rintro e w8 ⟨rfl, hb⟩; refine ⟨_, rfl, ?_⟩; have n0_ := Aside0.mk (Kd.R_below (by (with_reducible repeat (first | apply Kd.R_alloc | apply Kd.R_drewN | apply Kd.R_drew)); exact HO1.out) hb); have n1_ := Aside0.mk (Kept.below (S := (fun k_ => P1_ k_)) (by repeat (first | (with_reducible first | exact HK.out | apply Kept.alloc | apply Kept.drewN | apply Kept.drew) | exact HK.out)) hb); have n2_ := Aside0.mk (below_step (by repeat (first | (with_reducible first | exact HB.out | apply below_alloc | apply pw_below_drewN | apply below_drew1) | exact HB.out)) hb); clear HO1; clear HK; clear HB; have HO1 := n0_; have HK := n1_; have HB := n2_; clear n0_ n1_ n2_; (try clear hb); (try clear hb2); (try clear hk); (try clear hi)))
  (try simp only [Act.put, List.setIfInBounds_toArray, List.set_cons_zero, List.set_cons_succ])
  go_cut [1, 2, 9] (fun v1 v2 v9 wc => ∃ (kq : Nat) (x1_5 : List Int) (x2_5 : Int) (x9_5 : Int), v2 = .int .i64 x2_5 ∧ v9 = .int .i64 x9_5 ∧ Aside0 (sibylref21_round.j0 kq a0 x1_5 x2_5 a3 x9_5 = some r) ∧ Aside0 (kq ≤ k) ∧ Aside0 (Kd.R (Kd.int .u32) 99 wc w0.heap.size (fun k_ => (P1_ k_ ∨ w.heap.size ≤ k_)) v1 x1_5) ∧ Aside0 (Kept w wc (fun k_ => P1_ k_)) ∧ Aside0 (Below w0.heap.size w0 wc))
  case first =>
    have H := HC6.out
    clear HC6
    by_cases c9 : (wrap64 (t400 - 63)) < 0
    · rw [if_pos c9] at H
      have c9b0 : decide ((wrap64 (t400 - 63)) < 0) = true := decide_eq_true c9
      clear c9
      (first | rw [c9b0] | (simp only [i64_w, i32_w]; rw [c9b0]) | skip)
      replace H := Option.bind_eq_some_iff.mp H
      obtain ⟨t401, A100, H⟩ := H
      replace H : (sibylref21_round.j0 k a0 t401 (wrap64 (a2 + (wrap64 (t400 - 63)))) a3 0) = some r := H
      have A10 := Aside0.mk A100
      clear A100
      have H' := Aside0.mk H
      clear H
      go_wp2_with (first | ((with_reducible refine gate_callee (f := 69) rfl ?_); refine goesL_ (some 21) rfl rfl Try.func69 (by kernel_rfl) rfl #[.slice Ao7 l1.length co7, .int .i64 (wrap64 (-(wrap64 (t400 - 63))))] rfl (by (try simp only [List.map_toArray, List.map_cons, List.map_nil]); first | done | rfl | (simp only [List.length_drop, List.length_take]; rfl)) ?_; (with_reducible refine (sibylref01_Shl.calls k _ _ l1 (wrap64 (-(wrap64 (t400 - 63)))) t401 _ ?side1 ?side2 A10.out).mono ?_); (case side1 => repeat (first | exact (Kd.R_reads' HO1.out).2.2 | (with_reducible refine Kd.C_alloc ?_ _) | (with_reducible refine Kd.C_drewN ?_ _) | (with_reducible refine Kd.C_drew ?_))); (case side2 => exact (Kd.R_reads' HO1.out).2.1); rintro e w11 ⟨v402, rfl, ho0, hb⟩; refine ⟨_, rfl, ?_⟩; have n0_ := Aside0.mk (Kd.R_elder' (by (with_reducible repeat (first | apply Kd.R_alloc | apply Kd.R_drewN | apply Kd.R_drew)); exact HO1.out) (Kd.R_base ho0) hb); have n1_ := Aside0.mk (Kd.R_lower (Kd.R_new' (Kd.R_newM (M := fun k_ => (P1_ k_ ∨ w.heap.size ≤ k_)) ho0 (by first | exact HK.out.1 | exact (show Kept w _ (fun k_ => P1_ k_) from by repeat (first | (with_reducible first | exact HK.out | apply Kept.alloc | apply Kept.drewN | apply Kept.drew) | exact HK.out)).1) (fun k_ h_ => .inr h_)) (Kd.R_lt (by (with_reducible repeat (first | apply Kd.R_alloc | apply Kd.R_drewN | apply Kd.R_drew)); exact HO1.out))) (below_size (by repeat (first | (with_reducible first | exact HB.out | apply below_alloc | apply pw_below_drewN | apply below_drew1) | exact HB.out)))); have n2_ := Aside0.mk (Kept.below (S := (fun k_ => P1_ k_)) (by repeat (first | (with_reducible first | exact HK.out | apply Kept.alloc | apply Kept.drewN | apply Kept.drew) | exact HK.out)) hb); have n3_ := Aside0.mk (below_step (by repeat (first | (with_reducible first | exact HB.out | apply below_alloc | apply pw_below_drewN | apply below_drew1) | exact HB.out)) hb); clear HO1; clear HK; clear HB; have HO1 := n0_; have HO403 := n1_; have HK := n2_; have HB := n3_; clear n0_ n1_ n2_ n3_; (try clear hb); (try clear hb2); (try clear hk); (try clear hi); (try clear ho0)))
      go_meet
      case rel => exact ⟨_, (t401), (wrap64 (a2 + (wrap64 (t400 - 63)))), (0), (by first | rfl | (simp; done) | (simp [*]; done)), (by first | rfl | (simp; done) | (simp [*]; done)), H', ⟨by first | omega | exact Nat.le_refl _⟩, ⟨by (with_reducible repeat (first | apply Kd.R_alloc | apply Kd.R_drewN | apply Kd.R_drew)); exact Kd.R_mono HO403.out (fun _ hk => hk.1.1)⟩, ⟨by repeat (first | (with_reducible first | exact HK.out | apply Kept.alloc | apply Kept.drewN | apply Kept.drew) | exact HK.out)⟩, ⟨by repeat (first | (with_reducible first | exact HB.out | apply below_alloc | apply pw_below_drewN | apply below_drew1) | exact HB.out)⟩⟩
    · rw [if_neg c9] at H
      have c9b0 : decide ((wrap64 (t400 - 63)) < 0) = false := decide_eq_false c9
      clear c9
      (first | rw [c9b0] | (simp only [i64_w, i32_w]; rw [c9b0]) | skip)
      have H' := Aside0.mk H
      clear H
      go_wp2
      go_meet
      case rel => exact ⟨_, (l1), (a2), (wrap64 (t400 - 63)), (by first | rfl | (simp; done) | (simp [*]; done)), (by first | rfl | (simp; done) | (simp [*]; done)), H', ⟨by first | omega | exact Nat.le_refl _⟩, ⟨by (with_reducible repeat (first | apply Kd.R_alloc | apply Kd.R_drewN | apply Kd.R_drew)); exact HO1.out⟩, ⟨by repeat (first | (with_reducible first | exact HK.out | apply Kept.alloc | apply Kept.drewN | apply Kept.drew) | exact HK.out)⟩, ⟨by repeat (first | (with_reducible first | exact HB.out | apply below_alloc | apply pw_below_drewN | apply below_drew1) | exact HB.out)⟩⟩
  case rest =>
    clear HC6
    try clear p2
    try clear c6
    try clear p6
    try clear c8
    try clear c9
    try clear c9b0
    obtain ⟨kq, x1_5, x2_5, x9_5, rfl, rfl, HA, HJ5, HO_1, HK, HB⟩ := hcut
    cases kq with
    | zero => exact absurd HA.out (by simp [sibylref21_round.j0])
    | succ kj5 =>
      have H := HA.out
      clear HA
      simp only [sibylref21_round.j0] at H
      replace H := Option.bind_eq_some_iff.mp H
      obtain ⟨t404, A120, H⟩ := H
      replace H : ((sibylref01_Shl.f kj5 t404 x9_5).bind fun t407 => ((sibylref01_Cmp.f kj5 t407 x1_5).bind fun t410 => (if t410 = 0 then (sibylref21_round.j1 kj5 a0 x2_5 a3 x9_5 t404) else (sibylref21_round.j1 kj5 a0 x2_5 true x9_5 t404)))) = some r := H
      have A12 := Aside0.mk A120
      clear A120
      replace H := Option.bind_eq_some_iff.mp H
      obtain ⟨t407, A130, H⟩ := H
      replace H : ((sibylref01_Cmp.f kj5 t407 x1_5).bind fun t410 => (if t410 = 0 then (sibylref21_round.j1 kj5 a0 x2_5 a3 x9_5 t404) else (sibylref21_round.j1 kj5 a0 x2_5 true x9_5 t404))) = some r := H
      have A13 := Aside0.mk A130
      clear A130
      replace H := Option.bind_eq_some_iff.mp H
      obtain ⟨t410, A140, H⟩ := H
      replace H : (if t410 = 0 then (sibylref21_round.j1 kj5 a0 x2_5 a3 x9_5 t404) else (sibylref21_round.j1 kj5 a0 x2_5 true x9_5 t404)) = some r := H
      have A14 := Aside0.mk A140
      clear A140
      have HC15 := Aside0.mk H
      clear H
      obtain ⟨Ao16, co16, eo16⟩ := Kd.R_slice HO_1.out
      subst eo16
      go_upto_if 33 with (first | ((with_reducible refine gate_callee (f := 87) rfl ?_); refine goesL_ (some 27) rfl rfl Try.func87 (by kernel_rfl) rfl #[.slice Ao16 x1_5.length co16, .int .i64 x9_5] rfl (by (try simp only [List.map_toArray, List.map_cons, List.map_nil]); first | done | rfl | (simp only [List.length_drop, List.length_take]; rfl)) ?_; (with_reducible refine (sibylref01_Shr.calls kj5 _ _ x1_5 x9_5 t404 _ ?side1 ?side2 A12.out).mono ?_); (case side1 => repeat (first | exact (Kd.R_reads' HO_1.out).2.2 | (with_reducible refine Kd.C_alloc ?_ _) | (with_reducible refine Kd.C_drewN ?_ _) | (with_reducible refine Kd.C_drew ?_))); (case side2 => exact (Kd.R_reads' HO_1.out).2.1); rintro e w17 ⟨v405, rfl, ho0, hb⟩; refine ⟨_, rfl, ?_⟩; have n0_ := Aside0.mk (Kd.R_elder' (by (with_reducible repeat (first | apply Kd.R_alloc | apply Kd.R_drewN | apply Kd.R_drew)); exact HO_1.out) (Kd.R_base ho0) hb); have n1_ := Aside0.mk (Kd.R_lower (Kd.R_new' (Kd.R_newM (M := fun k_ => (P1_ k_ ∨ w.heap.size ≤ k_)) ho0 (by first | exact HK.out.1 | exact (show Kept w _ (fun k_ => P1_ k_) from by repeat (first | (with_reducible first | exact HK.out | apply Kept.alloc | apply Kept.drewN | apply Kept.drew) | exact HK.out)).1) (fun k_ h_ => .inr h_)) (Kd.R_lt (by (with_reducible repeat (first | apply Kd.R_alloc | apply Kd.R_drewN | apply Kd.R_drew)); exact HO_1.out))) (below_size (by repeat (first | (with_reducible first | exact HB.out | apply below_alloc | apply pw_below_drewN | apply below_drew1) | exact HB.out)))); have n2_ := Aside0.mk (Kept.below (S := (fun k_ => P1_ k_)) (by repeat (first | (with_reducible first | exact HK.out | apply Kept.alloc | apply Kept.drewN | apply Kept.drew) | exact HK.out)) hb); have n3_ := Aside0.mk (below_step (by repeat (first | (with_reducible first | exact HB.out | apply below_alloc | apply pw_below_drewN | apply below_drew1) | exact HB.out)) hb); clear HO_1; clear HK; clear HB; have HO_1 := n0_; have HO406 := n1_; have HK := n2_; have HB := n3_; clear n0_ n1_ n2_ n3_; (try clear hb); (try clear hb2); (try clear hk); (try clear hi); (try clear ho0); obtain ⟨Ao18, co18, eo18⟩ := Kd.R_slice HO406.out; subst eo18) | ((with_reducible refine gate_callee (f := 69) rfl ?_); refine goesL_ (some 30) rfl rfl Try.func69 (by kernel_rfl) rfl #[.slice Ao18 t404.length co18, .int .i64 x9_5] rfl (by (try simp only [List.map_toArray, List.map_cons, List.map_nil]); first | done | rfl | (simp only [List.length_drop, List.length_take]; rfl)) ?_; (with_reducible refine (sibylref01_Shl.calls kj5 _ _ t404 x9_5 t407 _ ?side1 ?side2 A13.out).mono ?_); (case side1 => repeat (first | exact (Kd.R_reads' HO406.out).2.2 | (with_reducible refine Kd.C_alloc ?_ _) | (with_reducible refine Kd.C_drewN ?_ _) | (with_reducible refine Kd.C_drew ?_))); (case side2 => exact (Kd.R_reads' HO406.out).2.1); rintro e w19 ⟨v408, rfl, ho0, hb⟩; refine ⟨_, rfl, ?_⟩; have n0_ := Aside0.mk (Kd.R_elder' (by (with_reducible repeat (first | apply Kd.R_alloc | apply Kd.R_drewN | apply Kd.R_drew)); exact HO_1.out) (Kd.R_base ho0) hb); have n1_ := Aside0.mk (Kd.R_elder' (by (with_reducible repeat (first | apply Kd.R_alloc | apply Kd.R_drewN | apply Kd.R_drew)); exact HO406.out) (Kd.R_base ho0) hb); have n2_ := Aside0.mk (Kd.R_lower (Kd.R_new' (Kd.R_new' (Kd.R_newM (M := fun k_ => (P1_ k_ ∨ w.heap.size ≤ k_)) ho0 (by first | exact HK.out.1 | exact (show Kept w _ (fun k_ => P1_ k_) from by repeat (first | (with_reducible first | exact HK.out | apply Kept.alloc | apply Kept.drewN | apply Kept.drew) | exact HK.out)).1) (fun k_ h_ => .inr h_)) (Kd.R_lt (by (with_reducible repeat (first | apply Kd.R_alloc | apply Kd.R_drewN | apply Kd.R_drew)); exact HO_1.out))) (Kd.R_lt (by (with_reducible repeat (first | apply Kd.R_alloc | apply Kd.R_drewN | apply Kd.R_drew)); exact HO406.out))) (below_size (by repeat (first | (with_reducible first | exact HB.out | apply below_alloc | apply pw_below_drewN | apply below_drew1) | exact HB.out)))); have n3_ := Aside0.mk (Kept.below (S := (fun k_ => P1_ k_)) (by repeat (first | (with_reducible first | exact HK.out | apply Kept.alloc | apply Kept.drewN | apply Kept.drew) | exact HK.out)) hb); have n4_ := Aside0.mk (below_step (by repeat (first | (with_reducible first | exact HB.out | apply below_alloc | apply pw_below_drewN | apply below_drew1) | exact HB.out)) hb); clear HO_1; clear HO406; clear HK; clear HB; have HO_1 := n0_; have HO406 := n1_; have HO409 := n2_; have HK := n3_; have HB := n4_; clear n0_ n1_ n2_ n3_ n4_; (try clear hb); (try clear hb2); (try clear hk); (try clear hi); (try clear ho0); obtain ⟨Ao20, co20, eo20⟩ := Kd.R_slice HO409.out; subst eo20) | ((with_reducible refine gate_callee (f := 70) rfl ?_); refine goesL_ (some 32) rfl rfl Try.func70 (by kernel_rfl) rfl #[.slice Ao20 t407.length co20, .slice Ao16 x1_5.length co16] rfl (by (try simp only [List.map_toArray, List.map_cons, List.map_nil]); first | done | rfl | (simp only [List.length_drop, List.length_take]; rfl)) ?_; (with_reducible refine (sibylref01_Cmp.calls kj5 _ _ t407 _ _ x1_5 t410 _ ?side1 ?side2 ?side3 ?side4 A14.out).mono ?_); (case side1 => repeat (first | exact (Kd.R_reads' HO409.out).2.2 | (with_reducible refine Kd.C_alloc ?_ _) | (with_reducible refine Kd.C_drewN ?_ _) | (with_reducible refine Kd.C_drew ?_))); (case side2 => exact (Kd.R_reads' HO409.out).2.1); (case side3 => repeat (first | exact (Kd.R_reads' HO_1.out).2.2 | (with_reducible refine Kd.C_alloc ?_ _) | (with_reducible refine Kd.C_drewN ?_ _) | (with_reducible refine Kd.C_drew ?_))); (case side4 => exact (Kd.R_reads' HO_1.out).2.1); rintro e w21 ⟨rfl, hb⟩; refine ⟨_, rfl, ?_⟩; have n0_ := Aside0.mk (Kd.R_below (by (with_reducible repeat (first | apply Kd.R_alloc | apply Kd.R_drewN | apply Kd.R_drew)); exact HO_1.out) hb); have n1_ := Aside0.mk (Kd.R_below (by (with_reducible repeat (first | apply Kd.R_alloc | apply Kd.R_drewN | apply Kd.R_drew)); exact HO406.out) hb); have n2_ := Aside0.mk (Kd.R_below (by (with_reducible repeat (first | apply Kd.R_alloc | apply Kd.R_drewN | apply Kd.R_drew)); exact HO409.out) hb); have n3_ := Aside0.mk (Kept.below (S := (fun k_ => P1_ k_)) (by repeat (first | (with_reducible first | exact HK.out | apply Kept.alloc | apply Kept.drewN | apply Kept.drew) | exact HK.out)) hb); have n4_ := Aside0.mk (below_step (by repeat (first | (with_reducible first | exact HB.out | apply below_alloc | apply pw_below_drewN | apply below_drew1) | exact HB.out)) hb); clear HO_1; clear HO406; clear HO409; clear HK; clear HB; have HO_1 := n0_; have HO406 := n1_; have HO409 := n2_; have HK := n3_; have HB := n4_; clear n0_ n1_ n2_ n3_ n4_; (try clear hb); (try clear hb2); (try clear hk); (try clear hi)))
      (try simp only [Act.put, List.setIfInBounds_toArray, List.set_cons_zero, List.set_cons_succ])
      go_cut [3] (fun v3 wc => ∃ (kq : Nat) (x3_14 : Bool), v3 = .bool x3_14 ∧ Aside0 (sibylref21_round.j1 kq a0 x2_5 x3_14 x9_5 t404 = some r) ∧ Aside0 (kq ≤ kj5) ∧ Aside0 (Kd.R (Kd.int .u32) 99 wc w0.heap.size (fun k_ => (P1_ k_ ∨ w.heap.size ≤ k_)) (.slice Ao18 t404.length co18) t404) ∧ Aside0 (Kept w wc (fun k_ => P1_ k_)) ∧ Aside0 (Below w0.heap.size w0 wc))
      case first =>
        have H := HC15.out
        clear HC15
        by_cases c22 : t410 = 0
        · rw [if_pos c22] at H
          have c22b0 : (t410 == 0) = true := beq_iff_eq.mpr c22
          have c22b1 : (t410 != 0) = false := bne_eq_false_iff_eq.mpr c22
          clear c22
          (first | rw [c22b0] | (simp only [i64_w, i32_w]; rw [c22b0]) | skip)
          have H' := Aside0.mk H
          clear H
          go_wp2
          go_meet
          case rel => exact ⟨_, (a3), (by first | rfl | (simp; done) | (simp [*]; done)), H', ⟨by have := HJ5.out; first | omega | exact Nat.le_refl _⟩, ⟨by (with_reducible repeat (first | apply Kd.R_alloc | apply Kd.R_drewN | apply Kd.R_drew)); exact Kd.R_mono HO406.out (fun _ hk => hk.1.1.1)⟩, ⟨by repeat (first | (with_reducible first | exact HK.out | apply Kept.alloc | apply Kept.drewN | apply Kept.drew) | exact HK.out)⟩, ⟨by repeat (first | (with_reducible first | exact HB.out | apply below_alloc | apply pw_below_drewN | apply below_drew1) | exact HB.out)⟩⟩
        · rw [if_neg c22] at H
          have c22b0 : (t410 == 0) = false := beq_eq_false_iff_ne.mpr c22
          have c22b1 : (t410 != 0) = true := bne_iff_ne.mpr c22
          (first | rw [c22b0] | (simp only [i64_w, i32_w]; rw [c22b0]) | skip)
          have H' := Aside0.mk H
          clear H
          go_wp2
          go_meet
          case rel => exact ⟨_, (true), (by first | rfl | (simp; done) | (simp [*]; done)), H', ⟨by have := HJ5.out; first | omega | exact Nat.le_refl _⟩, ⟨by (with_reducible repeat (first | apply Kd.R_alloc | apply Kd.R_drewN | apply Kd.R_drew)); exact Kd.R_mono HO406.out (fun _ hk => hk.1.1.1)⟩, ⟨by repeat (first | (with_reducible first | exact HK.out | apply Kept.alloc | apply Kept.drewN | apply Kept.drew) | exact HK.out)⟩, ⟨by repeat (first | (with_reducible first | exact HB.out | apply below_alloc | apply pw_below_drewN | apply below_drew1) | exact HB.out)⟩⟩
      case rest =>
        clear HC15
        try clear c2
        try clear p2
        try clear c6
        try clear p6
        try clear c7
        try clear c8
        try clear c9
        try clear c9b0
        try clear c22
        try clear c22b0
        try clear c22b1
        try clear p2
        try clear p6
        obtain ⟨kq, x3_14, rfl, HA, HJ14, HO_10, HK, HB⟩ := hcut
        cases kq with
        | zero => exact absurd HA.out (by simp [sibylref21_round.j1])
        | succ kj14 =>
          have H := HA.out
          clear HA
          simp only [sibylref21_round.j1] at H
          have H' := Aside0.mk H
          clear H
          go_wp2
          go_loopg [11, 12] kj14 (fun kq v11 v12 w' => ∃ (x11_3 : Int) (x12_3 : Int), v11 = .int .u64 x11_3 ∧ v12 = .int .i64 x12_3 ∧ Aside0 (sibylref21_round.l0 kq a0 x2_5 x3_14 x9_5 t404 x11_3 x12_3 = some r) ∧ Aside0 (kq ≤ kj14) ∧ Aside0 (Kd.R (Kd.int .u32) 99 w' w0.heap.size (fun k_ => (P1_ k_ ∨ w.heap.size ≤ k_)) (.slice Ao18 t404.length co18) t404) ∧ Aside0 (Kept w w' (fun k_ => P1_ k_)) ∧ Aside0 (Below w0.heap.size w0 w'))
          case atStart => exact ⟨(0), (wrap64 ((t404.length : Int) - 1)), (by first | rfl | (simp; done) | (simp [*]; done)), (by first | rfl | (simp; done) | (simp [*]; done)), H', ⟨Nat.le_refl _⟩, ⟨by (with_reducible repeat (first | apply Kd.R_alloc | apply Kd.R_drewN | apply Kd.R_drew)); exact HO_10.out⟩, ⟨by repeat (first | (with_reducible first | exact HK.out | apply Kept.alloc | apply Kept.drewN | apply Kept.drew) | exact HK.out)⟩, ⟨by repeat (first | (with_reducible first | exact HB.out | apply below_alloc | apply pw_below_drewN | apply below_drew1) | exact HB.out)⟩⟩
          case round =>
            clear H'
            try clear c2
            try clear p2
            try clear c6
            try clear p6
            try clear c7
            try clear c8
            try clear c9
            try clear c9b0
            try clear c22
            try clear c22b0
            try clear c22b1
            try clear p2
            try clear p6
            obtain ⟨x11_3, x12_3, rfl, rfl, HA, HK3, HO_10, HK, HB⟩ := hrel
            cases gk with
            | zero => exact absurd HA.out (by simp [sibylref21_round.l0])
            | succ k3 =>
              have H := HA.out
              clear HA
              simp only [sibylref21_round.l0] at H
              by_cases c23 : x12_3 ≥ 0
              · rw [if_pos c23] at H
                have c23b0 : decide (0 ≤ x12_3) = true := decide_eq_true c23
                clear c23
                by_cases c24 : 0 ≤ x12_3
                · rw [if_pos c24] at H
                  have c24b0 : decide (0 ≤ x12_3) = true := decide_eq_true c24
                  clear c24
                  by_cases c25 : x12_3 < (t404.length : Int)
                  · rw [if_pos c25] at H
                    have c25b0 : decide (x12_3 < (t404.length : Int)) = true := decide_eq_true c25
                    clear c25
                    have H' := Aside0.mk H
                    clear H
                    have p411 : 0 ≤ (x12_3 : Int) := of_decide_eq_true (by first | (with_reducible assumption) | assumption)
                    have q411 : x12_3 < (t404.length : Int) := of_decide_eq_true (by first | (with_reducible assumption) | assumption)
                    obtain ⟨ad411, e411, hx411_0⟩ := Kd.at_int (Kd.R_reads' HO_10.out).2.2 x12_3 p411 q411
                    cases e411
                    replace p411 := eq_true p411
                    replace q411 := eq_true q411
                    go_wp2
                    go_roundg k3
                    case measure => have := HJ5.out; have := HJ14.out; have := HK3.out; omega
                    case rel => exact ⟨(IntKind.u64.wrap ((IntKind.u64.wrap (x11_3 * 4294967296)) + (IntKind.u64.wrap (rd t404 x12_3)))), (wrap64 (x12_3 - 1)), (by first | rfl | (simp; done) | (simp [*]; done)), (by first | rfl | (simp; done) | (simp [*]; done)), H', ⟨by have := HJ5.out; have := HJ14.out; have := HK3.out; omega⟩, ⟨by (with_reducible repeat (first | apply Kd.R_alloc | apply Kd.R_drewN | apply Kd.R_drew)); exact HO_10.out⟩, ⟨by repeat (first | (with_reducible first | exact HK.out | apply Kept.alloc | apply Kept.drewN | apply Kept.drew) | exact HK.out)⟩, ⟨by repeat (first | (with_reducible first | exact HB.out | apply below_alloc | apply pw_below_drewN | apply below_drew1) | exact HB.out)⟩⟩
                  · rw [if_neg c25] at H
                    exact absurd H (by simp)
                · rw [if_neg c24] at H
                  exact absurd H (by simp)
              · rw [if_neg c23] at H
                have c23b0 : decide (0 ≤ x12_3) = false := decide_eq_false c23
                clear c23
                by_cases c26 : x3_14 = true
                · subst c26
                  have H1 : ((sibylref03_Join.f k3 a0 (IntKind.u64.wrap ((IntKind.u64.wrap (2 * x11_3)) + 1)) (wrap64 ((wrap64 (x2_5 + x9_5)) - 1))).bind fun t412 => (some t412)) = some r := by rw [if_pos rfl] at H; exact H
                  clear H
                  have H := H1
                  clear H1
                  replace H := Option.bind_eq_some_iff.mp H
                  obtain ⟨t412, A270, H⟩ := H
                  replace H : (some t412) = some r := H
                  have A27 := Aside0.mk A270
                  clear A270
                  obtain rfl := Option.some.inj H
                  go_wp2_with (first | ((with_reducible refine gate_callee (f := 59) rfl ?_); refine goesL_ (some 60) rfl rfl Try.func59 (by kernel_rfl) rfl #[.bool a0, .int .u64 (IntKind.u64.wrap ((IntKind.u64.wrap (2 * x11_3)) + 1)), .int .i64 (wrap64 ((wrap64 (x2_5 + x9_5)) - 1))] rfl (by (try simp only [List.map_toArray, List.map_cons, List.map_nil]); first | done | rfl | (simp only [List.length_drop, List.length_take]; rfl)) ?_; (with_reducible refine (sibylref03_Join.calls k3 a0 (IntKind.u64.wrap ((IntKind.u64.wrap (2 * x11_3)) + 1)) (wrap64 ((wrap64 (x2_5 + x9_5)) - 1)) t412 _ A27.out).mono ?_); rintro e w' ⟨rfl, ⟨nd, rfl⟩⟩; refine ⟨_, rfl, ?_⟩))
                  go_ret
                  exact ⟨by first | rfl | (simp [errW_none, errW_some] <;> rfl) | (simp [*, errW_none, errW_some] <;> rfl), by repeat (first | (with_reducible first | exact HB.out | apply below_alloc | apply pw_below_drewN | apply below_drew1) | exact HB.out), by repeat (first | (with_reducible first | exact HK.out | apply Kept.alloc | apply Kept.drewN | apply Kept.drew) | exact HK.out)⟩
                · replace c26 := Bool.eq_false_iff.mpr c26
                  subst c26
                  have H1 : ((sibylref03_Join.f k3 a0 (IntKind.u64.wrap (2 * x11_3)) (wrap64 ((wrap64 (x2_5 + x9_5)) - 1))).bind fun t413 => (some t413)) = some r := by rw [if_neg (show ¬ (false = true) by decide)] at H; exact H
                  clear H
                  have H := H1
                  clear H1
                  replace H := Option.bind_eq_some_iff.mp H
                  obtain ⟨t413, A280, H⟩ := H
                  replace H : (some t413) = some r := H
                  have A28 := Aside0.mk A280
                  clear A280
                  obtain rfl := Option.some.inj H
                  go_wp2_with (first | ((with_reducible refine gate_callee (f := 59) rfl ?_); refine goesL_ (some 60) rfl rfl Try.func59 (by kernel_rfl) rfl #[.bool a0, .int .u64 (IntKind.u64.wrap (2 * x11_3)), .int .i64 (wrap64 ((wrap64 (x2_5 + x9_5)) - 1))] rfl (by (try simp only [List.map_toArray, List.map_cons, List.map_nil]); first | done | rfl | (simp only [List.length_drop, List.length_take]; rfl)) ?_; (with_reducible refine (sibylref03_Join.calls k3 a0 (IntKind.u64.wrap (2 * x11_3)) (wrap64 ((wrap64 (x2_5 + x9_5)) - 1)) t413 _ A28.out).mono ?_); rintro e w' ⟨rfl, ⟨nd, rfl⟩⟩; refine ⟨_, rfl, ?_⟩))
                  go_ret
                  exact ⟨by first | rfl | (simp [errW_none, errW_some] <;> rfl) | (simp [*, errW_none, errW_some] <;> rfl), by repeat (first | (with_reducible first | exact HB.out | apply below_alloc | apply pw_below_drewN | apply below_drew1) | exact HB.out), by repeat (first | (with_reducible first | exact HK.out | apply Kept.alloc | apply Kept.drewN | apply Kept.drew) | exact HK.out)⟩

/-! ### sibylref21_natural: function 63 -/
def sibylref21_natural.f (a0 : Int) : Option (List Int) := some (([(Int.tmod a0 4294967296) % 4294967296, (IntKind.u64.wrap (Int.tdiv a0 4294967296)) % 4294967296] : List Int))
set_option maxHeartbeats 8000000 in
set_option maxRecDepth 100000 in
theorem sibylref21_natural.calls (a0 : Int) (r : List Int) (w : World) (h : sibylref21_natural.f a0 = some r) :
    Calls Try.prog 63 #[.int .u64 a0] w fun e w' => ∃ v0_ : Value, e = .returned (v0_) ∧ Kd.R (Kd.int .u32) 99 w' w.heap.size (fun _ => True) v0_ r ∧ Below w.heap.size w w' := by
  have HB := Aside0.mk (Below.refl w.heap.size w)
  have H : (some (([(Int.tmod a0 4294967296) % 4294967296, (IntKind.u64.wrap (Int.tdiv a0 4294967296)) % 4294967296] : List Int))) = some r := h
  clear h
  obtain ⟨y414, hy414⟩ : ∃ y_ : List Int, y_ = (([(Int.tmod a0 4294967296) % 4294967296, (IntKind.u64.wrap (Int.tdiv a0 4294967296)) % 4294967296] : List Int)) := ⟨_, rfl⟩
  replace H : (some y414) = some r := by first | (rw [hy414]; with_reducible exact H) | (have H2_ := (Option.bind_some _ _).symm.trans H; rw [hy414]; with_reducible exact H2_) | (have H2_ := (Option.bind_some _ _).symm.trans H; with_reducible exact H2_) | with_reducible exact H | (rw [hy414]; exact H) | exact H
  have Ny414 := Aside0.mk hy414
  clear hy414
  obtain rfl := Option.some.inj H
  go_enter Try.func63, Try.ntmps63
  go_wp2_with (first | ((with_reducible refine gate_dst (N := 9) rfl ?_); refine Kd.R_lit (Kd.int .u32) _ 99 ?hg (N := 9) ?hd (xs := ([(Int.tmod a0 4294967296) % 4294967296, (IntKind.u64.wrap (Int.tdiv a0 4294967296)) % 4294967296] : List Int)) (inner := [.int .u32 ((Int.tmod a0 4294967296) % 4294967296), .int .u32 ((IntKind.u64.wrap (Int.tdiv a0 4294967296)) % 4294967296)]) (ok := fun _ => True) (okp := fun _ => True) ?hr ?hp (fun _ hk => hk) trivial (Below.refl _ _) (Nat.le_refl _) (by simp) ?_; (case hd => rfl); (case hg => rfl); (case hr => first | (go_simp; done) | (go_simp; rfl)); (case hp => exact (Reps.one (show Kd.M (Kd.int .u32) _ _ _ ((Int.tmod a0 4294967296) % 4294967296) [.int .u32 ((Int.tmod a0 4294967296) % 4294967296)] from rfl) (Reps.one (show Kd.M (Kd.int .u32) _ _ _ ((IntKind.u64.wrap (Int.tdiv a0 4294967296)) % 4294967296) [.int .u32 ((IntKind.u64.wrap (Int.tdiv a0 4294967296)) % 4294967296)] from rfl) (Reps.none _ _)))); intro v415 w2 ho3 hb hg_ hnew_; clear hg_ hnew_; (first | rw [← Ny414.out] at ho3 | (simp only [Int.reduceToNat] at ho3; rw [← Ny414.out] at ho3)); have n0_ := Aside0.mk (Kd.R_lower ho3 (below_size (by repeat (first | (with_reducible first | exact HB.out | apply below_alloc | apply pw_below_drewN | apply below_drew1) | exact HB.out)))); have n1_ := Aside0.mk (below_step (by repeat (first | (with_reducible first | exact HB.out | apply below_alloc | apply pw_below_drewN | apply below_drew1) | exact HB.out)) hb); clear HB; have HO416 := n0_; have HB := n1_; clear n0_ n1_; clear hb ho3))
  go_ret
  exact ⟨_, by first | rfl | (simp [errW_none, errW_some] <;> rfl) | (simp [*, errW_none, errW_some] <;> rfl), by (with_reducible repeat (first | apply Kd.R_alloc | apply Kd.R_drewN | apply Kd.R_drew)); exact HO416.out, by repeat (first | (with_reducible first | exact HB.out | apply below_alloc | apply pw_below_drewN | apply below_drew1) | exact HB.out)⟩

/-! ### sibylref21_Add: function 37 -/
mutual
def sibylref21_Add.j0 : Nat → Int → Int → Bool → Option (Int)
  | 0, _, _, _ => none
  | k + 1, x0, x1, x25 => if x25 = true then (some 9221120237041090561) else ((sibylref03_Size.f x0).bind fun t419 => ((sibylref03_Size.f x1).bind fun t420 => (if t419 = 9218868437227405312 then (if t420 = 9218868437227405312 then (sibylref21_Add.j1 k x0 x1 (t419 == 9218868437227405312) (t420 == 9218868437227405312) (x0 != x1)) else (sibylref21_Add.j1 k x0 x1 (t419 == 9218868437227405312) (t420 == 9218868437227405312) false)) else (sibylref21_Add.j1 k x0 x1 (t419 == 9218868437227405312) (t420 == 9218868437227405312) false))))
def sibylref21_Add.j1 : Nat → Int → Int → Bool → Bool → Bool → Option (Int)
  | 0, _, _, _, _, _ => none
  | k + 1, x0, x1, x5, x6, x40 => if x40 = true then (some 9221120237041090561) else (if x5 = true then (some x0) else (if x6 = true then (some x1) else ((sibylref03_Parts.f k x0).bind fun bt421 => ((sibylref03_Parts.f k x1).bind fun bt425 => (if bt425.2.2.1 < bt421.2.2.1 then (sibylref21_Add.j2 k x0 bt421.1 bt421.2.1 bt421.2.2.1 bt425.1 bt425.2.1 bt425.2.2.1 bt425.2.2.1) else (sibylref21_Add.j2 k x0 bt421.1 bt421.2.1 bt421.2.2.1 bt425.1 bt425.2.1 bt425.2.2.1 bt421.2.2.1))))))
def sibylref21_Add.j2 : Nat → Int → Bool → Int → Int → Bool → Int → Int → Int → Option (Int)
  | 0, _, _, _, _, _, _, _, _ => none
  | k + 1, x0, x7, x8, x9, x11, x12, x13, x15 => (sibylref21_natural.f x8).bind fun t429 => ((sibylref01_Shl.f k t429 (wrap64 (x9 - x15))).bind fun t432 => ((sibylref21_natural.f x12).bind fun t435 => ((sibylref01_Shl.f k t435 (wrap64 (x13 - x15))).bind fun t438 => (if (x7 != x11) = true then ((sibylref01_Cmp.f k t432 t438).bind fun t441 => (if t441 = 0 then (some 0) else (if t441 > 0 then ((sibylref01_Minus.f k t432 t438).bind fun t442 => ((sibylref21_round.f k x7 t442 x15 false).bind fun t445 => (some t445))) else ((sibylref01_Minus.f k t438 t432).bind fun t446 => ((sibylref21_round.f k x11 t446 x15 false).bind fun t449 => (some t449)))))) else ((sibylref01_Plus.f k t432 t438).bind fun t450 => (if (t450.length : Int) = 0 then (some x0) else ((sibylref21_round.f k x7 t450 x15 false).bind fun t453 => (some t453))))))))
end
def sibylref21_Add.f (k : Nat) (a0 : Int) (a1 : Int) : Option (Int) := (sibylref03_IsNaN.f a0).bind fun t417 => (if t417 = true then (sibylref21_Add.j0 k a0 a1 true) else ((sibylref03_IsNaN.f a1).bind fun t418 => (sibylref21_Add.j0 k a0 a1 t418)))
theorem sibylref21_Add.mono_l : ∀ k, (∀ y0 y1 y2, LeO (sibylref21_Add.j0 k y0 y1 y2) (sibylref21_Add.j0 (k + 1) y0 y1 y2)) ∧ (∀ y0 y1 y2 y3 y4, LeO (sibylref21_Add.j1 k y0 y1 y2 y3 y4) (sibylref21_Add.j1 (k + 1) y0 y1 y2 y3 y4)) ∧ (∀ y0 y1 y2 y3 y4 y5 y6 y7, LeO (sibylref21_Add.j2 k y0 y1 y2 y3 y4 y5 y6 y7) (sibylref21_Add.j2 (k + 1) y0 y1 y2 y3 y4 y5 y6 y7))
  | 0 => ⟨fun _ _ _ r h => by simp [sibylref21_Add.j0] at h, fun _ _ _ _ _ r h => by simp [sibylref21_Add.j1] at h, fun _ _ _ _ _ _ _ _ r h => by simp [sibylref21_Add.j2] at h⟩
  | k + 1 => by
    obtain ⟨ih0, ih1, ih2⟩ := sibylref21_Add.mono_l k
    refine ⟨?_, ?_, ?_⟩
    · intro y0 y1 y2
      unfold sibylref21_Add.j0
      repeat' first
      | (with_reducible exact ih0 _ _ _)
      | (with_reducible exact ih1 _ _ _ _ _)
      | (with_reducible exact ih2 _ _ _ _ _ _ _ _)
      | (with_reducible exact sibylref01_Cmp.mono _ _ _)
      | (with_reducible exact sibylref01_Minus.mono _ _ _)
      | (with_reducible exact sibylref01_Plus.mono _ _ _)
      | (with_reducible exact sibylref01_Shl.mono _ _ _)
      | (with_reducible exact sibylref03_Parts.mono _ _)
      | (with_reducible exact sibylref21_round.mono _ _ _ _ _)
      | (with_reducible exact LeO.refl _)
      | (with_reducible exact LeO.none _)
      | (with_reducible refine LeO.ite ?_ ?_)
      | (with_reducible refine LeO.bind ?_ (fun _ => ?_))
      | exact ih0 _ _ _
      | exact ih1 _ _ _ _ _
      | exact ih2 _ _ _ _ _ _ _ _
      | exact sibylref01_Cmp.mono _ _ _
      | exact sibylref01_Minus.mono _ _ _
      | exact sibylref01_Plus.mono _ _ _
      | exact sibylref01_Shl.mono _ _ _
      | exact sibylref03_Parts.mono _ _
      | exact sibylref21_round.mono _ _ _ _ _
      | exact LeO.none _
      | refine LeO.ite ?_ ?_
      | refine LeO.bind ?_ (fun _ => ?_)
    · intro y0 y1 y2 y3 y4
      unfold sibylref21_Add.j1
      repeat' first
      | (with_reducible exact ih0 _ _ _)
      | (with_reducible exact ih1 _ _ _ _ _)
      | (with_reducible exact ih2 _ _ _ _ _ _ _ _)
      | (with_reducible exact sibylref01_Cmp.mono _ _ _)
      | (with_reducible exact sibylref01_Minus.mono _ _ _)
      | (with_reducible exact sibylref01_Plus.mono _ _ _)
      | (with_reducible exact sibylref01_Shl.mono _ _ _)
      | (with_reducible exact sibylref03_Parts.mono _ _)
      | (with_reducible exact sibylref21_round.mono _ _ _ _ _)
      | (with_reducible exact LeO.refl _)
      | (with_reducible exact LeO.none _)
      | (with_reducible refine LeO.ite ?_ ?_)
      | (with_reducible refine LeO.bind ?_ (fun _ => ?_))
      | exact ih0 _ _ _
      | exact ih1 _ _ _ _ _
      | exact ih2 _ _ _ _ _ _ _ _
      | exact sibylref01_Cmp.mono _ _ _
      | exact sibylref01_Minus.mono _ _ _
      | exact sibylref01_Plus.mono _ _ _
      | exact sibylref01_Shl.mono _ _ _
      | exact sibylref03_Parts.mono _ _
      | exact sibylref21_round.mono _ _ _ _ _
      | exact LeO.none _
      | refine LeO.ite ?_ ?_
      | refine LeO.bind ?_ (fun _ => ?_)
    · intro y0 y1 y2 y3 y4 y5 y6 y7
      unfold sibylref21_Add.j2
      repeat' first
      | (with_reducible exact ih0 _ _ _)
      | (with_reducible exact ih1 _ _ _ _ _)
      | (with_reducible exact ih2 _ _ _ _ _ _ _ _)
      | (with_reducible exact sibylref01_Cmp.mono _ _ _)
      | (with_reducible exact sibylref01_Minus.mono _ _ _)
      | (with_reducible exact sibylref01_Plus.mono _ _ _)
      | (with_reducible exact sibylref01_Shl.mono _ _ _)
      | (with_reducible exact sibylref03_Parts.mono _ _)
      | (with_reducible exact sibylref21_round.mono _ _ _ _ _)
      | (with_reducible exact LeO.refl _)
      | (with_reducible exact LeO.none _)
      | (with_reducible refine LeO.ite ?_ ?_)
      | (with_reducible refine LeO.bind ?_ (fun _ => ?_))
      | exact ih0 _ _ _
      | exact ih1 _ _ _ _ _
      | exact ih2 _ _ _ _ _ _ _ _
      | exact sibylref01_Cmp.mono _ _ _
      | exact sibylref01_Minus.mono _ _ _
      | exact sibylref01_Plus.mono _ _ _
      | exact sibylref01_Shl.mono _ _ _
      | exact sibylref03_Parts.mono _ _
      | exact sibylref21_round.mono _ _ _ _ _
      | exact LeO.none _
      | refine LeO.ite ?_ ?_
      | refine LeO.bind ?_ (fun _ => ?_)
theorem sibylref21_Add.mono : ∀ a0 a1 k, LeO (sibylref21_Add.f k a0 a1) (sibylref21_Add.f (k + 1) a0 a1) := by
  intro a0 a1 k
  obtain ⟨ih0, ih1, ih2⟩ := sibylref21_Add.mono_l k
  unfold sibylref21_Add.f
  repeat' first
      | (with_reducible exact ih0 _ _ _)
      | (with_reducible exact ih1 _ _ _ _ _)
      | (with_reducible exact ih2 _ _ _ _ _ _ _ _)
      | (with_reducible exact sibylref01_Cmp.mono _ _ _)
      | (with_reducible exact sibylref01_Minus.mono _ _ _)
      | (with_reducible exact sibylref01_Plus.mono _ _ _)
      | (with_reducible exact sibylref01_Shl.mono _ _ _)
      | (with_reducible exact sibylref03_Parts.mono _ _)
      | (with_reducible exact sibylref21_round.mono _ _ _ _ _)
      | (with_reducible exact LeO.refl _)
      | (with_reducible exact LeO.none _)
      | (with_reducible refine LeO.ite ?_ ?_)
      | (with_reducible refine LeO.bind ?_ (fun _ => ?_))
      | exact ih0 _ _ _
      | exact ih1 _ _ _ _ _
      | exact ih2 _ _ _ _ _ _ _ _
      | exact sibylref01_Cmp.mono _ _ _
      | exact sibylref01_Minus.mono _ _ _
      | exact sibylref01_Plus.mono _ _ _
      | exact sibylref01_Shl.mono _ _ _
      | exact sibylref03_Parts.mono _ _
      | exact sibylref21_round.mono _ _ _ _ _
      | exact LeO.none _
      | refine LeO.ite ?_ ?_
      | refine LeO.bind ?_ (fun _ => ?_)
set_option maxHeartbeats 8000000 in
set_option maxRecDepth 100000 in
theorem sibylref21_Add.calls (k : Nat) (a0 : Int) (a1 : Int) (r : Int) (w : World) (h : sibylref21_Add.f k a0 a1 = some r) :
    Calls Try.prog 37 #[.int .u64 a0, .int .u64 a1] w fun e w' => e = .returned (.int .u64 r) ∧ Below w.heap.size w w' := by
  have HB := Aside0.mk (Below.refl w.heap.size w)
  have H : ((sibylref03_IsNaN.f a0).bind fun t417 => (if t417 = true then (sibylref21_Add.j0 k a0 a1 true) else ((sibylref03_IsNaN.f a1).bind fun t418 => (sibylref21_Add.j0 k a0 a1 t418)))) = some r := h
  clear h
  have HC3 := Aside0.mk H
  clear H
  go_enter Try.func37, Try.ntmps37
  go_upto_region 1 with (fail)
  go_cut [25] (fun v25 wc => ∃ (kq : Nat) (x25_2 : Bool), v25 = .bool x25_2 ∧ Aside0 (sibylref21_Add.j0 kq a0 a1 x25_2 = some r) ∧ Aside0 (kq ≤ k) ∧ Aside0 (Below w.heap.size w wc))
  case first =>
    have H := HC3.out
    clear HC3
    replace H := Option.bind_eq_some_iff.mp H
    obtain ⟨t417, A40, H⟩ := H
    replace H : (if t417 = true then (sibylref21_Add.j0 k a0 a1 true) else ((sibylref03_IsNaN.f a1).bind fun t418 => (sibylref21_Add.j0 k a0 a1 t418))) = some r := H
    have A4 := Aside0.mk A40
    clear A40
    by_cases c5 : t417 = true
    · subst c5
      have H1 : (sibylref21_Add.j0 k a0 a1 true) = some r := by rw [if_pos rfl] at H; exact H
      clear H
      have H := H1
      clear H1
      have H' := Aside0.mk H
      clear H
      go_wp2_with (first | ((with_reducible refine gate_callee (f := 22) rfl ?_); refine goesL_ (some 21) rfl rfl Try.func22 (by kernel_rfl) rfl #[.int .u64 a0] rfl (by (try simp only [List.map_toArray, List.map_cons, List.map_nil]); first | done | rfl | (simp only [List.length_drop, List.length_take]; rfl)) ?_; (with_reducible refine (sibylref03_IsNaN.calls a0 true _ A4.out).mono ?_); rintro e w' ⟨rfl, ⟨nd, rfl⟩⟩; refine ⟨_, rfl, ?_⟩))
      go_meet
      case rel => exact ⟨_, (true), (by first | rfl | (simp; done) | (simp [*]; done)), H', ⟨by first | omega | exact Nat.le_refl _⟩, ⟨by repeat (first | (with_reducible first | exact HB.out | apply below_alloc | apply pw_below_drewN | apply below_drew1) | exact HB.out)⟩⟩
    · replace c5 := Bool.eq_false_iff.mpr c5
      subst c5
      have H1 : ((sibylref03_IsNaN.f a1).bind fun t418 => (sibylref21_Add.j0 k a0 a1 t418)) = some r := by rw [if_neg (show ¬ (false = true) by decide)] at H; exact H
      clear H
      have H := H1
      clear H1
      replace H := Option.bind_eq_some_iff.mp H
      obtain ⟨t418, A60, H⟩ := H
      replace H : (sibylref21_Add.j0 k a0 a1 t418) = some r := H
      have A6 := Aside0.mk A60
      clear A60
      have H' := Aside0.mk H
      clear H
      go_wp2_with (first | ((with_reducible refine gate_callee (f := 22) rfl ?_); refine goesL_ (some 21) rfl rfl Try.func22 (by kernel_rfl) rfl #[.int .u64 a0] rfl (by (try simp only [List.map_toArray, List.map_cons, List.map_nil]); first | done | rfl | (simp only [List.length_drop, List.length_take]; rfl)) ?_; (with_reducible refine (sibylref03_IsNaN.calls a0 false _ A4.out).mono ?_); rintro e w' ⟨rfl, ⟨nd, rfl⟩⟩; refine ⟨_, rfl, ?_⟩) | (go_at_call 22; (with_reducible refine (sibylref03_IsNaN.calls a1 t418 _ A6.out).mono ?_); rintro e w' ⟨rfl, ⟨nd, rfl⟩⟩))
      go_meet
      case rel => exact ⟨_, (t418), (by first | rfl | (simp; done) | (simp [*]; done)), H', ⟨by first | omega | exact Nat.le_refl _⟩, ⟨by repeat (first | (with_reducible first | exact HB.out | apply below_alloc | apply pw_below_drewN | apply below_drew1) | exact HB.out)⟩⟩
  case rest =>
    clear HC3
    try clear c2
    try clear p2
    try clear c3
    try clear c5
    obtain ⟨kq, x25_2, rfl, HA, HJ2, HB⟩ := hcut
    cases kq with
    | zero => exact absurd HA.out (by simp [sibylref21_Add.j0])
    | succ kj2 =>
      have H := HA.out
      clear HA
      simp only [sibylref21_Add.j0] at H
      by_cases c7 : x25_2 = true
      · subst c7
        have H1 : (some 9221120237041090561) = some r := by rw [if_pos rfl] at H; exact H
        clear H
        have H := H1
        clear H1
        obtain rfl := Option.some.inj H
        go_wp2
        go_ret
        exact ⟨by first | rfl | (simp [errW_none, errW_some] <;> rfl) | (simp [*, errW_none, errW_some] <;> rfl), by repeat (first | (with_reducible first | exact HB.out | apply below_alloc | apply pw_below_drewN | apply below_drew1) | exact HB.out)⟩
      · replace c7 := Bool.eq_false_iff.mpr c7
        subst c7
        have H1 : ((sibylref03_Size.f a0).bind fun t419 => ((sibylref03_Size.f a1).bind fun t420 => (if t419 = 9218868437227405312 then (if t420 = 9218868437227405312 then (sibylref21_Add.j1 kj2 a0 a1 (t419 == 9218868437227405312) (t420 == 9218868437227405312) (a0 != a1)) else (sibylref21_Add.j1 kj2 a0 a1 (t419 == 9218868437227405312) (t420 == 9218868437227405312) false)) else (sibylref21_Add.j1 kj2 a0 a1 (t419 == 9218868437227405312) (t420 == 9218868437227405312) false)))) = some r := by rw [if_neg (show ¬ (false = true) by decide)] at H; exact H
        clear H
        have H := H1
        clear H1
        replace H := Option.bind_eq_some_iff.mp H
        obtain ⟨t419, A80, H⟩ := H
        replace H : ((sibylref03_Size.f a1).bind fun t420 => (if t419 = 9218868437227405312 then (if t420 = 9218868437227405312 then (sibylref21_Add.j1 kj2 a0 a1 (t419 == 9218868437227405312) (t420 == 9218868437227405312) (a0 != a1)) else (sibylref21_Add.j1 kj2 a0 a1 (t419 == 9218868437227405312) (t420 == 9218868437227405312) false)) else (sibylref21_Add.j1 kj2 a0 a1 (t419 == 9218868437227405312) (t420 == 9218868437227405312) false))) = some r := H
        have A8 := Aside0.mk A80
        clear A80
        replace H := Option.bind_eq_some_iff.mp H
        obtain ⟨t420, A90, H⟩ := H
        replace H : (if t419 = 9218868437227405312 then (if t420 = 9218868437227405312 then (sibylref21_Add.j1 kj2 a0 a1 (t419 == 9218868437227405312) (t420 == 9218868437227405312) (a0 != a1)) else (sibylref21_Add.j1 kj2 a0 a1 (t419 == 9218868437227405312) (t420 == 9218868437227405312) false)) else (sibylref21_Add.j1 kj2 a0 a1 (t419 == 9218868437227405312) (t420 == 9218868437227405312) false)) = some r := H
        have A9 := Aside0.mk A90
        clear A90
        have HC10 := Aside0.mk H
        clear H
        go_upto_region 4 with (first | ((with_reducible refine gate_callee (f := 49) rfl ?_); refine goesL_ (some 27) rfl rfl Try.func49 (by kernel_rfl) rfl #[.int .u64 a0] rfl (by (try simp only [List.map_toArray, List.map_cons, List.map_nil]); first | done | rfl | (simp only [List.length_drop, List.length_take]; rfl)) ?_; (with_reducible refine (sibylref03_Size.calls a0 t419 _ A8.out).mono ?_); rintro e w' ⟨rfl, ⟨nd, rfl⟩⟩; refine ⟨_, rfl, ?_⟩) | ((with_reducible refine gate_callee (f := 49) rfl ?_); refine goesL_ (some 30) rfl rfl Try.func49 (by kernel_rfl) rfl #[.int .u64 a1] rfl (by (try simp only [List.map_toArray, List.map_cons, List.map_nil]); first | done | rfl | (simp only [List.length_drop, List.length_take]; rfl)) ?_; (with_reducible refine (sibylref03_Size.calls a1 t420 _ A9.out).mono ?_); rintro e w' ⟨rfl, ⟨nd, rfl⟩⟩; refine ⟨_, rfl, ?_⟩))
        (try simp only [Act.put, List.setIfInBounds_toArray, List.set_cons_zero, List.set_cons_succ])
        go_cut [5, 6, 40] (fun v5 v6 v40 wc => ∃ (kq : Nat) (x40_9 : Bool), v5 = .bool (t419 == 9218868437227405312) ∧ v6 = .bool (t420 == 9218868437227405312) ∧ v40 = .bool x40_9 ∧ Aside0 (sibylref21_Add.j1 kq a0 a1 (t419 == 9218868437227405312) (t420 == 9218868437227405312) x40_9 = some r) ∧ Aside0 (kq ≤ kj2) ∧ Aside0 (Below w.heap.size w wc))
        case first =>
          have H := HC10.out
          clear HC10
          by_cases c11 : t419 = 9218868437227405312
          · rw [if_pos c11] at H
            have c11b0 : (t419 == 9218868437227405312) = true := beq_iff_eq.mpr c11
            have c11b1 : (t419 != 9218868437227405312) = false := bne_eq_false_iff_eq.mpr c11
            clear c11
            (first | rw [c11b0] | (simp only [i64_w, i32_w]; rw [c11b0]) | skip)
            by_cases c12 : t420 = 9218868437227405312
            · rw [if_pos c12] at H
              have c12b0 : (t420 == 9218868437227405312) = true := beq_iff_eq.mpr c12
              have c12b1 : (t420 != 9218868437227405312) = false := bne_eq_false_iff_eq.mpr c12
              clear c12
              have H' := Aside0.mk H
              clear H
              go_wp2
              go_meet
              case rel => exact ⟨_, ((a0 != a1)), (by first | rfl | (simp; done) | (simp [*]; done)), (by first | rfl | (simp; done) | (simp [*]; done)), (by first | rfl | (simp; done) | (simp [*]; done)), H', ⟨by have := HJ2.out; first | omega | exact Nat.le_refl _⟩, ⟨by repeat (first | (with_reducible first | exact HB.out | apply below_alloc | apply pw_below_drewN | apply below_drew1) | exact HB.out)⟩⟩
            · rw [if_neg c12] at H
              have c12b0 : (t420 == 9218868437227405312) = false := beq_eq_false_iff_ne.mpr c12
              have c12b1 : (t420 != 9218868437227405312) = true := bne_iff_ne.mpr c12
              have H' := Aside0.mk H
              clear H
              go_wp2
              go_meet
              case rel => exact ⟨_, (false), (by first | rfl | (simp; done) | (simp [*]; done)), (by first | rfl | (simp; done) | (simp [*]; done)), (by first | rfl | (simp; done) | (simp [*]; done)), H', ⟨by have := HJ2.out; first | omega | exact Nat.le_refl _⟩, ⟨by repeat (first | (with_reducible first | exact HB.out | apply below_alloc | apply pw_below_drewN | apply below_drew1) | exact HB.out)⟩⟩
          · rw [if_neg c11] at H
            have c11b0 : (t419 == 9218868437227405312) = false := beq_eq_false_iff_ne.mpr c11
            have c11b1 : (t419 != 9218868437227405312) = true := bne_iff_ne.mpr c11
            (first | rw [c11b0] | (simp only [i64_w, i32_w]; rw [c11b0]) | skip)
            have H' := Aside0.mk H
            clear H
            go_wp2
            go_meet
            case rel => exact ⟨_, (false), (by first | rfl | (simp; done) | (simp [*]; done)), (by first | rfl | (simp; done) | (simp [*]; done)), (by first | rfl | (simp; done) | (simp [*]; done)), H', ⟨by have := HJ2.out; first | omega | exact Nat.le_refl _⟩, ⟨by repeat (first | (with_reducible first | exact HB.out | apply below_alloc | apply pw_below_drewN | apply below_drew1) | exact HB.out)⟩⟩
        case rest =>
          clear HC10
          try clear c1
          try clear c2
          try clear p2
          try clear c3
          try clear c4
          try clear c5
          try clear c7
          try clear c11
          try clear c11b0
          try clear c11b1
          try clear c12
          try clear c12b0
          try clear c12b1
          try clear p2
          obtain ⟨kq, x40_9, rfl, rfl, rfl, HA, HJ9, HB⟩ := hcut
          cases kq with
          | zero => exact absurd HA.out (by simp [sibylref21_Add.j1])
          | succ kj9 =>
            have H := HA.out
            clear HA
            simp only [sibylref21_Add.j1] at H
            by_cases c13 : x40_9 = true
            · subst c13
              have H1 : (some 9221120237041090561) = some r := by rw [if_pos rfl] at H; exact H
              clear H
              have H := H1
              clear H1
              obtain rfl := Option.some.inj H
              go_wp2
              go_ret
              exact ⟨by first | rfl | (simp [errW_none, errW_some] <;> rfl) | (simp [*, errW_none, errW_some] <;> rfl), by repeat (first | (with_reducible first | exact HB.out | apply below_alloc | apply pw_below_drewN | apply below_drew1) | exact HB.out)⟩
            · replace c13 := Bool.eq_false_iff.mpr c13
              subst c13
              have H1 : (if (t419 == 9218868437227405312) = true then (some a0) else (if (t420 == 9218868437227405312) = true then (some a1) else ((sibylref03_Parts.f kj9 a0).bind fun bt421 => ((sibylref03_Parts.f kj9 a1).bind fun bt425 => (if bt425.2.2.1 < bt421.2.2.1 then (sibylref21_Add.j2 kj9 a0 bt421.1 bt421.2.1 bt421.2.2.1 bt425.1 bt425.2.1 bt425.2.2.1 bt425.2.2.1) else (sibylref21_Add.j2 kj9 a0 bt421.1 bt421.2.1 bt421.2.2.1 bt425.1 bt425.2.1 bt425.2.2.1 bt421.2.2.1)))))) = some r := by rw [if_neg (show ¬ (false = true) by decide)] at H; exact H
              clear H
              have H := H1
              clear H1
              by_cases c14 : (t419 == 9218868437227405312) = true
              · rw [if_pos c14] at H
                have c14b0 : (t419 == 9218868437227405312) = true := c14
                (try (have c14b1 : decide (t419 = 9218868437227405312) = true := by simpa using c14))
                (try (have c14b2 : (t419 == 9218868437227405312) = true := by simpa using c14))
                clear c14
                obtain rfl := Option.some.inj H
                go_wp2
                go_ret
                exact ⟨by first | rfl | (simp [errW_none, errW_some] <;> rfl) | (simp [*, errW_none, errW_some] <;> rfl), by repeat (first | (with_reducible first | exact HB.out | apply below_alloc | apply pw_below_drewN | apply below_drew1) | exact HB.out)⟩
              · rw [if_neg c14] at H
                have c14b0 : (t419 == 9218868437227405312) = false := by simpa using c14
                (try (have c14b1 : decide (t419 = 9218868437227405312) = false := by simpa using c14))
                (try (have c14b2 : (t419 == 9218868437227405312) = false := by simpa using c14))
                (try (have c14b3 : ¬ (t419 = 9218868437227405312) := by simpa using c14))
                clear c14
                by_cases c15 : (t420 == 9218868437227405312) = true
                · rw [if_pos c15] at H
                  have c15b0 : (t420 == 9218868437227405312) = true := c15
                  (try (have c15b1 : decide (t420 = 9218868437227405312) = true := by simpa using c15))
                  (try (have c15b2 : (t420 == 9218868437227405312) = true := by simpa using c15))
                  clear c15
                  obtain rfl := Option.some.inj H
                  go_wp2
                  go_ret
                  exact ⟨by first | rfl | (simp [errW_none, errW_some] <;> rfl) | (simp [*, errW_none, errW_some] <;> rfl), by repeat (first | (with_reducible first | exact HB.out | apply below_alloc | apply pw_below_drewN | apply below_drew1) | exact HB.out)⟩
                · rw [if_neg c15] at H
                  have c15b0 : (t420 == 9218868437227405312) = false := by simpa using c15
                  (try (have c15b1 : decide (t420 = 9218868437227405312) = false := by simpa using c15))
                  (try (have c15b2 : (t420 == 9218868437227405312) = false := by simpa using c15))
                  (try (have c15b3 : ¬ (t420 = 9218868437227405312) := by simpa using c15))
                  clear c15
                  replace H := Option.bind_eq_some_iff.mp H
                  obtain ⟨⟨t421, t422, t423, t424⟩, A160, H⟩ := H
                  replace H : ((sibylref03_Parts.f kj9 a1).bind fun bt425 => (if bt425.2.2.1 < t423 then (sibylref21_Add.j2 kj9 a0 t421 t422 t423 bt425.1 bt425.2.1 bt425.2.2.1 bt425.2.2.1) else (sibylref21_Add.j2 kj9 a0 t421 t422 t423 bt425.1 bt425.2.1 bt425.2.2.1 t423))) = some r := H
                  have A16 := Aside0.mk A160
                  clear A160
                  replace H := Option.bind_eq_some_iff.mp H
                  obtain ⟨⟨t425, t426, t427, t428⟩, A170, H⟩ := H
                  replace H : (if t427 < t423 then (sibylref21_Add.j2 kj9 a0 t421 t422 t423 t425 t426 t427 t427) else (sibylref21_Add.j2 kj9 a0 t421 t422 t423 t425 t426 t427 t423)) = some r := H
                  have A17 := Aside0.mk A170
                  clear A170
                  have HC18 := Aside0.mk H
                  clear H
                  go_upto_if 62 with (first | ((with_reducible refine gate_callee (f := 60) rfl ?_); refine goesL_ (some 47) rfl rfl Try.func60 (by kernel_rfl) rfl #[.int .u64 a0] rfl (by (try simp only [List.map_toArray, List.map_cons, List.map_nil]); first | done | rfl | (simp only [List.length_drop, List.length_take]; rfl)) ?_; (with_reducible refine (sibylref03_Parts.calls kj9 a0 t421 t422 t423 t424 _ A16.out).mono ?_); rintro e w' ⟨rfl, ⟨nd, rfl⟩⟩; refine ⟨_, rfl, ?_⟩) | ((with_reducible refine gate_callee (f := 60) rfl ?_); refine goesL_ (some 54) rfl rfl Try.func60 (by kernel_rfl) rfl #[.int .u64 a1] rfl (by (try simp only [List.map_toArray, List.map_cons, List.map_nil]); first | done | rfl | (simp only [List.length_drop, List.length_take]; rfl)) ?_; (with_reducible refine (sibylref03_Parts.calls kj9 a1 t425 t426 t427 t428 _ A17.out).mono ?_); rintro e w' ⟨rfl, ⟨nd, rfl⟩⟩; refine ⟨_, rfl, ?_⟩))
                  (try simp only [Act.put, List.setIfInBounds_toArray, List.set_cons_zero, List.set_cons_succ])
                  go_cut [15] (fun v15 wc => ∃ (kq : Nat) (x15_17 : Int), v15 = .int .i64 x15_17 ∧ Aside0 (sibylref21_Add.j2 kq a0 t421 t422 t423 t425 t426 t427 x15_17 = some r) ∧ Aside0 (kq ≤ kj9) ∧ Aside0 (Below w.heap.size w wc))
                  case first =>
                    have H := HC18.out
                    clear HC18
                    by_cases c19 : t427 < t423
                    · rw [if_pos c19] at H
                      have c19b0 : decide (t427 < t423) = true := decide_eq_true c19
                      clear c19
                      (first | rw [c19b0] | (simp only [i64_w, i32_w]; rw [c19b0]) | skip)
                      have H' := Aside0.mk H
                      clear H
                      go_wp2
                      go_meet
                      case rel => exact ⟨_, (t427), (by first | rfl | (simp; done) | (simp [*]; done)), H', ⟨by have := HJ2.out; have := HJ9.out; first | omega | exact Nat.le_refl _⟩, ⟨by repeat (first | (with_reducible first | exact HB.out | apply below_alloc | apply pw_below_drewN | apply below_drew1) | exact HB.out)⟩⟩
                    · rw [if_neg c19] at H
                      have c19b0 : decide (t427 < t423) = false := decide_eq_false c19
                      clear c19
                      (first | rw [c19b0] | (simp only [i64_w, i32_w]; rw [c19b0]) | skip)
                      have H' := Aside0.mk H
                      clear H
                      go_wp2
                      go_meet
                      case rel => exact ⟨_, (t423), (by first | rfl | (simp; done) | (simp [*]; done)), H', ⟨by have := HJ2.out; have := HJ9.out; first | omega | exact Nat.le_refl _⟩, ⟨by repeat (first | (with_reducible first | exact HB.out | apply below_alloc | apply pw_below_drewN | apply below_drew1) | exact HB.out)⟩⟩
                  case rest =>
                    clear HC18
                    try clear c1
                    try clear c2
                    try clear p2
                    try clear c3
                    try clear c4
                    try clear c5
                    try clear c6
                    try clear c7
                    try clear c11
                    try clear c11b0
                    try clear c11b1
                    try clear c12
                    try clear c12b0
                    try clear c12b1
                    try clear c13
                    try clear c14
                    try clear c14b0
                    try clear c14b1
                    try clear c14b2
                    try clear c15
                    try clear c15b0
                    try clear c15b1
                    try clear c15b2
                    try clear c19
                    try clear c19b0
                    try clear p2
                    obtain ⟨kq, x15_17, rfl, HA, HJ17, HB⟩ := hcut
                    cases kq with
                    | zero => exact absurd HA.out (by simp [sibylref21_Add.j2])
                    | succ kj17 =>
                      have H := HA.out
                      clear HA
                      simp only [sibylref21_Add.j2] at H
                      replace H := Option.bind_eq_some_iff.mp H
                      obtain ⟨t429, A200, H⟩ := H
                      replace H : ((sibylref01_Shl.f kj17 t429 (wrap64 (t423 - x15_17))).bind fun t432 => ((sibylref21_natural.f t426).bind fun t435 => ((sibylref01_Shl.f kj17 t435 (wrap64 (t427 - x15_17))).bind fun t438 => (if (t421 != t425) = true then ((sibylref01_Cmp.f kj17 t432 t438).bind fun t441 => (if t441 = 0 then (some 0) else (if t441 > 0 then ((sibylref01_Minus.f kj17 t432 t438).bind fun t442 => ((sibylref21_round.f kj17 t421 t442 x15_17 false).bind fun t445 => (some t445))) else ((sibylref01_Minus.f kj17 t438 t432).bind fun t446 => ((sibylref21_round.f kj17 t425 t446 x15_17 false).bind fun t449 => (some t449)))))) else ((sibylref01_Plus.f kj17 t432 t438).bind fun t450 => (if (t450.length : Int) = 0 then (some a0) else ((sibylref21_round.f kj17 t421 t450 x15_17 false).bind fun t453 => (some t453)))))))) = some r := H
                      have A20 := Aside0.mk A200
                      clear A200
                      replace H := Option.bind_eq_some_iff.mp H
                      obtain ⟨t432, A210, H⟩ := H
                      replace H : ((sibylref21_natural.f t426).bind fun t435 => ((sibylref01_Shl.f kj17 t435 (wrap64 (t427 - x15_17))).bind fun t438 => (if (t421 != t425) = true then ((sibylref01_Cmp.f kj17 t432 t438).bind fun t441 => (if t441 = 0 then (some 0) else (if t441 > 0 then ((sibylref01_Minus.f kj17 t432 t438).bind fun t442 => ((sibylref21_round.f kj17 t421 t442 x15_17 false).bind fun t445 => (some t445))) else ((sibylref01_Minus.f kj17 t438 t432).bind fun t446 => ((sibylref21_round.f kj17 t425 t446 x15_17 false).bind fun t449 => (some t449)))))) else ((sibylref01_Plus.f kj17 t432 t438).bind fun t450 => (if (t450.length : Int) = 0 then (some a0) else ((sibylref21_round.f kj17 t421 t450 x15_17 false).bind fun t453 => (some t453))))))) = some r := H
                      have A21 := Aside0.mk A210
                      clear A210
                      replace H := Option.bind_eq_some_iff.mp H
                      obtain ⟨t435, A220, H⟩ := H
                      replace H : ((sibylref01_Shl.f kj17 t435 (wrap64 (t427 - x15_17))).bind fun t438 => (if (t421 != t425) = true then ((sibylref01_Cmp.f kj17 t432 t438).bind fun t441 => (if t441 = 0 then (some 0) else (if t441 > 0 then ((sibylref01_Minus.f kj17 t432 t438).bind fun t442 => ((sibylref21_round.f kj17 t421 t442 x15_17 false).bind fun t445 => (some t445))) else ((sibylref01_Minus.f kj17 t438 t432).bind fun t446 => ((sibylref21_round.f kj17 t425 t446 x15_17 false).bind fun t449 => (some t449)))))) else ((sibylref01_Plus.f kj17 t432 t438).bind fun t450 => (if (t450.length : Int) = 0 then (some a0) else ((sibylref21_round.f kj17 t421 t450 x15_17 false).bind fun t453 => (some t453)))))) = some r := H
                      have A22 := Aside0.mk A220
                      clear A220
                      replace H := Option.bind_eq_some_iff.mp H
                      obtain ⟨t438, A230, H⟩ := H
                      replace H : (if (t421 != t425) = true then ((sibylref01_Cmp.f kj17 t432 t438).bind fun t441 => (if t441 = 0 then (some 0) else (if t441 > 0 then ((sibylref01_Minus.f kj17 t432 t438).bind fun t442 => ((sibylref21_round.f kj17 t421 t442 x15_17 false).bind fun t445 => (some t445))) else ((sibylref01_Minus.f kj17 t438 t432).bind fun t446 => ((sibylref21_round.f kj17 t425 t446 x15_17 false).bind fun t449 => (some t449)))))) else ((sibylref01_Plus.f kj17 t432 t438).bind fun t450 => (if (t450.length : Int) = 0 then (some a0) else ((sibylref21_round.f kj17 t421 t450 x15_17 false).bind fun t453 => (some t453))))) = some r := H
                      have A23 := Aside0.mk A230
                      clear A230
                      by_cases c24 : (t421 != t425) = true
                      · rw [if_pos c24] at H
                        have c24b0 : (t421 != t425) = true := c24
                        (try (have c24b1 : decide (t421 = t425) = false := by simpa using c24))
                        (try (have c24b2 : (t421 == t425) = false := by simpa using c24))
                        (try (have c24b3 : ¬ (t421 = t425) := by simpa using c24))
                        clear c24
                        replace H := Option.bind_eq_some_iff.mp H
                        obtain ⟨t441, A250, H⟩ := H
                        replace H : (if t441 = 0 then (some 0) else (if t441 > 0 then ((sibylref01_Minus.f kj17 t432 t438).bind fun t442 => ((sibylref21_round.f kj17 t421 t442 x15_17 false).bind fun t445 => (some t445))) else ((sibylref01_Minus.f kj17 t438 t432).bind fun t446 => ((sibylref21_round.f kj17 t425 t446 x15_17 false).bind fun t449 => (some t449))))) = some r := H
                        have A25 := Aside0.mk A250
                        clear A250
                        by_cases c26 : t441 = 0
                        · rw [if_pos c26] at H
                          have c26b0 : (t441 == 0) = true := beq_iff_eq.mpr c26
                          have c26b1 : (t441 != 0) = false := bne_eq_false_iff_eq.mpr c26
                          clear c26
                          obtain rfl := Option.some.inj H
                          go_wp2_with (first | ((with_reducible refine gate_callee (f := 63) rfl ?_); refine goesL_ (some 65) rfl rfl Try.func63 (by kernel_rfl) rfl #[.int .u64 t422] rfl (by (try simp only [List.map_toArray, List.map_cons, List.map_nil]); first | done | rfl | (simp only [List.length_drop, List.length_take]; rfl)) ?_; (with_reducible refine (sibylref21_natural.calls t422 t429 _ A20.out).mono ?_); rintro e w27 ⟨v430, rfl, ho0, hb⟩; refine ⟨_, rfl, ?_⟩; have n0_ := Aside0.mk (Kd.R_lower ho0 (below_size (by repeat (first | (with_reducible first | exact HB.out | apply below_alloc | apply pw_below_drewN | apply below_drew1) | exact HB.out)))); have n1_ := Aside0.mk (below_step (by repeat (first | (with_reducible first | exact HB.out | apply below_alloc | apply pw_below_drewN | apply below_drew1) | exact HB.out)) hb); clear HB; have HO431 := n0_; have HB := n1_; clear n0_ n1_; (try clear hb); (try clear hb2); (try clear hk); (try clear hi); (try clear ho0); obtain ⟨Ao28, co28, eo28⟩ := Kd.R_slice HO431.out; subst eo28) | ((with_reducible refine gate_callee (f := 69) rfl ?_); refine goesL_ (some 69) rfl rfl Try.func69 (by kernel_rfl) rfl #[.slice Ao28 t429.length co28, .int .i64 (wrap64 (t423 - x15_17))] rfl (by (try simp only [List.map_toArray, List.map_cons, List.map_nil]); first | done | rfl | (simp only [List.length_drop, List.length_take]; rfl)) ?_; (with_reducible refine (sibylref01_Shl.calls kj17 _ _ t429 (wrap64 (t423 - x15_17)) t432 _ ?side1 ?side2 A21.out).mono ?_); (case side1 => repeat (first | exact (Kd.R_reads' HO431.out).2.2 | (with_reducible refine Kd.C_alloc ?_ _) | (with_reducible refine Kd.C_drewN ?_ _) | (with_reducible refine Kd.C_drew ?_))); (case side2 => exact (Kd.R_reads' HO431.out).2.1); rintro e w29 ⟨v433, rfl, ho0, hb⟩; refine ⟨_, rfl, ?_⟩; have n0_ := Aside0.mk (Kd.R_elder' (by (with_reducible repeat (first | apply Kd.R_alloc | apply Kd.R_drewN | apply Kd.R_drew)); exact HO431.out) (Kd.R_base ho0) hb); have n1_ := Aside0.mk (Kd.R_lower (Kd.R_new' ho0 (Kd.R_lt (by (with_reducible repeat (first | apply Kd.R_alloc | apply Kd.R_drewN | apply Kd.R_drew)); exact HO431.out))) (below_size (by repeat (first | (with_reducible first | exact HB.out | apply below_alloc | apply pw_below_drewN | apply below_drew1) | exact HB.out)))); have n2_ := Aside0.mk (below_step (by repeat (first | (with_reducible first | exact HB.out | apply below_alloc | apply pw_below_drewN | apply below_drew1) | exact HB.out)) hb); clear HO431; clear HB; have HO431 := n0_; have HO434 := n1_; have HB := n2_; clear n0_ n1_ n2_; (try clear hb); (try clear hb2); (try clear hk); (try clear hi); (try clear ho0)) | ((with_reducible refine gate_callee (f := 63) rfl ?_); refine goesL_ (some 71) rfl rfl Try.func63 (by kernel_rfl) rfl #[.int .u64 t426] rfl (by (try simp only [List.map_toArray, List.map_cons, List.map_nil]); first | done | rfl | (simp only [List.length_drop, List.length_take]; rfl)) ?_; (with_reducible refine (sibylref21_natural.calls t426 t435 _ A22.out).mono ?_); rintro e w30 ⟨v436, rfl, ho0, hb⟩; refine ⟨_, rfl, ?_⟩; have n0_ := Aside0.mk (Kd.R_elder' (by (with_reducible repeat (first | apply Kd.R_alloc | apply Kd.R_drewN | apply Kd.R_drew)); exact HO431.out) (Kd.R_base ho0) hb); have n1_ := Aside0.mk (Kd.R_elder' (by (with_reducible repeat (first | apply Kd.R_alloc | apply Kd.R_drewN | apply Kd.R_drew)); exact HO434.out) (Kd.R_base ho0) hb); have n2_ := Aside0.mk (Kd.R_lower (Kd.R_new' (Kd.R_new' ho0 (Kd.R_lt (by (with_reducible repeat (first | apply Kd.R_alloc | apply Kd.R_drewN | apply Kd.R_drew)); exact HO431.out))) (Kd.R_lt (by (with_reducible repeat (first | apply Kd.R_alloc | apply Kd.R_drewN | apply Kd.R_drew)); exact HO434.out))) (below_size (by repeat (first | (with_reducible first | exact HB.out | apply below_alloc | apply pw_below_drewN | apply below_drew1) | exact HB.out)))); have n3_ := Aside0.mk (below_step (by repeat (first | (with_reducible first | exact HB.out | apply below_alloc | apply pw_below_drewN | apply below_drew1) | exact HB.out)) hb); clear HO431; clear HO434; clear HB; have HO431 := n0_; have HO434 := n1_; have HO437 := n2_; have HB := n3_; clear n0_ n1_ n2_ n3_; (try clear hb); (try clear hb2); (try clear hk); (try clear hi); (try clear ho0); obtain ⟨Ao31, co31, eo31⟩ := Kd.R_slice HO437.out; subst eo31) | ((with_reducible refine gate_callee (f := 69) rfl ?_); refine goesL_ (some 75) rfl rfl Try.func69 (by kernel_rfl) rfl #[.slice Ao31 t435.length co31, .int .i64 (wrap64 (t427 - x15_17))] rfl (by (try simp only [List.map_toArray, List.map_cons, List.map_nil]); first | done | rfl | (simp only [List.length_drop, List.length_take]; rfl)) ?_; (with_reducible refine (sibylref01_Shl.calls kj17 _ _ t435 (wrap64 (t427 - x15_17)) t438 _ ?side1 ?side2 A23.out).mono ?_); (case side1 => repeat (first | exact (Kd.R_reads' HO437.out).2.2 | (with_reducible refine Kd.C_alloc ?_ _) | (with_reducible refine Kd.C_drewN ?_ _) | (with_reducible refine Kd.C_drew ?_))); (case side2 => exact (Kd.R_reads' HO437.out).2.1); rintro e w32 ⟨v439, rfl, ho0, hb⟩; refine ⟨_, rfl, ?_⟩; have n0_ := Aside0.mk (Kd.R_elder' (by (with_reducible repeat (first | apply Kd.R_alloc | apply Kd.R_drewN | apply Kd.R_drew)); exact HO431.out) (Kd.R_base ho0) hb); have n1_ := Aside0.mk (Kd.R_elder' (by (with_reducible repeat (first | apply Kd.R_alloc | apply Kd.R_drewN | apply Kd.R_drew)); exact HO434.out) (Kd.R_base ho0) hb); have n2_ := Aside0.mk (Kd.R_elder' (by (with_reducible repeat (first | apply Kd.R_alloc | apply Kd.R_drewN | apply Kd.R_drew)); exact HO437.out) (Kd.R_base ho0) hb); have n3_ := Aside0.mk (Kd.R_lower (Kd.R_new' (Kd.R_new' (Kd.R_new' ho0 (Kd.R_lt (by (with_reducible repeat (first | apply Kd.R_alloc | apply Kd.R_drewN | apply Kd.R_drew)); exact HO431.out))) (Kd.R_lt (by (with_reducible repeat (first | apply Kd.R_alloc | apply Kd.R_drewN | apply Kd.R_drew)); exact HO434.out))) (Kd.R_lt (by (with_reducible repeat (first | apply Kd.R_alloc | apply Kd.R_drewN | apply Kd.R_drew)); exact HO437.out))) (below_size (by repeat (first | (with_reducible first | exact HB.out | apply below_alloc | apply pw_below_drewN | apply below_drew1) | exact HB.out)))); have n4_ := Aside0.mk (below_step (by repeat (first | (with_reducible first | exact HB.out | apply below_alloc | apply pw_below_drewN | apply below_drew1) | exact HB.out)) hb); clear HO431; clear HO434; clear HO437; clear HB; have HO431 := n0_; have HO434 := n1_; have HO437 := n2_; have HO440 := n3_; have HB := n4_; clear n0_ n1_ n2_ n3_ n4_; (try clear hb); (try clear hb2); (try clear hk); (try clear hi); (try clear ho0); obtain ⟨Ao33, co33, eo33⟩ := Kd.R_slice HO434.out; subst eo33; obtain ⟨Ao34, co34, eo34⟩ := Kd.R_slice HO440.out; subst eo34) | ((with_reducible refine gate_callee (f := 70) rfl ?_); refine goesL_ (some 81) rfl rfl Try.func70 (by kernel_rfl) rfl #[.slice Ao33 t432.length co33, .slice Ao34 t438.length co34] rfl (by (try simp only [List.map_toArray, List.map_cons, List.map_nil]); first | done | rfl | (simp only [List.length_drop, List.length_take]; rfl)) ?_; (with_reducible refine (sibylref01_Cmp.calls kj17 _ _ t432 _ _ t438 t441 _ ?side1 ?side2 ?side3 ?side4 A25.out).mono ?_); (case side1 => repeat (first | exact (Kd.R_reads' HO434.out).2.2 | (with_reducible refine Kd.C_alloc ?_ _) | (with_reducible refine Kd.C_drewN ?_ _) | (with_reducible refine Kd.C_drew ?_))); (case side2 => exact (Kd.R_reads' HO434.out).2.1); (case side3 => repeat (first | exact (Kd.R_reads' HO440.out).2.2 | (with_reducible refine Kd.C_alloc ?_ _) | (with_reducible refine Kd.C_drewN ?_ _) | (with_reducible refine Kd.C_drew ?_))); (case side4 => exact (Kd.R_reads' HO440.out).2.1); rintro e w35 ⟨rfl, hb⟩; refine ⟨_, rfl, ?_⟩; have n0_ := Aside0.mk (Kd.R_below (by (with_reducible repeat (first | apply Kd.R_alloc | apply Kd.R_drewN | apply Kd.R_drew)); exact HO431.out) hb); have n1_ := Aside0.mk (Kd.R_below (by (with_reducible repeat (first | apply Kd.R_alloc | apply Kd.R_drewN | apply Kd.R_drew)); exact HO434.out) hb); have n2_ := Aside0.mk (Kd.R_below (by (with_reducible repeat (first | apply Kd.R_alloc | apply Kd.R_drewN | apply Kd.R_drew)); exact HO437.out) hb); have n3_ := Aside0.mk (Kd.R_below (by (with_reducible repeat (first | apply Kd.R_alloc | apply Kd.R_drewN | apply Kd.R_drew)); exact HO440.out) hb); have n4_ := Aside0.mk (below_step (by repeat (first | (with_reducible first | exact HB.out | apply below_alloc | apply pw_below_drewN | apply below_drew1) | exact HB.out)) hb); clear HO431; clear HO434; clear HO437; clear HO440; clear HB; have HO431 := n0_; have HO434 := n1_; have HO437 := n2_; have HO440 := n3_; have HB := n4_; clear n0_ n1_ n2_ n3_ n4_; (try clear hb); (try clear hb2); (try clear hk); (try clear hi)))
                          go_ret
                          exact ⟨by first | rfl | (simp [errW_none, errW_some] <;> rfl) | (simp [*, errW_none, errW_some] <;> rfl), by repeat (first | (with_reducible first | exact HB.out | apply below_alloc | apply pw_below_drewN | apply below_drew1) | exact HB.out)⟩
                        · rw [if_neg c26] at H
                          have c26b0 : (t441 == 0) = false := beq_eq_false_iff_ne.mpr c26
                          have c26b1 : (t441 != 0) = true := bne_iff_ne.mpr c26
                          by_cases c36 : t441 > 0
                          · rw [if_pos c36] at H
                            have c36b0 : decide (0 < t441) = true := decide_eq_true c36
                            clear c36
                            replace H := Option.bind_eq_some_iff.mp H
                            obtain ⟨t442, A370, H⟩ := H
                            replace H : ((sibylref21_round.f kj17 t421 t442 x15_17 false).bind fun t445 => (some t445)) = some r := H
                            have A37 := Aside0.mk A370
                            clear A370
                            replace H := Option.bind_eq_some_iff.mp H
                            obtain ⟨t445, A380, H⟩ := H
                            replace H : (some t445) = some r := H
                            have A38 := Aside0.mk A380
                            clear A380
                            obtain rfl := Option.some.inj H
                            go_wp2_with (first | ((with_reducible refine gate_callee (f := 63) rfl ?_); refine goesL_ (some 65) rfl rfl Try.func63 (by kernel_rfl) rfl #[.int .u64 t422] rfl (by (try simp only [List.map_toArray, List.map_cons, List.map_nil]); first | done | rfl | (simp only [List.length_drop, List.length_take]; rfl)) ?_; (with_reducible refine (sibylref21_natural.calls t422 t429 _ A20.out).mono ?_); rintro e w39 ⟨v430, rfl, ho0, hb⟩; refine ⟨_, rfl, ?_⟩; have n0_ := Aside0.mk (Kd.R_lower ho0 (below_size (by repeat (first | (with_reducible first | exact HB.out | apply below_alloc | apply pw_below_drewN | apply below_drew1) | exact HB.out)))); have n1_ := Aside0.mk (below_step (by repeat (first | (with_reducible first | exact HB.out | apply below_alloc | apply pw_below_drewN | apply below_drew1) | exact HB.out)) hb); clear HB; have HO431 := n0_; have HB := n1_; clear n0_ n1_; (try clear hb); (try clear hb2); (try clear hk); (try clear hi); (try clear ho0); obtain ⟨Ao40, co40, eo40⟩ := Kd.R_slice HO431.out; subst eo40) | ((with_reducible refine gate_callee (f := 69) rfl ?_); refine goesL_ (some 69) rfl rfl Try.func69 (by kernel_rfl) rfl #[.slice Ao40 t429.length co40, .int .i64 (wrap64 (t423 - x15_17))] rfl (by (try simp only [List.map_toArray, List.map_cons, List.map_nil]); first | done | rfl | (simp only [List.length_drop, List.length_take]; rfl)) ?_; (with_reducible refine (sibylref01_Shl.calls kj17 _ _ t429 (wrap64 (t423 - x15_17)) t432 _ ?side1 ?side2 A21.out).mono ?_); (case side1 => repeat (first | exact (Kd.R_reads' HO431.out).2.2 | (with_reducible refine Kd.C_alloc ?_ _) | (with_reducible refine Kd.C_drewN ?_ _) | (with_reducible refine Kd.C_drew ?_))); (case side2 => exact (Kd.R_reads' HO431.out).2.1); rintro e w41 ⟨v433, rfl, ho0, hb⟩; refine ⟨_, rfl, ?_⟩; have n0_ := Aside0.mk (Kd.R_elder' (by (with_reducible repeat (first | apply Kd.R_alloc | apply Kd.R_drewN | apply Kd.R_drew)); exact HO431.out) (Kd.R_base ho0) hb); have n1_ := Aside0.mk (Kd.R_lower (Kd.R_new' ho0 (Kd.R_lt (by (with_reducible repeat (first | apply Kd.R_alloc | apply Kd.R_drewN | apply Kd.R_drew)); exact HO431.out))) (below_size (by repeat (first | (with_reducible first | exact HB.out | apply below_alloc | apply pw_below_drewN | apply below_drew1) | exact HB.out)))); have n2_ := Aside0.mk (below_step (by repeat (first | (with_reducible first | exact HB.out | apply below_alloc | apply pw_below_drewN | apply below_drew1) | exact HB.out)) hb); clear HO431; clear HB; have HO431 := n0_; have HO434 := n1_; have HB := n2_; clear n0_ n1_ n2_; (try clear hb); (try clear hb2); (try clear hk); (try clear hi); (try clear ho0)) | ((with_reducible refine gate_callee (f := 63) rfl ?_); refine goesL_ (some 71) rfl rfl Try.func63 (by kernel_rfl) rfl #[.int .u64 t426] rfl (by (try simp only [List.map_toArray, List.map_cons, List.map_nil]); first | done | rfl | (simp only [List.length_drop, List.length_take]; rfl)) ?_; (with_reducible refine (sibylref21_natural.calls t426 t435 _ A22.out).mono ?_); rintro e w42 ⟨v436, rfl, ho0, hb⟩; refine ⟨_, rfl, ?_⟩; have n0_ := Aside0.mk (Kd.R_elder' (by (with_reducible repeat (first | apply Kd.R_alloc | apply Kd.R_drewN | apply Kd.R_drew)); exact HO431.out) (Kd.R_base ho0) hb); have n1_ := Aside0.mk (Kd.R_elder' (by (with_reducible repeat (first | apply Kd.R_alloc | apply Kd.R_drewN | apply Kd.R_drew)); exact HO434.out) (Kd.R_base ho0) hb); have n2_ := Aside0.mk (Kd.R_lower (Kd.R_new' (Kd.R_new' ho0 (Kd.R_lt (by (with_reducible repeat (first | apply Kd.R_alloc | apply Kd.R_drewN | apply Kd.R_drew)); exact HO431.out))) (Kd.R_lt (by (with_reducible repeat (first | apply Kd.R_alloc | apply Kd.R_drewN | apply Kd.R_drew)); exact HO434.out))) (below_size (by repeat (first | (with_reducible first | exact HB.out | apply below_alloc | apply pw_below_drewN | apply below_drew1) | exact HB.out)))); have n3_ := Aside0.mk (below_step (by repeat (first | (with_reducible first | exact HB.out | apply below_alloc | apply pw_below_drewN | apply below_drew1) | exact HB.out)) hb); clear HO431; clear HO434; clear HB; have HO431 := n0_; have HO434 := n1_; have HO437 := n2_; have HB := n3_; clear n0_ n1_ n2_ n3_; (try clear hb); (try clear hb2); (try clear hk); (try clear hi); (try clear ho0); obtain ⟨Ao43, co43, eo43⟩ := Kd.R_slice HO437.out; subst eo43) | ((with_reducible refine gate_callee (f := 69) rfl ?_); refine goesL_ (some 75) rfl rfl Try.func69 (by kernel_rfl) rfl #[.slice Ao43 t435.length co43, .int .i64 (wrap64 (t427 - x15_17))] rfl (by (try simp only [List.map_toArray, List.map_cons, List.map_nil]); first | done | rfl | (simp only [List.length_drop, List.length_take]; rfl)) ?_; (with_reducible refine (sibylref01_Shl.calls kj17 _ _ t435 (wrap64 (t427 - x15_17)) t438 _ ?side1 ?side2 A23.out).mono ?_); (case side1 => repeat (first | exact (Kd.R_reads' HO437.out).2.2 | (with_reducible refine Kd.C_alloc ?_ _) | (with_reducible refine Kd.C_drewN ?_ _) | (with_reducible refine Kd.C_drew ?_))); (case side2 => exact (Kd.R_reads' HO437.out).2.1); rintro e w44 ⟨v439, rfl, ho0, hb⟩; refine ⟨_, rfl, ?_⟩; have n0_ := Aside0.mk (Kd.R_elder' (by (with_reducible repeat (first | apply Kd.R_alloc | apply Kd.R_drewN | apply Kd.R_drew)); exact HO431.out) (Kd.R_base ho0) hb); have n1_ := Aside0.mk (Kd.R_elder' (by (with_reducible repeat (first | apply Kd.R_alloc | apply Kd.R_drewN | apply Kd.R_drew)); exact HO434.out) (Kd.R_base ho0) hb); have n2_ := Aside0.mk (Kd.R_elder' (by (with_reducible repeat (first | apply Kd.R_alloc | apply Kd.R_drewN | apply Kd.R_drew)); exact HO437.out) (Kd.R_base ho0) hb); have n3_ := Aside0.mk (Kd.R_lower (Kd.R_new' (Kd.R_new' (Kd.R_new' ho0 (Kd.R_lt (by (with_reducible repeat (first | apply Kd.R_alloc | apply Kd.R_drewN | apply Kd.R_drew)); exact HO431.out))) (Kd.R_lt (by (with_reducible repeat (first | apply Kd.R_alloc | apply Kd.R_drewN | apply Kd.R_drew)); exact HO434.out))) (Kd.R_lt (by (with_reducible repeat (first | apply Kd.R_alloc | apply Kd.R_drewN | apply Kd.R_drew)); exact HO437.out))) (below_size (by repeat (first | (with_reducible first | exact HB.out | apply below_alloc | apply pw_below_drewN | apply below_drew1) | exact HB.out)))); have n4_ := Aside0.mk (below_step (by repeat (first | (with_reducible first | exact HB.out | apply below_alloc | apply pw_below_drewN | apply below_drew1) | exact HB.out)) hb); clear HO431; clear HO434; clear HO437; clear HB; have HO431 := n0_; have HO434 := n1_; have HO437 := n2_; have HO440 := n3_; have HB := n4_; clear n0_ n1_ n2_ n3_ n4_; (try clear hb); (try clear hb2); (try clear hk); (try clear hi); (try clear ho0); obtain ⟨Ao45, co45, eo45⟩ := Kd.R_slice HO434.out; subst eo45; obtain ⟨Ao46, co46, eo46⟩ := Kd.R_slice HO440.out; subst eo46) | ((with_reducible refine gate_callee (f := 70) rfl ?_); refine goesL_ (some 81) rfl rfl Try.func70 (by kernel_rfl) rfl #[.slice Ao45 t432.length co45, .slice Ao46 t438.length co46] rfl (by (try simp only [List.map_toArray, List.map_cons, List.map_nil]); first | done | rfl | (simp only [List.length_drop, List.length_take]; rfl)) ?_; (with_reducible refine (sibylref01_Cmp.calls kj17 _ _ t432 _ _ t438 t441 _ ?side1 ?side2 ?side3 ?side4 A25.out).mono ?_); (case side1 => repeat (first | exact (Kd.R_reads' HO434.out).2.2 | (with_reducible refine Kd.C_alloc ?_ _) | (with_reducible refine Kd.C_drewN ?_ _) | (with_reducible refine Kd.C_drew ?_))); (case side2 => exact (Kd.R_reads' HO434.out).2.1); (case side3 => repeat (first | exact (Kd.R_reads' HO440.out).2.2 | (with_reducible refine Kd.C_alloc ?_ _) | (with_reducible refine Kd.C_drewN ?_ _) | (with_reducible refine Kd.C_drew ?_))); (case side4 => exact (Kd.R_reads' HO440.out).2.1); rintro e w47 ⟨rfl, hb⟩; refine ⟨_, rfl, ?_⟩; have n0_ := Aside0.mk (Kd.R_below (by (with_reducible repeat (first | apply Kd.R_alloc | apply Kd.R_drewN | apply Kd.R_drew)); exact HO431.out) hb); have n1_ := Aside0.mk (Kd.R_below (by (with_reducible repeat (first | apply Kd.R_alloc | apply Kd.R_drewN | apply Kd.R_drew)); exact HO434.out) hb); have n2_ := Aside0.mk (Kd.R_below (by (with_reducible repeat (first | apply Kd.R_alloc | apply Kd.R_drewN | apply Kd.R_drew)); exact HO437.out) hb); have n3_ := Aside0.mk (Kd.R_below (by (with_reducible repeat (first | apply Kd.R_alloc | apply Kd.R_drewN | apply Kd.R_drew)); exact HO440.out) hb); have n4_ := Aside0.mk (below_step (by repeat (first | (with_reducible first | exact HB.out | apply below_alloc | apply pw_below_drewN | apply below_drew1) | exact HB.out)) hb); clear HO431; clear HO434; clear HO437; clear HO440; clear HB; have HO431 := n0_; have HO434 := n1_; have HO437 := n2_; have HO440 := n3_; have HB := n4_; clear n0_ n1_ n2_ n3_ n4_; (try clear hb); (try clear hb2); (try clear hk); (try clear hi)) | ((with_reducible refine gate_callee (f := 71) rfl ?_); refine goesL_ (some 89) rfl rfl Try.func71 (by kernel_rfl) rfl #[.slice Ao45 t432.length co45, .slice Ao46 t438.length co46] rfl (by (try simp only [List.map_toArray, List.map_cons, List.map_nil]); first | done | rfl | (simp only [List.length_drop, List.length_take]; rfl)) ?_; (with_reducible refine (sibylref01_Minus.calls kj17 _ _ t432 _ _ t438 t442 _ ?side1 ?side2 ?side3 ?side4 A37.out).mono ?_); (case side1 => repeat (first | exact (Kd.R_reads' HO434.out).2.2 | (with_reducible refine Kd.C_alloc ?_ _) | (with_reducible refine Kd.C_drewN ?_ _) | (with_reducible refine Kd.C_drew ?_))); (case side2 => exact (Kd.R_reads' HO434.out).2.1); (case side3 => repeat (first | exact (Kd.R_reads' HO440.out).2.2 | (with_reducible refine Kd.C_alloc ?_ _) | (with_reducible refine Kd.C_drewN ?_ _) | (with_reducible refine Kd.C_drew ?_))); (case side4 => exact (Kd.R_reads' HO440.out).2.1); rintro e w48 ⟨v443, rfl, ho0, hb⟩; refine ⟨_, rfl, ?_⟩; have n0_ := Aside0.mk (Kd.R_elder' (by (with_reducible repeat (first | apply Kd.R_alloc | apply Kd.R_drewN | apply Kd.R_drew)); exact HO431.out) (Kd.R_base ho0) hb); have n1_ := Aside0.mk (Kd.R_elder' (by (with_reducible repeat (first | apply Kd.R_alloc | apply Kd.R_drewN | apply Kd.R_drew)); exact HO434.out) (Kd.R_base ho0) hb); have n2_ := Aside0.mk (Kd.R_elder' (by (with_reducible repeat (first | apply Kd.R_alloc | apply Kd.R_drewN | apply Kd.R_drew)); exact HO437.out) (Kd.R_base ho0) hb); have n3_ := Aside0.mk (Kd.R_elder' (by (with_reducible repeat (first | apply Kd.R_alloc | apply Kd.R_drewN | apply Kd.R_drew)); exact HO440.out) (Kd.R_base ho0) hb); have n4_ := Aside0.mk (Kd.R_lower (Kd.R_new' (Kd.R_new' (Kd.R_new' (Kd.R_new' ho0 (Kd.R_lt (by (with_reducible repeat (first | apply Kd.R_alloc | apply Kd.R_drewN | apply Kd.R_drew)); exact HO431.out))) (Kd.R_lt (by (with_reducible repeat (first | apply Kd.R_alloc | apply Kd.R_drewN | apply Kd.R_drew)); exact HO434.out))) (Kd.R_lt (by (with_reducible repeat (first | apply Kd.R_alloc | apply Kd.R_drewN | apply Kd.R_drew)); exact HO437.out))) (Kd.R_lt (by (with_reducible repeat (first | apply Kd.R_alloc | apply Kd.R_drewN | apply Kd.R_drew)); exact HO440.out))) (below_size (by repeat (first | (with_reducible first | exact HB.out | apply below_alloc | apply pw_below_drewN | apply below_drew1) | exact HB.out)))); have n5_ := Aside0.mk (below_step (by repeat (first | (with_reducible first | exact HB.out | apply below_alloc | apply pw_below_drewN | apply below_drew1) | exact HB.out)) hb); clear HO431; clear HO434; clear HO437; clear HO440; clear HB; have HO431 := n0_; have HO434 := n1_; have HO437 := n2_; have HO440 := n3_; have HO444 := n4_; have HB := n5_; clear n0_ n1_ n2_ n3_ n4_ n5_; (try clear hb); (try clear hb2); (try clear hk); (try clear hi); (try clear ho0); obtain ⟨Ao49, co49, eo49⟩ := Kd.R_slice HO444.out; subst eo49) | ((with_reducible refine gate_callee (f := 61) rfl ?_); refine goesL_ (some 91) rfl rfl Try.func61 (by kernel_rfl) rfl #[.bool t421, .slice Ao49 t442.length co49, .int .i64 x15_17, .bool false] rfl (by (try simp only [List.map_toArray, List.map_cons, List.map_nil]); first | done | rfl | (simp only [List.length_drop, List.length_take]; rfl)) ?_; (with_reducible refine (sibylref21_round.calls kj17 t421 (fun k_ => some k_ = (.slice Ao49 t442.length co49 : Value).ownBlock) (.slice Ao49 t442.length co49) t442 x15_17 false t445 w _ ?side1 ?side2 A38.out).mono ?_); (case side1 => repeat (first | (with_reducible first | exact HB.out | apply below_alloc | apply pw_below_drewN | apply below_drew1) | exact HB.out)); (case side2 => exact Kd.R_tight rfl HO444.out); rintro e w50 ⟨rfl, hb, hkp⟩; refine ⟨_, rfl, ?_⟩; have n0_ := Aside0.mk (Kd.R_mono (ok' := fun k_ => some k_ ≠ (.slice Ao45 t432.length co45 : Value).ownBlock ∧ some k_ ≠ (.slice Ao43 t435.length co43 : Value).ownBlock ∧ some k_ ≠ (.slice Ao46 t438.length co46 : Value).ownBlock) (Kd.R_keptB (HO431.out) hkp (fun k_ hk_ hs_ => (hk_.2) hs_)) (fun k_ hk_ => ⟨hk_.1.1.1.1.2, hk_.1.1.1.2, hk_.1.1.2⟩)); have n1_ := Aside0.mk (Kd.R_mono (ok' := fun k_ => some k_ ≠ (.slice Ao40 t429.length co40 : Value).ownBlock ∧ some k_ ≠ (.slice Ao43 t435.length co43 : Value).ownBlock ∧ some k_ ≠ (.slice Ao46 t438.length co46 : Value).ownBlock) (Kd.R_keptB (HO434.out) hkp (fun k_ hk_ hs_ => (hk_.2) hs_)) (fun k_ hk_ => ⟨hk_.1.1.1.1.2, hk_.1.1.1.2, hk_.1.1.2⟩)); have n2_ := Aside0.mk (Kd.R_mono (ok' := fun k_ => some k_ ≠ (.slice Ao40 t429.length co40 : Value).ownBlock ∧ some k_ ≠ (.slice Ao45 t432.length co45 : Value).ownBlock ∧ some k_ ≠ (.slice Ao46 t438.length co46 : Value).ownBlock) (Kd.R_keptB (HO437.out) hkp (fun k_ hk_ hs_ => (hk_.2) hs_)) (fun k_ hk_ => ⟨hk_.1.1.1.1.2, hk_.1.1.1.2, hk_.1.1.2⟩)); have n3_ := Aside0.mk (Kd.R_mono (ok' := fun k_ => some k_ ≠ (.slice Ao40 t429.length co40 : Value).ownBlock ∧ some k_ ≠ (.slice Ao45 t432.length co45 : Value).ownBlock ∧ some k_ ≠ (.slice Ao43 t435.length co43 : Value).ownBlock) (Kd.R_keptB (HO440.out) hkp (fun k_ hk_ hs_ => (hk_.2) hs_)) (fun k_ hk_ => ⟨hk_.1.1.1.1.2, hk_.1.1.1.2, hk_.1.1.2⟩)); have n4_ := Aside0.mk (hb); clear HO431; clear HO434; clear HO437; clear HO440; clear HB; clear HO444; have HO431 := n0_; have HO434 := n1_; have HO437 := n2_; have HO440 := n3_; have HB := n4_; clear n0_ n1_ n2_ n3_ n4_; (try clear hb); (try clear hkp)))
                            go_ret
                            exact ⟨by first | rfl | (simp [errW_none, errW_some] <;> rfl) | (simp [*, errW_none, errW_some] <;> rfl), by repeat (first | (with_reducible first | exact HB.out | apply below_alloc | apply pw_below_drewN | apply below_drew1) | exact HB.out)⟩
                          · rw [if_neg c36] at H
                            have c36b0 : decide (0 < t441) = false := decide_eq_false c36
                            clear c36
                            replace H := Option.bind_eq_some_iff.mp H
                            obtain ⟨t446, A510, H⟩ := H
                            replace H : ((sibylref21_round.f kj17 t425 t446 x15_17 false).bind fun t449 => (some t449)) = some r := H
                            have A51 := Aside0.mk A510
                            clear A510
                            replace H := Option.bind_eq_some_iff.mp H
                            obtain ⟨t449, A520, H⟩ := H
                            replace H : (some t449) = some r := H
                            have A52 := Aside0.mk A520
                            clear A520
                            obtain rfl := Option.some.inj H
                            go_wp2_with (first | ((with_reducible refine gate_callee (f := 63) rfl ?_); refine goesL_ (some 65) rfl rfl Try.func63 (by kernel_rfl) rfl #[.int .u64 t422] rfl (by (try simp only [List.map_toArray, List.map_cons, List.map_nil]); first | done | rfl | (simp only [List.length_drop, List.length_take]; rfl)) ?_; (with_reducible refine (sibylref21_natural.calls t422 t429 _ A20.out).mono ?_); rintro e w53 ⟨v430, rfl, ho0, hb⟩; refine ⟨_, rfl, ?_⟩; have n0_ := Aside0.mk (Kd.R_lower ho0 (below_size (by repeat (first | (with_reducible first | exact HB.out | apply below_alloc | apply pw_below_drewN | apply below_drew1) | exact HB.out)))); have n1_ := Aside0.mk (below_step (by repeat (first | (with_reducible first | exact HB.out | apply below_alloc | apply pw_below_drewN | apply below_drew1) | exact HB.out)) hb); clear HB; have HO431 := n0_; have HB := n1_; clear n0_ n1_; (try clear hb); (try clear hb2); (try clear hk); (try clear hi); (try clear ho0); obtain ⟨Ao54, co54, eo54⟩ := Kd.R_slice HO431.out; subst eo54) | ((with_reducible refine gate_callee (f := 69) rfl ?_); refine goesL_ (some 69) rfl rfl Try.func69 (by kernel_rfl) rfl #[.slice Ao54 t429.length co54, .int .i64 (wrap64 (t423 - x15_17))] rfl (by (try simp only [List.map_toArray, List.map_cons, List.map_nil]); first | done | rfl | (simp only [List.length_drop, List.length_take]; rfl)) ?_; (with_reducible refine (sibylref01_Shl.calls kj17 _ _ t429 (wrap64 (t423 - x15_17)) t432 _ ?side1 ?side2 A21.out).mono ?_); (case side1 => repeat (first | exact (Kd.R_reads' HO431.out).2.2 | (with_reducible refine Kd.C_alloc ?_ _) | (with_reducible refine Kd.C_drewN ?_ _) | (with_reducible refine Kd.C_drew ?_))); (case side2 => exact (Kd.R_reads' HO431.out).2.1); rintro e w55 ⟨v433, rfl, ho0, hb⟩; refine ⟨_, rfl, ?_⟩; have n0_ := Aside0.mk (Kd.R_elder' (by (with_reducible repeat (first | apply Kd.R_alloc | apply Kd.R_drewN | apply Kd.R_drew)); exact HO431.out) (Kd.R_base ho0) hb); have n1_ := Aside0.mk (Kd.R_lower (Kd.R_new' ho0 (Kd.R_lt (by (with_reducible repeat (first | apply Kd.R_alloc | apply Kd.R_drewN | apply Kd.R_drew)); exact HO431.out))) (below_size (by repeat (first | (with_reducible first | exact HB.out | apply below_alloc | apply pw_below_drewN | apply below_drew1) | exact HB.out)))); have n2_ := Aside0.mk (below_step (by repeat (first | (with_reducible first | exact HB.out | apply below_alloc | apply pw_below_drewN | apply below_drew1) | exact HB.out)) hb); clear HO431; clear HB; have HO431 := n0_; have HO434 := n1_; have HB := n2_; clear n0_ n1_ n2_; (try clear hb); (try clear hb2); (try clear hk); (try clear hi); (try clear ho0)) | ((with_reducible refine gate_callee (f := 63) rfl ?_); refine goesL_ (some 71) rfl rfl Try.func63 (by kernel_rfl) rfl #[.int .u64 t426] rfl (by (try simp only [List.map_toArray, List.map_cons, List.map_nil]); first | done | rfl | (simp only [List.length_drop, List.length_take]; rfl)) ?_; (with_reducible refine (sibylref21_natural.calls t426 t435 _ A22.out).mono ?_); rintro e w56 ⟨v436, rfl, ho0, hb⟩; refine ⟨_, rfl, ?_⟩; have n0_ := Aside0.mk (Kd.R_elder' (by (with_reducible repeat (first | apply Kd.R_alloc | apply Kd.R_drewN | apply Kd.R_drew)); exact HO431.out) (Kd.R_base ho0) hb); have n1_ := Aside0.mk (Kd.R_elder' (by (with_reducible repeat (first | apply Kd.R_alloc | apply Kd.R_drewN | apply Kd.R_drew)); exact HO434.out) (Kd.R_base ho0) hb); have n2_ := Aside0.mk (Kd.R_lower (Kd.R_new' (Kd.R_new' ho0 (Kd.R_lt (by (with_reducible repeat (first | apply Kd.R_alloc | apply Kd.R_drewN | apply Kd.R_drew)); exact HO431.out))) (Kd.R_lt (by (with_reducible repeat (first | apply Kd.R_alloc | apply Kd.R_drewN | apply Kd.R_drew)); exact HO434.out))) (below_size (by repeat (first | (with_reducible first | exact HB.out | apply below_alloc | apply pw_below_drewN | apply below_drew1) | exact HB.out)))); have n3_ := Aside0.mk (below_step (by repeat (first | (with_reducible first | exact HB.out | apply below_alloc | apply pw_below_drewN | apply below_drew1) | exact HB.out)) hb); clear HO431; clear HO434; clear HB; have HO431 := n0_; have HO434 := n1_; have HO437 := n2_; have HB := n3_; clear n0_ n1_ n2_ n3_; (try clear hb); (try clear hb2); (try clear hk); (try clear hi); (try clear ho0); obtain ⟨Ao57, co57, eo57⟩ := Kd.R_slice HO437.out; subst eo57) | ((with_reducible refine gate_callee (f := 69) rfl ?_); refine goesL_ (some 75) rfl rfl Try.func69 (by kernel_rfl) rfl #[.slice Ao57 t435.length co57, .int .i64 (wrap64 (t427 - x15_17))] rfl (by (try simp only [List.map_toArray, List.map_cons, List.map_nil]); first | done | rfl | (simp only [List.length_drop, List.length_take]; rfl)) ?_; (with_reducible refine (sibylref01_Shl.calls kj17 _ _ t435 (wrap64 (t427 - x15_17)) t438 _ ?side1 ?side2 A23.out).mono ?_); (case side1 => repeat (first | exact (Kd.R_reads' HO437.out).2.2 | (with_reducible refine Kd.C_alloc ?_ _) | (with_reducible refine Kd.C_drewN ?_ _) | (with_reducible refine Kd.C_drew ?_))); (case side2 => exact (Kd.R_reads' HO437.out).2.1); rintro e w58 ⟨v439, rfl, ho0, hb⟩; refine ⟨_, rfl, ?_⟩; have n0_ := Aside0.mk (Kd.R_elder' (by (with_reducible repeat (first | apply Kd.R_alloc | apply Kd.R_drewN | apply Kd.R_drew)); exact HO431.out) (Kd.R_base ho0) hb); have n1_ := Aside0.mk (Kd.R_elder' (by (with_reducible repeat (first | apply Kd.R_alloc | apply Kd.R_drewN | apply Kd.R_drew)); exact HO434.out) (Kd.R_base ho0) hb); have n2_ := Aside0.mk (Kd.R_elder' (by (with_reducible repeat (first | apply Kd.R_alloc | apply Kd.R_drewN | apply Kd.R_drew)); exact HO437.out) (Kd.R_base ho0) hb); have n3_ := Aside0.mk (Kd.R_lower (Kd.R_new' (Kd.R_new' (Kd.R_new' ho0 (Kd.R_lt (by (with_reducible repeat (first | apply Kd.R_alloc | apply Kd.R_drewN | apply Kd.R_drew)); exact HO431.out))) (Kd.R_lt (by (with_reducible repeat (first | apply Kd.R_alloc | apply Kd.R_drewN | apply Kd.R_drew)); exact HO434.out))) (Kd.R_lt (by (with_reducible repeat (first | apply Kd.R_alloc | apply Kd.R_drewN | apply Kd.R_drew)); exact HO437.out))) (below_size (by repeat (first | (with_reducible first | exact HB.out | apply below_alloc | apply pw_below_drewN | apply below_drew1) | exact HB.out)))); have n4_ := Aside0.mk (below_step (by repeat (first | (with_reducible first | exact HB.out | apply below_alloc | apply pw_below_drewN | apply below_drew1) | exact HB.out)) hb); clear HO431; clear HO434; clear HO437; clear HB; have HO431 := n0_; have HO434 := n1_; have HO437 := n2_; have HO440 := n3_; have HB := n4_; clear n0_ n1_ n2_ n3_ n4_; (try clear hb); (try clear hb2); (try clear hk); (try clear hi); (try clear ho0); obtain ⟨Ao59, co59, eo59⟩ := Kd.R_slice HO434.out; subst eo59; obtain ⟨Ao60, co60, eo60⟩ := Kd.R_slice HO440.out; subst eo60) | ((with_reducible refine gate_callee (f := 70) rfl ?_); refine goesL_ (some 81) rfl rfl Try.func70 (by kernel_rfl) rfl #[.slice Ao59 t432.length co59, .slice Ao60 t438.length co60] rfl (by (try simp only [List.map_toArray, List.map_cons, List.map_nil]); first | done | rfl | (simp only [List.length_drop, List.length_take]; rfl)) ?_; (with_reducible refine (sibylref01_Cmp.calls kj17 _ _ t432 _ _ t438 t441 _ ?side1 ?side2 ?side3 ?side4 A25.out).mono ?_); (case side1 => repeat (first | exact (Kd.R_reads' HO434.out).2.2 | (with_reducible refine Kd.C_alloc ?_ _) | (with_reducible refine Kd.C_drewN ?_ _) | (with_reducible refine Kd.C_drew ?_))); (case side2 => exact (Kd.R_reads' HO434.out).2.1); (case side3 => repeat (first | exact (Kd.R_reads' HO440.out).2.2 | (with_reducible refine Kd.C_alloc ?_ _) | (with_reducible refine Kd.C_drewN ?_ _) | (with_reducible refine Kd.C_drew ?_))); (case side4 => exact (Kd.R_reads' HO440.out).2.1); rintro e w61 ⟨rfl, hb⟩; refine ⟨_, rfl, ?_⟩; have n0_ := Aside0.mk (Kd.R_below (by (with_reducible repeat (first | apply Kd.R_alloc | apply Kd.R_drewN | apply Kd.R_drew)); exact HO431.out) hb); have n1_ := Aside0.mk (Kd.R_below (by (with_reducible repeat (first | apply Kd.R_alloc | apply Kd.R_drewN | apply Kd.R_drew)); exact HO434.out) hb); have n2_ := Aside0.mk (Kd.R_below (by (with_reducible repeat (first | apply Kd.R_alloc | apply Kd.R_drewN | apply Kd.R_drew)); exact HO437.out) hb); have n3_ := Aside0.mk (Kd.R_below (by (with_reducible repeat (first | apply Kd.R_alloc | apply Kd.R_drewN | apply Kd.R_drew)); exact HO440.out) hb); have n4_ := Aside0.mk (below_step (by repeat (first | (with_reducible first | exact HB.out | apply below_alloc | apply pw_below_drewN | apply below_drew1) | exact HB.out)) hb); clear HO431; clear HO434; clear HO437; clear HO440; clear HB; have HO431 := n0_; have HO434 := n1_; have HO437 := n2_; have HO440 := n3_; have HB := n4_; clear n0_ n1_ n2_ n3_ n4_; (try clear hb); (try clear hb2); (try clear hk); (try clear hi)) | ((with_reducible refine gate_callee (f := 71) rfl ?_); refine goesL_ (some 95) rfl rfl Try.func71 (by kernel_rfl) rfl #[.slice Ao60 t438.length co60, .slice Ao59 t432.length co59] rfl (by (try simp only [List.map_toArray, List.map_cons, List.map_nil]); first | done | rfl | (simp only [List.length_drop, List.length_take]; rfl)) ?_; (with_reducible refine (sibylref01_Minus.calls kj17 _ _ t438 _ _ t432 t446 _ ?side1 ?side2 ?side3 ?side4 A51.out).mono ?_); (case side1 => repeat (first | exact (Kd.R_reads' HO440.out).2.2 | (with_reducible refine Kd.C_alloc ?_ _) | (with_reducible refine Kd.C_drewN ?_ _) | (with_reducible refine Kd.C_drew ?_))); (case side2 => exact (Kd.R_reads' HO440.out).2.1); (case side3 => repeat (first | exact (Kd.R_reads' HO434.out).2.2 | (with_reducible refine Kd.C_alloc ?_ _) | (with_reducible refine Kd.C_drewN ?_ _) | (with_reducible refine Kd.C_drew ?_))); (case side4 => exact (Kd.R_reads' HO434.out).2.1); rintro e w62 ⟨v447, rfl, ho0, hb⟩; refine ⟨_, rfl, ?_⟩; have n0_ := Aside0.mk (Kd.R_elder' (by (with_reducible repeat (first | apply Kd.R_alloc | apply Kd.R_drewN | apply Kd.R_drew)); exact HO431.out) (Kd.R_base ho0) hb); have n1_ := Aside0.mk (Kd.R_elder' (by (with_reducible repeat (first | apply Kd.R_alloc | apply Kd.R_drewN | apply Kd.R_drew)); exact HO434.out) (Kd.R_base ho0) hb); have n2_ := Aside0.mk (Kd.R_elder' (by (with_reducible repeat (first | apply Kd.R_alloc | apply Kd.R_drewN | apply Kd.R_drew)); exact HO437.out) (Kd.R_base ho0) hb); have n3_ := Aside0.mk (Kd.R_elder' (by (with_reducible repeat (first | apply Kd.R_alloc | apply Kd.R_drewN | apply Kd.R_drew)); exact HO440.out) (Kd.R_base ho0) hb); have n4_ := Aside0.mk (Kd.R_lower (Kd.R_new' (Kd.R_new' (Kd.R_new' (Kd.R_new' ho0 (Kd.R_lt (by (with_reducible repeat (first | apply Kd.R_alloc | apply Kd.R_drewN | apply Kd.R_drew)); exact HO431.out))) (Kd.R_lt (by (with_reducible repeat (first | apply Kd.R_alloc | apply Kd.R_drewN | apply Kd.R_drew)); exact HO434.out))) (Kd.R_lt (by (with_reducible repeat (first | apply Kd.R_alloc | apply Kd.R_drewN | apply Kd.R_drew)); exact HO437.out))) (Kd.R_lt (by (with_reducible repeat (first | apply Kd.R_alloc | apply Kd.R_drewN | apply Kd.R_drew)); exact HO440.out))) (below_size (by repeat (first | (with_reducible first | exact HB.out | apply below_alloc | apply pw_below_drewN | apply below_drew1) | exact HB.out)))); have n5_ := Aside0.mk (below_step (by repeat (first | (with_reducible first | exact HB.out | apply below_alloc | apply pw_below_drewN | apply below_drew1) | exact HB.out)) hb); clear HO431; clear HO434; clear HO437; clear HO440; clear HB; have HO431 := n0_; have HO434 := n1_; have HO437 := n2_; have HO440 := n3_; have HO448 := n4_; have HB := n5_; clear n0_ n1_ n2_ n3_ n4_ n5_; (try clear hb); (try clear hb2); (try clear hk); (try clear hi); (try clear ho0); obtain ⟨Ao63, co63, eo63⟩ := Kd.R_slice HO448.out; subst eo63) | ((with_reducible refine gate_callee (f := 61) rfl ?_); refine goesL_ (some 97) rfl rfl Try.func61 (by kernel_rfl) rfl #[.bool t425, .slice Ao63 t446.length co63, .int .i64 x15_17, .bool false] rfl (by (try simp only [List.map_toArray, List.map_cons, List.map_nil]); first | done | rfl | (simp only [List.length_drop, List.length_take]; rfl)) ?_; (with_reducible refine (sibylref21_round.calls kj17 t425 (fun k_ => some k_ = (.slice Ao63 t446.length co63 : Value).ownBlock) (.slice Ao63 t446.length co63) t446 x15_17 false t449 w _ ?side1 ?side2 A52.out).mono ?_); (case side1 => repeat (first | (with_reducible first | exact HB.out | apply below_alloc | apply pw_below_drewN | apply below_drew1) | exact HB.out)); (case side2 => exact Kd.R_tight rfl HO448.out); rintro e w64 ⟨rfl, hb, hkp⟩; refine ⟨_, rfl, ?_⟩; have n0_ := Aside0.mk (Kd.R_mono (ok' := fun k_ => some k_ ≠ (.slice Ao59 t432.length co59 : Value).ownBlock ∧ some k_ ≠ (.slice Ao57 t435.length co57 : Value).ownBlock ∧ some k_ ≠ (.slice Ao60 t438.length co60 : Value).ownBlock) (Kd.R_keptB (HO431.out) hkp (fun k_ hk_ hs_ => (hk_.2) hs_)) (fun k_ hk_ => ⟨hk_.1.1.1.1.2, hk_.1.1.1.2, hk_.1.1.2⟩)); have n1_ := Aside0.mk (Kd.R_mono (ok' := fun k_ => some k_ ≠ (.slice Ao54 t429.length co54 : Value).ownBlock ∧ some k_ ≠ (.slice Ao57 t435.length co57 : Value).ownBlock ∧ some k_ ≠ (.slice Ao60 t438.length co60 : Value).ownBlock) (Kd.R_keptB (HO434.out) hkp (fun k_ hk_ hs_ => (hk_.2) hs_)) (fun k_ hk_ => ⟨hk_.1.1.1.1.2, hk_.1.1.1.2, hk_.1.1.2⟩)); have n2_ := Aside0.mk (Kd.R_mono (ok' := fun k_ => some k_ ≠ (.slice Ao54 t429.length co54 : Value).ownBlock ∧ some k_ ≠ (.slice Ao59 t432.length co59 : Value).ownBlock ∧ some k_ ≠ (.slice Ao60 t438.length co60 : Value).ownBlock) (Kd.R_keptB (HO437.out) hkp (fun k_ hk_ hs_ => (hk_.2) hs_)) (fun k_ hk_ => ⟨hk_.1.1.1.1.2, hk_.1.1.1.2, hk_.1.1.2⟩)); have n3_ := Aside0.mk (Kd.R_mono (ok' := fun k_ => some k_ ≠ (.slice Ao54 t429.length co54 : Value).ownBlock ∧ some k_ ≠ (.slice Ao59 t432.length co59 : Value).ownBlock ∧ some k_ ≠ (.slice Ao57 t435.length co57 : Value).ownBlock) (Kd.R_keptB (HO440.out) hkp (fun k_ hk_ hs_ => (hk_.2) hs_)) (fun k_ hk_ => ⟨hk_.1.1.1.1.2, hk_.1.1.1.2, hk_.1.1.2⟩)); have n4_ := Aside0.mk (hb); clear HO431; clear HO434; clear HO437; clear HO440; clear HB; clear HO448; have HO431 := n0_; have HO434 := n1_; have HO437 := n2_; have HO440 := n3_; have HB := n4_; clear n0_ n1_ n2_ n3_ n4_; (try clear hb); (try clear hkp)))
                            go_ret
                            exact ⟨by first | rfl | (simp [errW_none, errW_some] <;> rfl) | (simp [*, errW_none, errW_some] <;> rfl), by repeat (first | (with_reducible first | exact HB.out | apply below_alloc | apply pw_below_drewN | apply below_drew1) | exact HB.out)⟩
                      · rw [if_neg c24] at H
                        have c24b0 : (t421 != t425) = false := by simpa using c24
                        (try (have c24b1 : decide (t421 = t425) = true := by simpa using c24))
                        (try (have c24b2 : (t421 == t425) = true := by simpa using c24))
                        clear c24
                        replace H := Option.bind_eq_some_iff.mp H
                        obtain ⟨t450, A650, H⟩ := H
                        replace H : (if (t450.length : Int) = 0 then (some a0) else ((sibylref21_round.f kj17 t421 t450 x15_17 false).bind fun t453 => (some t453))) = some r := H
                        have A65 := Aside0.mk A650
                        clear A650
                        by_cases c66 : (t450.length : Int) = 0
                        · rw [if_pos c66] at H
                          have c66b0 : ((t450.length : Int) == 0) = true := beq_iff_eq.mpr c66
                          have c66b1 : ((t450.length : Int) != 0) = false := bne_eq_false_iff_eq.mpr c66
                          clear c66
                          obtain rfl := Option.some.inj H
                          go_wp2_with (first | ((with_reducible refine gate_callee (f := 63) rfl ?_); refine goesL_ (some 65) rfl rfl Try.func63 (by kernel_rfl) rfl #[.int .u64 t422] rfl (by (try simp only [List.map_toArray, List.map_cons, List.map_nil]); first | done | rfl | (simp only [List.length_drop, List.length_take]; rfl)) ?_; (with_reducible refine (sibylref21_natural.calls t422 t429 _ A20.out).mono ?_); rintro e w67 ⟨v430, rfl, ho0, hb⟩; refine ⟨_, rfl, ?_⟩; have n0_ := Aside0.mk (Kd.R_lower ho0 (below_size (by repeat (first | (with_reducible first | exact HB.out | apply below_alloc | apply pw_below_drewN | apply below_drew1) | exact HB.out)))); have n1_ := Aside0.mk (below_step (by repeat (first | (with_reducible first | exact HB.out | apply below_alloc | apply pw_below_drewN | apply below_drew1) | exact HB.out)) hb); clear HB; have HO431 := n0_; have HB := n1_; clear n0_ n1_; (try clear hb); (try clear hb2); (try clear hk); (try clear hi); (try clear ho0); obtain ⟨Ao68, co68, eo68⟩ := Kd.R_slice HO431.out; subst eo68) | ((with_reducible refine gate_callee (f := 69) rfl ?_); refine goesL_ (some 69) rfl rfl Try.func69 (by kernel_rfl) rfl #[.slice Ao68 t429.length co68, .int .i64 (wrap64 (t423 - x15_17))] rfl (by (try simp only [List.map_toArray, List.map_cons, List.map_nil]); first | done | rfl | (simp only [List.length_drop, List.length_take]; rfl)) ?_; (with_reducible refine (sibylref01_Shl.calls kj17 _ _ t429 (wrap64 (t423 - x15_17)) t432 _ ?side1 ?side2 A21.out).mono ?_); (case side1 => repeat (first | exact (Kd.R_reads' HO431.out).2.2 | (with_reducible refine Kd.C_alloc ?_ _) | (with_reducible refine Kd.C_drewN ?_ _) | (with_reducible refine Kd.C_drew ?_))); (case side2 => exact (Kd.R_reads' HO431.out).2.1); rintro e w69 ⟨v433, rfl, ho0, hb⟩; refine ⟨_, rfl, ?_⟩; have n0_ := Aside0.mk (Kd.R_elder' (by (with_reducible repeat (first | apply Kd.R_alloc | apply Kd.R_drewN | apply Kd.R_drew)); exact HO431.out) (Kd.R_base ho0) hb); have n1_ := Aside0.mk (Kd.R_lower (Kd.R_new' ho0 (Kd.R_lt (by (with_reducible repeat (first | apply Kd.R_alloc | apply Kd.R_drewN | apply Kd.R_drew)); exact HO431.out))) (below_size (by repeat (first | (with_reducible first | exact HB.out | apply below_alloc | apply pw_below_drewN | apply below_drew1) | exact HB.out)))); have n2_ := Aside0.mk (below_step (by repeat (first | (with_reducible first | exact HB.out | apply below_alloc | apply pw_below_drewN | apply below_drew1) | exact HB.out)) hb); clear HO431; clear HB; have HO431 := n0_; have HO434 := n1_; have HB := n2_; clear n0_ n1_ n2_; (try clear hb); (try clear hb2); (try clear hk); (try clear hi); (try clear ho0)) | ((with_reducible refine gate_callee (f := 63) rfl ?_); refine goesL_ (some 71) rfl rfl Try.func63 (by kernel_rfl) rfl #[.int .u64 t426] rfl (by (try simp only [List.map_toArray, List.map_cons, List.map_nil]); first | done | rfl | (simp only [List.length_drop, List.length_take]; rfl)) ?_; (with_reducible refine (sibylref21_natural.calls t426 t435 _ A22.out).mono ?_); rintro e w70 ⟨v436, rfl, ho0, hb⟩; refine ⟨_, rfl, ?_⟩; have n0_ := Aside0.mk (Kd.R_elder' (by (with_reducible repeat (first | apply Kd.R_alloc | apply Kd.R_drewN | apply Kd.R_drew)); exact HO431.out) (Kd.R_base ho0) hb); have n1_ := Aside0.mk (Kd.R_elder' (by (with_reducible repeat (first | apply Kd.R_alloc | apply Kd.R_drewN | apply Kd.R_drew)); exact HO434.out) (Kd.R_base ho0) hb); have n2_ := Aside0.mk (Kd.R_lower (Kd.R_new' (Kd.R_new' ho0 (Kd.R_lt (by (with_reducible repeat (first | apply Kd.R_alloc | apply Kd.R_drewN | apply Kd.R_drew)); exact HO431.out))) (Kd.R_lt (by (with_reducible repeat (first | apply Kd.R_alloc | apply Kd.R_drewN | apply Kd.R_drew)); exact HO434.out))) (below_size (by repeat (first | (with_reducible first | exact HB.out | apply below_alloc | apply pw_below_drewN | apply below_drew1) | exact HB.out)))); have n3_ := Aside0.mk (below_step (by repeat (first | (with_reducible first | exact HB.out | apply below_alloc | apply pw_below_drewN | apply below_drew1) | exact HB.out)) hb); clear HO431; clear HO434; clear HB; have HO431 := n0_; have HO434 := n1_; have HO437 := n2_; have HB := n3_; clear n0_ n1_ n2_ n3_; (try clear hb); (try clear hb2); (try clear hk); (try clear hi); (try clear ho0); obtain ⟨Ao71, co71, eo71⟩ := Kd.R_slice HO437.out; subst eo71) | ((with_reducible refine gate_callee (f := 69) rfl ?_); refine goesL_ (some 75) rfl rfl Try.func69 (by kernel_rfl) rfl #[.slice Ao71 t435.length co71, .int .i64 (wrap64 (t427 - x15_17))] rfl (by (try simp only [List.map_toArray, List.map_cons, List.map_nil]); first | done | rfl | (simp only [List.length_drop, List.length_take]; rfl)) ?_; (with_reducible refine (sibylref01_Shl.calls kj17 _ _ t435 (wrap64 (t427 - x15_17)) t438 _ ?side1 ?side2 A23.out).mono ?_); (case side1 => repeat (first | exact (Kd.R_reads' HO437.out).2.2 | (with_reducible refine Kd.C_alloc ?_ _) | (with_reducible refine Kd.C_drewN ?_ _) | (with_reducible refine Kd.C_drew ?_))); (case side2 => exact (Kd.R_reads' HO437.out).2.1); rintro e w72 ⟨v439, rfl, ho0, hb⟩; refine ⟨_, rfl, ?_⟩; have n0_ := Aside0.mk (Kd.R_elder' (by (with_reducible repeat (first | apply Kd.R_alloc | apply Kd.R_drewN | apply Kd.R_drew)); exact HO431.out) (Kd.R_base ho0) hb); have n1_ := Aside0.mk (Kd.R_elder' (by (with_reducible repeat (first | apply Kd.R_alloc | apply Kd.R_drewN | apply Kd.R_drew)); exact HO434.out) (Kd.R_base ho0) hb); have n2_ := Aside0.mk (Kd.R_elder' (by (with_reducible repeat (first | apply Kd.R_alloc | apply Kd.R_drewN | apply Kd.R_drew)); exact HO437.out) (Kd.R_base ho0) hb); have n3_ := Aside0.mk (Kd.R_lower (Kd.R_new' (Kd.R_new' (Kd.R_new' ho0 (Kd.R_lt (by (with_reducible repeat (first | apply Kd.R_alloc | apply Kd.R_drewN | apply Kd.R_drew)); exact HO431.out))) (Kd.R_lt (by (with_reducible repeat (first | apply Kd.R_alloc | apply Kd.R_drewN | apply Kd.R_drew)); exact HO434.out))) (Kd.R_lt (by (with_reducible repeat (first | apply Kd.R_alloc | apply Kd.R_drewN | apply Kd.R_drew)); exact HO437.out))) (below_size (by repeat (first | (with_reducible first | exact HB.out | apply below_alloc | apply pw_below_drewN | apply below_drew1) | exact HB.out)))); have n4_ := Aside0.mk (below_step (by repeat (first | (with_reducible first | exact HB.out | apply below_alloc | apply pw_below_drewN | apply below_drew1) | exact HB.out)) hb); clear HO431; clear HO434; clear HO437; clear HB; have HO431 := n0_; have HO434 := n1_; have HO437 := n2_; have HO440 := n3_; have HB := n4_; clear n0_ n1_ n2_ n3_ n4_; (try clear hb); (try clear hb2); (try clear hk); (try clear hi); (try clear ho0); obtain ⟨Ao73, co73, eo73⟩ := Kd.R_slice HO434.out; subst eo73; obtain ⟨Ao74, co74, eo74⟩ := Kd.R_slice HO440.out; subst eo74) | ((with_reducible refine gate_callee (f := 72) rfl ?_); refine goesL_ (some 100) rfl rfl Try.func72 (by kernel_rfl) rfl #[.slice Ao73 t432.length co73, .slice Ao74 t438.length co74] rfl (by (try simp only [List.map_toArray, List.map_cons, List.map_nil]); first | done | rfl | (simp only [List.length_drop, List.length_take]; rfl)) ?_; (with_reducible refine (sibylref01_Plus.calls kj17 _ _ t432 _ _ t438 t450 _ ?side1 ?side2 ?side3 ?side4 A65.out).mono ?_); (case side1 => repeat (first | exact (Kd.R_reads' HO434.out).2.2 | (with_reducible refine Kd.C_alloc ?_ _) | (with_reducible refine Kd.C_drewN ?_ _) | (with_reducible refine Kd.C_drew ?_))); (case side2 => exact (Kd.R_reads' HO434.out).2.1); (case side3 => repeat (first | exact (Kd.R_reads' HO440.out).2.2 | (with_reducible refine Kd.C_alloc ?_ _) | (with_reducible refine Kd.C_drewN ?_ _) | (with_reducible refine Kd.C_drew ?_))); (case side4 => exact (Kd.R_reads' HO440.out).2.1); rintro e w75 ⟨v451, rfl, ho0, hb⟩; refine ⟨_, rfl, ?_⟩; have n0_ := Aside0.mk (Kd.R_elder' (by (with_reducible repeat (first | apply Kd.R_alloc | apply Kd.R_drewN | apply Kd.R_drew)); exact HO431.out) (Kd.R_base ho0) hb); have n1_ := Aside0.mk (Kd.R_elder' (by (with_reducible repeat (first | apply Kd.R_alloc | apply Kd.R_drewN | apply Kd.R_drew)); exact HO434.out) (Kd.R_base ho0) hb); have n2_ := Aside0.mk (Kd.R_elder' (by (with_reducible repeat (first | apply Kd.R_alloc | apply Kd.R_drewN | apply Kd.R_drew)); exact HO437.out) (Kd.R_base ho0) hb); have n3_ := Aside0.mk (Kd.R_elder' (by (with_reducible repeat (first | apply Kd.R_alloc | apply Kd.R_drewN | apply Kd.R_drew)); exact HO440.out) (Kd.R_base ho0) hb); have n4_ := Aside0.mk (Kd.R_lower (Kd.R_new' (Kd.R_new' (Kd.R_new' (Kd.R_new' ho0 (Kd.R_lt (by (with_reducible repeat (first | apply Kd.R_alloc | apply Kd.R_drewN | apply Kd.R_drew)); exact HO431.out))) (Kd.R_lt (by (with_reducible repeat (first | apply Kd.R_alloc | apply Kd.R_drewN | apply Kd.R_drew)); exact HO434.out))) (Kd.R_lt (by (with_reducible repeat (first | apply Kd.R_alloc | apply Kd.R_drewN | apply Kd.R_drew)); exact HO437.out))) (Kd.R_lt (by (with_reducible repeat (first | apply Kd.R_alloc | apply Kd.R_drewN | apply Kd.R_drew)); exact HO440.out))) (below_size (by repeat (first | (with_reducible first | exact HB.out | apply below_alloc | apply pw_below_drewN | apply below_drew1) | exact HB.out)))); have n5_ := Aside0.mk (below_step (by repeat (first | (with_reducible first | exact HB.out | apply below_alloc | apply pw_below_drewN | apply below_drew1) | exact HB.out)) hb); clear HO431; clear HO434; clear HO437; clear HO440; clear HB; have HO431 := n0_; have HO434 := n1_; have HO437 := n2_; have HO440 := n3_; have HO452 := n4_; have HB := n5_; clear n0_ n1_ n2_ n3_ n4_ n5_; (try clear hb); (try clear hb2); (try clear hk); (try clear hi); (try clear ho0); obtain ⟨Ao76, co76, eo76⟩ := Kd.R_slice HO452.out; subst eo76))
                          go_ret
                          exact ⟨by first | rfl | (simp [errW_none, errW_some] <;> rfl) | (simp [*, errW_none, errW_some] <;> rfl), by repeat (first | (with_reducible first | exact HB.out | apply below_alloc | apply pw_below_drewN | apply below_drew1) | exact HB.out)⟩
                        · rw [if_neg c66] at H
                          have c66b0 : ((t450.length : Int) == 0) = false := beq_eq_false_iff_ne.mpr c66
                          have c66b1 : ((t450.length : Int) != 0) = true := bne_iff_ne.mpr c66
                          have c66b2 : ¬ (t450 = []) := fun h_ => c66 (by rw [h_]; rfl)
                          replace H := Option.bind_eq_some_iff.mp H
                          obtain ⟨t453, A770, H⟩ := H
                          replace H : (some t453) = some r := H
                          have A77 := Aside0.mk A770
                          clear A770
                          obtain rfl := Option.some.inj H
                          go_wp2_with (first | ((with_reducible refine gate_callee (f := 63) rfl ?_); refine goesL_ (some 65) rfl rfl Try.func63 (by kernel_rfl) rfl #[.int .u64 t422] rfl (by (try simp only [List.map_toArray, List.map_cons, List.map_nil]); first | done | rfl | (simp only [List.length_drop, List.length_take]; rfl)) ?_; (with_reducible refine (sibylref21_natural.calls t422 t429 _ A20.out).mono ?_); rintro e w78 ⟨v430, rfl, ho0, hb⟩; refine ⟨_, rfl, ?_⟩; have n0_ := Aside0.mk (Kd.R_lower ho0 (below_size (by repeat (first | (with_reducible first | exact HB.out | apply below_alloc | apply pw_below_drewN | apply below_drew1) | exact HB.out)))); have n1_ := Aside0.mk (below_step (by repeat (first | (with_reducible first | exact HB.out | apply below_alloc | apply pw_below_drewN | apply below_drew1) | exact HB.out)) hb); clear HB; have HO431 := n0_; have HB := n1_; clear n0_ n1_; (try clear hb); (try clear hb2); (try clear hk); (try clear hi); (try clear ho0); obtain ⟨Ao79, co79, eo79⟩ := Kd.R_slice HO431.out; subst eo79) | ((with_reducible refine gate_callee (f := 69) rfl ?_); refine goesL_ (some 69) rfl rfl Try.func69 (by kernel_rfl) rfl #[.slice Ao79 t429.length co79, .int .i64 (wrap64 (t423 - x15_17))] rfl (by (try simp only [List.map_toArray, List.map_cons, List.map_nil]); first | done | rfl | (simp only [List.length_drop, List.length_take]; rfl)) ?_; (with_reducible refine (sibylref01_Shl.calls kj17 _ _ t429 (wrap64 (t423 - x15_17)) t432 _ ?side1 ?side2 A21.out).mono ?_); (case side1 => repeat (first | exact (Kd.R_reads' HO431.out).2.2 | (with_reducible refine Kd.C_alloc ?_ _) | (with_reducible refine Kd.C_drewN ?_ _) | (with_reducible refine Kd.C_drew ?_))); (case side2 => exact (Kd.R_reads' HO431.out).2.1); rintro e w80 ⟨v433, rfl, ho0, hb⟩; refine ⟨_, rfl, ?_⟩; have n0_ := Aside0.mk (Kd.R_elder' (by (with_reducible repeat (first | apply Kd.R_alloc | apply Kd.R_drewN | apply Kd.R_drew)); exact HO431.out) (Kd.R_base ho0) hb); have n1_ := Aside0.mk (Kd.R_lower (Kd.R_new' ho0 (Kd.R_lt (by (with_reducible repeat (first | apply Kd.R_alloc | apply Kd.R_drewN | apply Kd.R_drew)); exact HO431.out))) (below_size (by repeat (first | (with_reducible first | exact HB.out | apply below_alloc | apply pw_below_drewN | apply below_drew1) | exact HB.out)))); have n2_ := Aside0.mk (below_step (by repeat (first | (with_reducible first | exact HB.out | apply below_alloc | apply pw_below_drewN | apply below_drew1) | exact HB.out)) hb); clear HO431; clear HB; have HO431 := n0_; have HO434 := n1_; have HB := n2_; clear n0_ n1_ n2_; (try clear hb); (try clear hb2); (try clear hk); (try clear hi); (try clear ho0)) | ((with_reducible refine gate_callee (f := 63) rfl ?_); refine goesL_ (some 71) rfl rfl Try.func63 (by kernel_rfl) rfl #[.int .u64 t426] rfl (by (try simp only [List.map_toArray, List.map_cons, List.map_nil]); first | done | rfl | (simp only [List.length_drop, List.length_take]; rfl)) ?_; (with_reducible refine (sibylref21_natural.calls t426 t435 _ A22.out).mono ?_); rintro e w81 ⟨v436, rfl, ho0, hb⟩; refine ⟨_, rfl, ?_⟩; have n0_ := Aside0.mk (Kd.R_elder' (by (with_reducible repeat (first | apply Kd.R_alloc | apply Kd.R_drewN | apply Kd.R_drew)); exact HO431.out) (Kd.R_base ho0) hb); have n1_ := Aside0.mk (Kd.R_elder' (by (with_reducible repeat (first | apply Kd.R_alloc | apply Kd.R_drewN | apply Kd.R_drew)); exact HO434.out) (Kd.R_base ho0) hb); have n2_ := Aside0.mk (Kd.R_lower (Kd.R_new' (Kd.R_new' ho0 (Kd.R_lt (by (with_reducible repeat (first | apply Kd.R_alloc | apply Kd.R_drewN | apply Kd.R_drew)); exact HO431.out))) (Kd.R_lt (by (with_reducible repeat (first | apply Kd.R_alloc | apply Kd.R_drewN | apply Kd.R_drew)); exact HO434.out))) (below_size (by repeat (first | (with_reducible first | exact HB.out | apply below_alloc | apply pw_below_drewN | apply below_drew1) | exact HB.out)))); have n3_ := Aside0.mk (below_step (by repeat (first | (with_reducible first | exact HB.out | apply below_alloc | apply pw_below_drewN | apply below_drew1) | exact HB.out)) hb); clear HO431; clear HO434; clear HB; have HO431 := n0_; have HO434 := n1_; have HO437 := n2_; have HB := n3_; clear n0_ n1_ n2_ n3_; (try clear hb); (try clear hb2); (try clear hk); (try clear hi); (try clear ho0); obtain ⟨Ao82, co82, eo82⟩ := Kd.R_slice HO437.out; subst eo82) | ((with_reducible refine gate_callee (f := 69) rfl ?_); refine goesL_ (some 75) rfl rfl Try.func69 (by kernel_rfl) rfl #[.slice Ao82 t435.length co82, .int .i64 (wrap64 (t427 - x15_17))] rfl (by (try simp only [List.map_toArray, List.map_cons, List.map_nil]); first | done | rfl | (simp only [List.length_drop, List.length_take]; rfl)) ?_; (with_reducible refine (sibylref01_Shl.calls kj17 _ _ t435 (wrap64 (t427 - x15_17)) t438 _ ?side1 ?side2 A23.out).mono ?_); (case side1 => repeat (first | exact (Kd.R_reads' HO437.out).2.2 | (with_reducible refine Kd.C_alloc ?_ _) | (with_reducible refine Kd.C_drewN ?_ _) | (with_reducible refine Kd.C_drew ?_))); (case side2 => exact (Kd.R_reads' HO437.out).2.1); rintro e w83 ⟨v439, rfl, ho0, hb⟩; refine ⟨_, rfl, ?_⟩; have n0_ := Aside0.mk (Kd.R_elder' (by (with_reducible repeat (first | apply Kd.R_alloc | apply Kd.R_drewN | apply Kd.R_drew)); exact HO431.out) (Kd.R_base ho0) hb); have n1_ := Aside0.mk (Kd.R_elder' (by (with_reducible repeat (first | apply Kd.R_alloc | apply Kd.R_drewN | apply Kd.R_drew)); exact HO434.out) (Kd.R_base ho0) hb); have n2_ := Aside0.mk (Kd.R_elder' (by (with_reducible repeat (first | apply Kd.R_alloc | apply Kd.R_drewN | apply Kd.R_drew)); exact HO437.out) (Kd.R_base ho0) hb); have n3_ := Aside0.mk (Kd.R_lower (Kd.R_new' (Kd.R_new' (Kd.R_new' ho0 (Kd.R_lt (by (with_reducible repeat (first | apply Kd.R_alloc | apply Kd.R_drewN | apply Kd.R_drew)); exact HO431.out))) (Kd.R_lt (by (with_reducible repeat (first | apply Kd.R_alloc | apply Kd.R_drewN | apply Kd.R_drew)); exact HO434.out))) (Kd.R_lt (by (with_reducible repeat (first | apply Kd.R_alloc | apply Kd.R_drewN | apply Kd.R_drew)); exact HO437.out))) (below_size (by repeat (first | (with_reducible first | exact HB.out | apply below_alloc | apply pw_below_drewN | apply below_drew1) | exact HB.out)))); have n4_ := Aside0.mk (below_step (by repeat (first | (with_reducible first | exact HB.out | apply below_alloc | apply pw_below_drewN | apply below_drew1) | exact HB.out)) hb); clear HO431; clear HO434; clear HO437; clear HB; have HO431 := n0_; have HO434 := n1_; have HO437 := n2_; have HO440 := n3_; have HB := n4_; clear n0_ n1_ n2_ n3_ n4_; (try clear hb); (try clear hb2); (try clear hk); (try clear hi); (try clear ho0); obtain ⟨Ao84, co84, eo84⟩ := Kd.R_slice HO434.out; subst eo84; obtain ⟨Ao85, co85, eo85⟩ := Kd.R_slice HO440.out; subst eo85) | ((with_reducible refine gate_callee (f := 72) rfl ?_); refine goesL_ (some 100) rfl rfl Try.func72 (by kernel_rfl) rfl #[.slice Ao84 t432.length co84, .slice Ao85 t438.length co85] rfl (by (try simp only [List.map_toArray, List.map_cons, List.map_nil]); first | done | rfl | (simp only [List.length_drop, List.length_take]; rfl)) ?_; (with_reducible refine (sibylref01_Plus.calls kj17 _ _ t432 _ _ t438 t450 _ ?side1 ?side2 ?side3 ?side4 A65.out).mono ?_); (case side1 => repeat (first | exact (Kd.R_reads' HO434.out).2.2 | (with_reducible refine Kd.C_alloc ?_ _) | (with_reducible refine Kd.C_drewN ?_ _) | (with_reducible refine Kd.C_drew ?_))); (case side2 => exact (Kd.R_reads' HO434.out).2.1); (case side3 => repeat (first | exact (Kd.R_reads' HO440.out).2.2 | (with_reducible refine Kd.C_alloc ?_ _) | (with_reducible refine Kd.C_drewN ?_ _) | (with_reducible refine Kd.C_drew ?_))); (case side4 => exact (Kd.R_reads' HO440.out).2.1); rintro e w86 ⟨v451, rfl, ho0, hb⟩; refine ⟨_, rfl, ?_⟩; have n0_ := Aside0.mk (Kd.R_elder' (by (with_reducible repeat (first | apply Kd.R_alloc | apply Kd.R_drewN | apply Kd.R_drew)); exact HO431.out) (Kd.R_base ho0) hb); have n1_ := Aside0.mk (Kd.R_elder' (by (with_reducible repeat (first | apply Kd.R_alloc | apply Kd.R_drewN | apply Kd.R_drew)); exact HO434.out) (Kd.R_base ho0) hb); have n2_ := Aside0.mk (Kd.R_elder' (by (with_reducible repeat (first | apply Kd.R_alloc | apply Kd.R_drewN | apply Kd.R_drew)); exact HO437.out) (Kd.R_base ho0) hb); have n3_ := Aside0.mk (Kd.R_elder' (by (with_reducible repeat (first | apply Kd.R_alloc | apply Kd.R_drewN | apply Kd.R_drew)); exact HO440.out) (Kd.R_base ho0) hb); have n4_ := Aside0.mk (Kd.R_lower (Kd.R_new' (Kd.R_new' (Kd.R_new' (Kd.R_new' ho0 (Kd.R_lt (by (with_reducible repeat (first | apply Kd.R_alloc | apply Kd.R_drewN | apply Kd.R_drew)); exact HO431.out))) (Kd.R_lt (by (with_reducible repeat (first | apply Kd.R_alloc | apply Kd.R_drewN | apply Kd.R_drew)); exact HO434.out))) (Kd.R_lt (by (with_reducible repeat (first | apply Kd.R_alloc | apply Kd.R_drewN | apply Kd.R_drew)); exact HO437.out))) (Kd.R_lt (by (with_reducible repeat (first | apply Kd.R_alloc | apply Kd.R_drewN | apply Kd.R_drew)); exact HO440.out))) (below_size (by repeat (first | (with_reducible first | exact HB.out | apply below_alloc | apply pw_below_drewN | apply below_drew1) | exact HB.out)))); have n5_ := Aside0.mk (below_step (by repeat (first | (with_reducible first | exact HB.out | apply below_alloc | apply pw_below_drewN | apply below_drew1) | exact HB.out)) hb); clear HO431; clear HO434; clear HO437; clear HO440; clear HB; have HO431 := n0_; have HO434 := n1_; have HO437 := n2_; have HO440 := n3_; have HO452 := n4_; have HB := n5_; clear n0_ n1_ n2_ n3_ n4_ n5_; (try clear hb); (try clear hb2); (try clear hk); (try clear hi); (try clear ho0); obtain ⟨Ao87, co87, eo87⟩ := Kd.R_slice HO452.out; subst eo87) | ((with_reducible refine gate_callee (f := 61) rfl ?_); refine goesL_ (some 108) rfl rfl Try.func61 (by kernel_rfl) rfl #[.bool t421, .slice Ao87 t450.length co87, .int .i64 x15_17, .bool false] rfl (by (try simp only [List.map_toArray, List.map_cons, List.map_nil]); first | done | rfl | (simp only [List.length_drop, List.length_take]; rfl)) ?_; (with_reducible refine (sibylref21_round.calls kj17 t421 (fun k_ => some k_ = (.slice Ao87 t450.length co87 : Value).ownBlock) (.slice Ao87 t450.length co87) t450 x15_17 false t453 w _ ?side1 ?side2 A77.out).mono ?_); (case side1 => repeat (first | (with_reducible first | exact HB.out | apply below_alloc | apply pw_below_drewN | apply below_drew1) | exact HB.out)); (case side2 => exact Kd.R_tight rfl HO452.out); rintro e w88 ⟨rfl, hb, hkp⟩; refine ⟨_, rfl, ?_⟩; have n0_ := Aside0.mk (Kd.R_mono (ok' := fun k_ => some k_ ≠ (.slice Ao84 t432.length co84 : Value).ownBlock ∧ some k_ ≠ (.slice Ao82 t435.length co82 : Value).ownBlock ∧ some k_ ≠ (.slice Ao85 t438.length co85 : Value).ownBlock) (Kd.R_keptB (HO431.out) hkp (fun k_ hk_ hs_ => (hk_.2) hs_)) (fun k_ hk_ => ⟨hk_.1.1.1.1.2, hk_.1.1.1.2, hk_.1.1.2⟩)); have n1_ := Aside0.mk (Kd.R_mono (ok' := fun k_ => some k_ ≠ (.slice Ao79 t429.length co79 : Value).ownBlock ∧ some k_ ≠ (.slice Ao82 t435.length co82 : Value).ownBlock ∧ some k_ ≠ (.slice Ao85 t438.length co85 : Value).ownBlock) (Kd.R_keptB (HO434.out) hkp (fun k_ hk_ hs_ => (hk_.2) hs_)) (fun k_ hk_ => ⟨hk_.1.1.1.1.2, hk_.1.1.1.2, hk_.1.1.2⟩)); have n2_ := Aside0.mk (Kd.R_mono (ok' := fun k_ => some k_ ≠ (.slice Ao79 t429.length co79 : Value).ownBlock ∧ some k_ ≠ (.slice Ao84 t432.length co84 : Value).ownBlock ∧ some k_ ≠ (.slice Ao85 t438.length co85 : Value).ownBlock) (Kd.R_keptB (HO437.out) hkp (fun k_ hk_ hs_ => (hk_.2) hs_)) (fun k_ hk_ => ⟨hk_.1.1.1.1.2, hk_.1.1.1.2, hk_.1.1.2⟩)); have n3_ := Aside0.mk (Kd.R_mono (ok' := fun k_ => some k_ ≠ (.slice Ao79 t429.length co79 : Value).ownBlock ∧ some k_ ≠ (.slice Ao84 t432.length co84 : Value).ownBlock ∧ some k_ ≠ (.slice Ao82 t435.length co82 : Value).ownBlock) (Kd.R_keptB (HO440.out) hkp (fun k_ hk_ hs_ => (hk_.2) hs_)) (fun k_ hk_ => ⟨hk_.1.1.1.1.2, hk_.1.1.1.2, hk_.1.1.2⟩)); have n4_ := Aside0.mk (hb); clear HO431; clear HO434; clear HO437; clear HO440; clear HB; clear HO452; have HO431 := n0_; have HO434 := n1_; have HO437 := n2_; have HO440 := n3_; have HB := n4_; clear n0_ n1_ n2_ n3_ n4_; (try clear hb); (try clear hkp)))
                          go_ret
                          exact ⟨by first | rfl | (simp [errW_none, errW_some] <;> rfl) | (simp [*, errW_none, errW_some] <;> rfl), by repeat (first | (with_reducible first | exact HB.out | apply below_alloc | apply pw_below_drewN | apply below_drew1) | exact HB.out)⟩

end Go.Proofs.Ytjppanekddljbaa.Pr
