/- nats.Cmp and nats.Mul: each function's Lean function and that the Go code computes it. -/
import Derived.Test.YtjppanekddljbaaH1
namespace Go.Proofs.Ytjppanekddljbaa.Pr
open Go.RowKit Go.Proofs.Ytjppanekddljbaa.H Go.Proofs.YtjppanekddljbaaW.PrintWords Go.Proofs.YtjppanekddljbaaW.PrintLast Go.Proofs.YtjppanekddljbaaW.PrintMore
attribute [local go_sem] max2_int min2_int max_two min_two max_three min_three max_four min_four
set_option linter.unusedVariables false
set_option linter.unusedSimpArgs false

/-! ### nats_Cmp: function 97 -/
def nats_Cmp.l0 : Nat → List Int → List Int → Int → Option (Int)
  | 0, _, _, _ => none
  | k + 1, x0, x1, x5 => if x5 ≥ 0 then (if 0 ≤ x5 then (if x5 < (x0.length : Int) then (if x5 < (x1.length : Int) then (if (rd x0 x5) = (rd x1 x5) then (nats_Cmp.l0 k x0 x1 (wrap64 (x5 - 1))) else (if (rd x0 x5) < (rd x1 x5) then (some (-1)) else (some 1))) else (none)) else (none)) else (none)) else (some 0)
def nats_Cmp.g (k : Nat) (l0 : List Int) (l1 : List Int) : Option (Int) := if (l0.length : Int) = (l1.length : Int) then (nats_Cmp.l0 k l0 l1 (wrap64 ((l0.length : Int) - 1))) else (if (l0.length : Int) < (l1.length : Int) then (some (-1)) else (some 1))
theorem nats_Cmp.mono_l : ∀ k, (∀ y0 y1 y2, LeO (nats_Cmp.l0 k y0 y1 y2) (nats_Cmp.l0 (k + 1) y0 y1 y2))
  | 0 => fun _ _ _ r h => by simp [nats_Cmp.l0] at h
  | k + 1 => by
    have ih0 := nats_Cmp.mono_l k
    · intro y0 y1 y2
      unfold nats_Cmp.l0
      repeat' first
      | (with_reducible exact ih0 _ _ _)
      | (with_reducible exact LeO.refl _)
      | (with_reducible exact LeO.none _)
      | (with_reducible refine LeO.ite ?_ ?_)
      | (with_reducible refine LeO.bind ?_ (fun _ => ?_))
      | exact ih0 _ _ _
      | exact LeO.none _
      | refine LeO.ite ?_ ?_
      | refine LeO.bind ?_ (fun _ => ?_)
theorem nats_Cmp.mono_g : ∀ a0 a1 k, LeO (nats_Cmp.g k a0 a1) (nats_Cmp.g (k + 1) a0 a1) := by
  intro a0 a1 k
  have ih0 := nats_Cmp.mono_l k
  unfold nats_Cmp.g
  repeat' first
      | (with_reducible exact ih0 _ _ _)
      | (with_reducible exact LeO.refl _)
      | (with_reducible exact LeO.none _)
      | (with_reducible refine LeO.ite ?_ ?_)
      | (with_reducible refine LeO.bind ?_ (fun _ => ?_))
      | exact ih0 _ _ _
      | exact LeO.none _
      | refine LeO.ite ?_ ?_
      | refine LeO.bind ?_ (fun _ => ?_)
def nats_Cmp.f (k : Nat) (l0 : List Int) (l1 : List Int) := nats_Cmp.g k (cutL l0) (cutL l1)
theorem nats_Cmp.mono : ∀ a0 a1 k, LeO (nats_Cmp.f k a0 a1) (nats_Cmp.f (k + 1) a0 a1) := fun a0 a1 k => nats_Cmp.mono_g (cutL a0) (cutL a1) k
set_option maxHeartbeats 8000000 in
set_option maxRecDepth 100000 in
theorem nats_Cmp.calls (k : Nat) (A0 : Option Addr) (c0 : Nat) (l0 : List Int) (A1 : Option Addr) (c1 : Nat) (l1 : List Int) (r : Int) (w : World) (hr0 : Kd.C (Kd.int .u32) w A0 l0.length l0) (hc0 : l0.length ≤ c0) (hr1 : Kd.C (Kd.int .u32) w A1 l1.length l1) (hc1 : l1.length ≤ c1) (h : nats_Cmp.f k l0 l1 = some r) :
    Calls Try.prog 97 #[.slice A0 l0.length c0, .slice A1 l1.length c1] w fun e w' => e = .returned (.int .i64 r) ∧ Drawn0 w w' := by
  have HQ0 := Aside0.mk hr0
  have HQC0 := Aside0.mk hc0
  have HQ1 := Aside0.mk hr1
  have HQC1 := Aside0.mk hc1
  replace hr0 := C_cutL hr0
  replace hr1 := C_cutL hr1
  replace hc0 := Nat.le_trans (cutL_le l0) hc0
  replace hc1 := Nat.le_trans (cutL_le l1) hc1
  replace h : nats_Cmp.g k (cutL l0) (cutL l1) = some r := h
  obtain ⟨L0, hL0⟩ : ∃ L : List Int, L = l0 := ⟨_, rfl⟩
  obtain ⟨L1, hL1⟩ : ∃ L : List Int, L = l1 := ⟨_, rfl⟩
  subst hL0 hL1
  obtain ⟨q0, hq0⟩ : ∃ q : List Int, cutL L0 = q := ⟨_, rfl⟩
  obtain ⟨q1, hq1⟩ : ∃ q : List Int, cutL L1 = q := ⟨_, rfl⟩
  rw [hq0] at hr0 hc0 h
  rw [hq1] at hr1 hc1 h
  have N0 := Aside0.mk hq0
  have N1 := Aside0.mk hq1
  clear hq0 hq1
  have HR0 := Aside0.mk hr0
  have HC0 := Aside0.mk hc0
  clear hr0 hc0
  have HR1 := Aside0.mk hr1
  have HC1 := Aside0.mk hc1
  clear hr1 hc1
  have H : (if (q0.length : Int) = (q1.length : Int) then (nats_Cmp.l0 k q0 q1 (wrap64 ((q0.length : Int) - 1))) else (if (q0.length : Int) < (q1.length : Int) then (some (-1)) else (some 1))) = some r := h
  clear h
  by_cases c3 : (q0.length : Int) = (q1.length : Int)
  · rw [if_pos c3] at H
    have c3b0 : ((q0.length : Int) == (q1.length : Int)) = true := beq_iff_eq.mpr c3
    have c3b1 : ((q0.length : Int) != (q1.length : Int)) = false := bne_eq_false_iff_eq.mpr c3
    have c3b2 : (q0.length == q1.length) = true := by first | simpa using c3 | (simp at c3 ⊢; omega)
    clear c3
    have H' := Aside0.mk H
    clear H
    go_enter Try.func97, Try.ntmps97
    go_wp2_with (first | ((with_reducible refine gate_callee (f := 92) rfl ?_); refine goesL_ (some 7) rfl rfl Try.func92 (by kernel_rfl) rfl #[.slice A0 L0.length c0] rfl (by (try simp only [List.map_toArray, List.map_cons, List.map_nil]); first | done | rfl) ?_; (with_reducible refine (cut_reads A0 c0 L0 _ ?hq0 HQC0.out).mono ?_); (case hq0 => exact HQ0.out); rintro e w' ⟨rfl, ⟨nd, rfl⟩⟩; refine ⟨_, rfl, ?_⟩; rw [N0.out]) | ((with_reducible refine gate_callee (f := 92) rfl ?_); refine goesL_ (some 9) rfl rfl Try.func92 (by kernel_rfl) rfl #[.slice A1 L1.length c1] rfl (by (try simp only [List.map_toArray, List.map_cons, List.map_nil]); first | done | rfl) ?_; (with_reducible refine (cut_reads A1 c1 L1 _ ?hq1 HQC1.out).mono ?_); (case hq1 => exact HQ1.out); rintro e w' ⟨rfl, ⟨nd, rfl⟩⟩; refine ⟨_, rfl, ?_⟩; rw [N1.out]))
    repeat (go_quiet (fail); try go_wp2)
    go_loopg [5] k (fun kq v5 w' => ∃ (x5_1 : Int), v5 = .int .i64 x5_1 ∧ Aside0 (nats_Cmp.l0 kq q0 q1 x5_1 = some r) ∧ Aside0 (kq ≤ k) ∧ Drawn0 w w')
    case atStart => exact ⟨(wrap64 ((q0.length : Int) - 1)), (by first | rfl | (simp; done) | (simp [*]; done)), H', ⟨Nat.le_refl _⟩, by repeat (first | exact Drawn0.refl _ | apply Drawn0.step)⟩
    case round =>
      clear H'
      try clear c1
      try clear p2
      try clear c3
      try clear c3b0
      try clear c3b1
      try clear c3b2
      obtain ⟨x5_1, rfl, HA, HK1, ⟨m1, rfl⟩⟩ := hrel
      cases gk with
      | zero => exact absurd HA.out (by simp [nats_Cmp.l0])
      | succ k1 =>
        have H := HA.out
        clear HA
        simp only [nats_Cmp.l0] at H
        by_cases c4 : x5_1 ≥ 0
        · rw [if_pos c4] at H
          have c4b0 : decide (0 ≤ x5_1) = true := decide_eq_true c4
          clear c4
          by_cases c5 : 0 ≤ x5_1
          · rw [if_pos c5] at H
            have c5b0 : decide (0 ≤ x5_1) = true := decide_eq_true c5
            clear c5
            by_cases c6 : x5_1 < (q0.length : Int)
            · rw [if_pos c6] at H
              have c6b0 : decide (x5_1 < (q0.length : Int)) = true := decide_eq_true c6
              clear c6
              by_cases c7 : x5_1 < (q1.length : Int)
              · rw [if_pos c7] at H
                have c7b0 : decide (x5_1 < (q1.length : Int)) = true := decide_eq_true c7
                clear c7
                by_cases c8 : (rd q0 x5_1) = (rd q1 x5_1)
                · rw [if_pos c8] at H
                  have c8b0 : ((rd q0 x5_1) == (rd q1 x5_1)) = true := beq_iff_eq.mpr c8
                  have c8b1 : ((rd q0 x5_1) != (rd q1 x5_1)) = false := bne_eq_false_iff_eq.mpr c8
                  clear c8
                  have H' := Aside0.mk H
                  clear H
                  have p108 : 0 ≤ (x5_1 : Int) := of_decide_eq_true (by first | (with_reducible assumption) | assumption)
                  have q108 : x5_1 < (q0.length : Int) := of_decide_eq_true (by first | (with_reducible assumption) | assumption)
                  obtain ⟨ad108, e108, hx108_0⟩ := Kd.at_int HR0.out x5_1 p108 q108
                  cases e108
                  replace p108 := eq_true p108
                  replace q108 := eq_true q108
                  have p109 : 0 ≤ (x5_1 : Int) := of_decide_eq_true (by first | (with_reducible assumption) | assumption)
                  have q109 : x5_1 < (q1.length : Int) := of_decide_eq_true (by first | (with_reducible assumption) | assumption)
                  obtain ⟨ad109, e109, hx109_0⟩ := Kd.at_int HR1.out x5_1 p109 q109
                  cases e109
                  replace p109 := eq_true p109
                  replace q109 := eq_true q109
                  go_wp2
                  repeat (go_quiet (fail); try go_wp2)
                  go_roundg k1
                  case measure => have := HK1.out; omega
                  case rel => exact ⟨(wrap64 (x5_1 - 1)), (by first | rfl | (simp; done) | (simp [*]; done)), H', ⟨by have := HK1.out; omega⟩, by repeat (first | exact Drawn0.refl _ | apply Drawn0.step)⟩
                · rw [if_neg c8] at H
                  have c8b0 : ((rd q0 x5_1) == (rd q1 x5_1)) = false := beq_eq_false_iff_ne.mpr c8
                  have c8b1 : ((rd q0 x5_1) != (rd q1 x5_1)) = true := bne_iff_ne.mpr c8
                  by_cases c9 : (rd q0 x5_1) < (rd q1 x5_1)
                  · rw [if_pos c9] at H
                    have c9b0 : decide ((rd q0 x5_1) < (rd q1 x5_1)) = true := decide_eq_true c9
                    clear c9
                    obtain rfl := Option.some.inj H
                    have p108 : 0 ≤ (x5_1 : Int) := of_decide_eq_true (by first | (with_reducible assumption) | assumption)
                    have q108 : x5_1 < (q0.length : Int) := of_decide_eq_true (by first | (with_reducible assumption) | assumption)
                    obtain ⟨ad108, e108, hx108_0⟩ := Kd.at_int HR0.out x5_1 p108 q108
                    cases e108
                    replace p108 := eq_true p108
                    replace q108 := eq_true q108
                    have p109 : 0 ≤ (x5_1 : Int) := of_decide_eq_true (by first | (with_reducible assumption) | assumption)
                    have q109 : x5_1 < (q1.length : Int) := of_decide_eq_true (by first | (with_reducible assumption) | assumption)
                    obtain ⟨ad109, e109, hx109_0⟩ := Kd.at_int HR1.out x5_1 p109 q109
                    cases e109
                    replace p109 := eq_true p109
                    replace q109 := eq_true q109
                    have p110 : 0 ≤ (x5_1 : Int) := of_decide_eq_true (by first | (with_reducible assumption) | assumption)
                    have q110 : x5_1 < (q0.length : Int) := of_decide_eq_true (by first | (with_reducible assumption) | assumption)
                    obtain ⟨ad110, e110, hx110_0⟩ := Kd.at_int HR0.out x5_1 p110 q110
                    obtain rfl : ad108 = ad110 := (by injection e110)
                    replace p110 := eq_true p110
                    replace q110 := eq_true q110
                    have p111 : 0 ≤ (x5_1 : Int) := of_decide_eq_true (by first | (with_reducible assumption) | assumption)
                    have q111 : x5_1 < (q1.length : Int) := of_decide_eq_true (by first | (with_reducible assumption) | assumption)
                    obtain ⟨ad111, e111, hx111_0⟩ := Kd.at_int HR1.out x5_1 p111 q111
                    obtain rfl : ad109 = ad111 := (by injection e111)
                    replace p111 := eq_true p111
                    replace q111 := eq_true q111
                    go_wp2
                    repeat (go_quiet (fail); try go_wp2)
                    go_ret
                    exact ⟨by first | rfl | (simp; done) | (simp [*]; done), by repeat (first | exact Drawn0.refl _ | apply Drawn0.step)⟩
                  · rw [if_neg c9] at H
                    have c9b0 : decide ((rd q0 x5_1) < (rd q1 x5_1)) = false := decide_eq_false c9
                    clear c9
                    obtain rfl := Option.some.inj H
                    have p108 : 0 ≤ (x5_1 : Int) := of_decide_eq_true (by first | (with_reducible assumption) | assumption)
                    have q108 : x5_1 < (q0.length : Int) := of_decide_eq_true (by first | (with_reducible assumption) | assumption)
                    obtain ⟨ad108, e108, hx108_0⟩ := Kd.at_int HR0.out x5_1 p108 q108
                    cases e108
                    replace p108 := eq_true p108
                    replace q108 := eq_true q108
                    have p109 : 0 ≤ (x5_1 : Int) := of_decide_eq_true (by first | (with_reducible assumption) | assumption)
                    have q109 : x5_1 < (q1.length : Int) := of_decide_eq_true (by first | (with_reducible assumption) | assumption)
                    obtain ⟨ad109, e109, hx109_0⟩ := Kd.at_int HR1.out x5_1 p109 q109
                    cases e109
                    replace p109 := eq_true p109
                    replace q109 := eq_true q109
                    have p110 : 0 ≤ (x5_1 : Int) := of_decide_eq_true (by first | (with_reducible assumption) | assumption)
                    have q110 : x5_1 < (q0.length : Int) := of_decide_eq_true (by first | (with_reducible assumption) | assumption)
                    obtain ⟨ad110, e110, hx110_0⟩ := Kd.at_int HR0.out x5_1 p110 q110
                    obtain rfl : ad108 = ad110 := (by injection e110)
                    replace p110 := eq_true p110
                    replace q110 := eq_true q110
                    have p111 : 0 ≤ (x5_1 : Int) := of_decide_eq_true (by first | (with_reducible assumption) | assumption)
                    have q111 : x5_1 < (q1.length : Int) := of_decide_eq_true (by first | (with_reducible assumption) | assumption)
                    obtain ⟨ad111, e111, hx111_0⟩ := Kd.at_int HR1.out x5_1 p111 q111
                    obtain rfl : ad109 = ad111 := (by injection e111)
                    replace p111 := eq_true p111
                    replace q111 := eq_true q111
                    go_wp2
                    repeat (go_quiet (fail); try go_wp2)
                    go_ret
                    exact ⟨by first | rfl | (simp; done) | (simp [*]; done), by repeat (first | exact Drawn0.refl _ | apply Drawn0.step)⟩
              · rw [if_neg c7] at H
                exact absurd H (by simp)
            · rw [if_neg c6] at H
              exact absurd H (by simp)
          · rw [if_neg c5] at H
            exact absurd H (by simp)
        · rw [if_neg c4] at H
          have c4b0 : decide (0 ≤ x5_1) = false := decide_eq_false c4
          clear c4
          obtain rfl := Option.some.inj H
          go_wp2
          repeat (go_quiet (fail); try go_wp2)
          go_ret
          exact ⟨by first | rfl | (simp; done) | (simp [*]; done), by repeat (first | exact Drawn0.refl _ | apply Drawn0.step)⟩
  · rw [if_neg c3] at H
    have c3b0 : ((q0.length : Int) == (q1.length : Int)) = false := beq_eq_false_iff_ne.mpr c3
    have c3b1 : ((q0.length : Int) != (q1.length : Int)) = true := bne_iff_ne.mpr c3
    have c3b2 : (q0.length == q1.length) = false := by first | simpa using c3 | (simp at c3 ⊢; omega)
    by_cases c10 : (q0.length : Int) < (q1.length : Int)
    · rw [if_pos c10] at H
      have c10b0 : decide ((q0.length : Int) < (q1.length : Int)) = true := decide_eq_true c10
      have c10b1 : decide (q0.length < q1.length) = true := decide_eq_true (Int.ofNat_lt.mp c10)
      clear c10
      obtain rfl := Option.some.inj H
      go_enter Try.func97, Try.ntmps97
      go_wp2_with (first | ((with_reducible refine gate_callee (f := 92) rfl ?_); refine goesL_ (some 7) rfl rfl Try.func92 (by kernel_rfl) rfl #[.slice A0 L0.length c0] rfl (by (try simp only [List.map_toArray, List.map_cons, List.map_nil]); first | done | rfl) ?_; (with_reducible refine (cut_reads A0 c0 L0 _ ?hq0 HQC0.out).mono ?_); (case hq0 => exact HQ0.out); rintro e w' ⟨rfl, ⟨nd, rfl⟩⟩; refine ⟨_, rfl, ?_⟩; rw [N0.out]) | ((with_reducible refine gate_callee (f := 92) rfl ?_); refine goesL_ (some 9) rfl rfl Try.func92 (by kernel_rfl) rfl #[.slice A1 L1.length c1] rfl (by (try simp only [List.map_toArray, List.map_cons, List.map_nil]); first | done | rfl) ?_; (with_reducible refine (cut_reads A1 c1 L1 _ ?hq1 HQC1.out).mono ?_); (case hq1 => exact HQ1.out); rintro e w' ⟨rfl, ⟨nd, rfl⟩⟩; refine ⟨_, rfl, ?_⟩; rw [N1.out]))
      repeat (go_quiet (fail); try go_wp2)
      go_ret
      exact ⟨by first | rfl | (simp; done) | (simp [*]; done), by repeat (first | exact Drawn0.refl _ | apply Drawn0.step)⟩
    · rw [if_neg c10] at H
      have c10b0 : decide ((q0.length : Int) < (q1.length : Int)) = false := decide_eq_false c10
      have c10b1 : decide (q0.length < q1.length) = false := decide_eq_false (fun h => c10 (Int.ofNat_lt.mpr h))
      clear c10
      obtain rfl := Option.some.inj H
      go_enter Try.func97, Try.ntmps97
      go_wp2_with (first | ((with_reducible refine gate_callee (f := 92) rfl ?_); refine goesL_ (some 7) rfl rfl Try.func92 (by kernel_rfl) rfl #[.slice A0 L0.length c0] rfl (by (try simp only [List.map_toArray, List.map_cons, List.map_nil]); first | done | rfl) ?_; (with_reducible refine (cut_reads A0 c0 L0 _ ?hq0 HQC0.out).mono ?_); (case hq0 => exact HQ0.out); rintro e w' ⟨rfl, ⟨nd, rfl⟩⟩; refine ⟨_, rfl, ?_⟩; rw [N0.out]) | ((with_reducible refine gate_callee (f := 92) rfl ?_); refine goesL_ (some 9) rfl rfl Try.func92 (by kernel_rfl) rfl #[.slice A1 L1.length c1] rfl (by (try simp only [List.map_toArray, List.map_cons, List.map_nil]); first | done | rfl) ?_; (with_reducible refine (cut_reads A1 c1 L1 _ ?hq1 HQC1.out).mono ?_); (case hq1 => exact HQ1.out); rintro e w' ⟨rfl, ⟨nd, rfl⟩⟩; refine ⟨_, rfl, ?_⟩; rw [N1.out]))
      repeat (go_quiet (fail); try go_wp2)
      go_ret
      exact ⟨by first | rfl | (simp; done) | (simp [*]; done), by repeat (first | exact Drawn0.refl _ | apply Drawn0.step)⟩

/-! ### nats_Mul: function 67 -/
mutual
def nats_Mul.l0 : Nat → List Int → List Int → List Int → Int → Int → Option (List Int)
  | 0, _, _, _, _, _ => none
  | k + 1, x1, x5, x22, x23, x24 => if x24 < x23 then (if 0 ≤ x24 then (if x24 < (x22.length : Int) then (nats_Mul.l1 k x1 x5 x24 (rd x22 x24) 0 x22 x23 x24 x1 (x1.length : Int) 0) else (none)) else (none)) else ((nats_cut.f k x5).bind fun t290 => (some t290))
def nats_Mul.l1 : Nat → List Int → List Int → Int → Int → Int → List Int → Int → Int → List Int → Int → Int → Option (List Int)
  | 0, _, _, _, _, _, _, _, _, _, _, _ => none
  | k + 1, x1, x5, x6, x7, x8, x22, x23, x24, x29, x30, x31 => if x31 < x30 then (if 0 ≤ x31 then (if x31 < (x29.length : Int) then (if 0 ≤ (wrap64 (x6 + x31)) then (if (wrap64 (x6 + x31)) < (x5.length : Int) then (nats_Mul.l1 k x1 (x5.set ((wrap64 (x6 + x31)) : Int).toNat ((IntKind.u64.wrap ((IntKind.u64.wrap ((IntKind.u64.wrap ((IntKind.u64.wrap (x7)) * (IntKind.u64.wrap (rd x29 x31)))) + (IntKind.u64.wrap (rd x5 (wrap64 (x6 + x31)))))) + x8)) % 4294967296)) x6 x7 ((IntKind.u64.wrap ((IntKind.u64.wrap ((IntKind.u64.wrap ((IntKind.u64.wrap (x7)) * (IntKind.u64.wrap (rd x29 x31)))) + (IntKind.u64.wrap (rd x5 (wrap64 (x6 + x31)))))) + x8)) / 4294967296) x22 x23 x24 x29 x30 (wrap64 (x31 + 1))) else (none)) else (none)) else (none)) else (none)) else (if 0 ≤ (wrap64 (x6 + (x1.length : Int))) then (if (wrap64 (x6 + (x1.length : Int))) < (x5.length : Int) then (nats_Mul.l0 k x1 (x5.set ((wrap64 (x6 + (x1.length : Int))) : Int).toNat ((x8) % 4294967296)) x22 x23 (wrap64 (x24 + 1))) else (none)) else (none))
end
def nats_Mul.g (k : Nat) (l0 : List Int) (l1 : List Int) : Option (List Int) := if 0 ≤ (wrap64 ((l0.length : Int) + (l1.length : Int))) then (if (wrap64 ((l0.length : Int) + (l1.length : Int)) : Int).toNat ≤ 70368744177664 then (nats_Mul.l0 k l1 (List.replicate (wrap64 ((l0.length : Int) + (l1.length : Int)) : Int).toNat 0) l0 (l0.length : Int) 0) else (none)) else (none)
theorem nats_Mul.mono_l : ∀ k, (∀ y0 y1 y2 y3 y4, LeO (nats_Mul.l0 k y0 y1 y2 y3 y4) (nats_Mul.l0 (k + 1) y0 y1 y2 y3 y4)) ∧ (∀ y0 y1 y2 y3 y4 y5 y6 y7 y8 y9 y10, LeO (nats_Mul.l1 k y0 y1 y2 y3 y4 y5 y6 y7 y8 y9 y10) (nats_Mul.l1 (k + 1) y0 y1 y2 y3 y4 y5 y6 y7 y8 y9 y10))
  | 0 => ⟨fun _ _ _ _ _ r h => by simp [nats_Mul.l0] at h, fun _ _ _ _ _ _ _ _ _ _ _ r h => by simp [nats_Mul.l1] at h⟩
  | k + 1 => by
    obtain ⟨ih0, ih1⟩ := nats_Mul.mono_l k
    refine ⟨?_, ?_⟩
    · intro y0 y1 y2 y3 y4
      unfold nats_Mul.l0
      repeat' first
      | (with_reducible exact ih0 _ _ _ _ _)
      | (with_reducible exact ih1 _ _ _ _ _ _ _ _ _ _ _)
      | (with_reducible exact nats_cut.mono _ _)
      | (with_reducible exact LeO.refl _)
      | (with_reducible exact LeO.none _)
      | (with_reducible refine LeO.ite ?_ ?_)
      | (with_reducible refine LeO.bind ?_ (fun _ => ?_))
      | exact ih0 _ _ _ _ _
      | exact ih1 _ _ _ _ _ _ _ _ _ _ _
      | exact nats_cut.mono _ _
      | exact LeO.none _
      | refine LeO.ite ?_ ?_
      | refine LeO.bind ?_ (fun _ => ?_)
    · intro y0 y1 y2 y3 y4 y5 y6 y7 y8 y9 y10
      unfold nats_Mul.l1
      repeat' first
      | (with_reducible exact ih0 _ _ _ _ _)
      | (with_reducible exact ih1 _ _ _ _ _ _ _ _ _ _ _)
      | (with_reducible exact nats_cut.mono _ _)
      | (with_reducible exact LeO.refl _)
      | (with_reducible exact LeO.none _)
      | (with_reducible refine LeO.ite ?_ ?_)
      | (with_reducible refine LeO.bind ?_ (fun _ => ?_))
      | exact ih0 _ _ _ _ _
      | exact ih1 _ _ _ _ _ _ _ _ _ _ _
      | exact nats_cut.mono _ _
      | exact LeO.none _
      | refine LeO.ite ?_ ?_
      | refine LeO.bind ?_ (fun _ => ?_)
theorem nats_Mul.mono_g : ∀ a0 a1 k, LeO (nats_Mul.g k a0 a1) (nats_Mul.g (k + 1) a0 a1) := by
  intro a0 a1 k
  obtain ⟨ih0, ih1⟩ := nats_Mul.mono_l k
  unfold nats_Mul.g
  repeat' first
      | (with_reducible exact ih0 _ _ _ _ _)
      | (with_reducible exact ih1 _ _ _ _ _ _ _ _ _ _ _)
      | (with_reducible exact nats_cut.mono _ _)
      | (with_reducible exact LeO.refl _)
      | (with_reducible exact LeO.none _)
      | (with_reducible refine LeO.ite ?_ ?_)
      | (with_reducible refine LeO.bind ?_ (fun _ => ?_))
      | exact ih0 _ _ _ _ _
      | exact ih1 _ _ _ _ _ _ _ _ _ _ _
      | exact nats_cut.mono _ _
      | exact LeO.none _
      | refine LeO.ite ?_ ?_
      | refine LeO.bind ?_ (fun _ => ?_)
def nats_Mul.f (k : Nat) (l0 : List Int) (l1 : List Int) := nats_Mul.g k (cutL l0) (cutL l1)
theorem nats_Mul.mono : ∀ a0 a1 k, LeO (nats_Mul.f k a0 a1) (nats_Mul.f (k + 1) a0 a1) := fun a0 a1 k => nats_Mul.mono_g (cutL a0) (cutL a1) k
set_option maxHeartbeats 8000000 in
set_option maxRecDepth 100000 in
theorem nats_Mul.calls (k : Nat) (A0 : Option Addr) (c0 : Nat) (l0 : List Int) (A1 : Option Addr) (c1 : Nat) (l1 : List Int) (r : List Int) (w : World) (hr0 : Kd.C (Kd.int .u32) w A0 l0.length l0) (hc0 : l0.length ≤ c0) (hr1 : Kd.C (Kd.int .u32) w A1 l1.length l1) (hc1 : l1.length ≤ c1) (h : nats_Mul.f k l0 l1 = some r) :
    Calls Try.prog 67 #[.slice A0 l0.length c0, .slice A1 l1.length c1] w fun e w' => ∃ v0_ : Value, e = .returned (v0_) ∧ Kd.R (Kd.int .u32) 99 w' w.heap.size (fun _ => True) v0_ r ∧ Below w.heap.size w w' := by
  have HQ0 := Aside0.mk hr0
  have HQC0 := Aside0.mk hc0
  have HQ1 := Aside0.mk hr1
  have HQC1 := Aside0.mk hc1
  replace hr0 := C_cutL hr0
  replace hr1 := C_cutL hr1
  replace hc0 := Nat.le_trans (cutL_le l0) hc0
  replace hc1 := Nat.le_trans (cutL_le l1) hc1
  replace h : nats_Mul.g k (cutL l0) (cutL l1) = some r := h
  obtain ⟨L0, hL0⟩ : ∃ L : List Int, L = l0 := ⟨_, rfl⟩
  obtain ⟨L1, hL1⟩ : ∃ L : List Int, L = l1 := ⟨_, rfl⟩
  subst hL0 hL1
  obtain ⟨q0, hq0⟩ : ∃ q : List Int, cutL L0 = q := ⟨_, rfl⟩
  obtain ⟨q1, hq1⟩ : ∃ q : List Int, cutL L1 = q := ⟨_, rfl⟩
  rw [hq0] at hr0 hc0 h
  rw [hq1] at hr1 hc1 h
  have N0 := Aside0.mk hq0
  have N1 := Aside0.mk hq1
  clear hq0 hq1
  have HR0 := Aside0.mk hr0
  have HC0 := Aside0.mk hc0
  clear hr0 hc0
  have HR1 := Aside0.mk hr1
  have HC1 := Aside0.mk hc1
  clear hr1 hc1
  have HB := Aside0.mk (Below.refl w.heap.size w)
  have H : (if 0 ≤ (wrap64 ((q0.length : Int) + (q1.length : Int))) then (if (wrap64 ((q0.length : Int) + (q1.length : Int)) : Int).toNat ≤ 70368744177664 then (nats_Mul.l0 k q1 (List.replicate (wrap64 ((q0.length : Int) + (q1.length : Int)) : Int).toNat 0) q0 (q0.length : Int) 0) else (none)) else (none)) = some r := h
  clear h
  obtain ⟨ji3, hji3⟩ : ∃ j_ : Int, (wrap64 ((q0.length : Int) + (q1.length : Int))) = j_ := ⟨_, rfl⟩
  replace H : (if 0 ≤ (ji3) then (if (ji3 : Int).toNat ≤ 70368744177664 then (nats_Mul.l0 k q1 (List.replicate (ji3 : Int).toNat 0) q0 (q0.length : Int) 0) else (none)) else (none)) = some r := by first | (rw [hji3] at H; exact H) | (simp only [hji3] at H ⊢; exact H)
  have hji3w : (IntKind.i64.wrap ((q0.length : Int) + (q1.length : Int))) = ji3 := (i64_w _).trans hji3
  by_cases c4 : 0 ≤ (ji3)
  · rw [if_pos c4] at H
    have c4b0 := eq_true c4
    have c4b1 : decide (0 ≤ (ji3)) = true := decide_eq_true c4
    clear c4
    by_cases c5 : (ji3 : Int).toNat ≤ 70368744177664
    · rw [if_pos c5] at H
      have c5b0 := eq_true c5
      have c5b1 : decide ((ji3 : Int).toNat ≤ 70368744177664) = true := decide_eq_true c5
      clear c5
      obtain ⟨y287, hy287⟩ : ∃ y_ : List Int, y_ = (List.replicate (ji3 : Int).toNat 0) := ⟨_, rfl⟩
      replace H : (nats_Mul.l0 k q1 y287 q0 (q0.length : Int) 0) = some r := by first | (rw [hy287]; with_reducible exact H) | (have H2_ := (Option.bind_some _ _).symm.trans H; rw [hy287]; with_reducible exact H2_) | (have H2_ := (Option.bind_some _ _).symm.trans H; with_reducible exact H2_) | with_reducible exact H | (rw [hy287]; exact H) | exact H
      have Ny287 := Aside0.mk hy287
      clear hy287
      have H' := Aside0.mk H
      clear H
      go_enter Try.func67, Try.ntmps67
      go_wp2_with (first | ((with_reducible refine gate_callee (f := 92) rfl ?_); refine goesL_ (some 13) rfl rfl Try.func92 (by kernel_rfl) rfl #[.slice A0 L0.length c0] rfl (by (try simp only [List.map_toArray, List.map_cons, List.map_nil]); first | done | rfl) ?_; (with_reducible refine (cut_reads A0 c0 L0 _ ?hq0 HQC0.out).mono ?_); (case hq0 => exact HQ0.out); rintro e w' ⟨rfl, ⟨nd, rfl⟩⟩; refine ⟨_, rfl, ?_⟩; rw [N0.out]) | ((with_reducible refine gate_callee (f := 92) rfl ?_); refine goesL_ (some 15) rfl rfl Try.func92 (by kernel_rfl) rfl #[.slice A1 L1.length c1] rfl (by (try simp only [List.map_toArray, List.map_cons, List.map_nil]); first | done | rfl) ?_; (with_reducible refine (cut_reads A1 c1 L1 _ ?hq1 HQC1.out).mono ?_); (case hq1 => exact HQ1.out); rintro e w' ⟨rfl, ⟨nd, rfl⟩⟩; refine ⟨_, rfl, ?_⟩; rw [N1.out]) | ((with_reducible refine gate_dst (N := 21) rfl ?_); refine Kd.R_make (Kd.int .u32) _ 99 rfl (N := 21) rfl 34 _ _ rfl ji3 rfl rfl Try.underlying34 (.int .u32 0) 4 info99 rfl (by decide) (by omega) 0 (ok := fun _ => True) (okp := fun _ => True) rfl (fun _ hk => hk) trivial (of_decide_eq_true (by first | (with_reducible assumption) | assumption)) (Nat.le_trans (Nat.mul_le_mul_right _ (of_decide_eq_true (by first | (with_reducible assumption) | assumption) : ji3.toNat ≤ 70368744177664)) (by omega)) (Below.refl _ _) (Nat.le_refl _) ?_; intro v288 w6 ho7 hb hg_ hnew_; clear hg_ hnew_; (first | rw [← Ny287.out] at ho7 | (simp only [Int.reduceToNat] at ho7; rw [← Ny287.out] at ho7)); have n0_ := Aside0.mk (Kd.R_lower ho7 (below_size (by repeat (first | (with_reducible first | exact HB.out | apply below_alloc | apply pw_below_drewN | apply below_drew1) | exact HB.out)))); have n1_ := Aside0.mk (below_step (by repeat (first | (with_reducible first | exact HB.out | apply below_alloc | apply pw_below_drewN | apply below_drew1) | exact HB.out)) hb); clear HB; have HO289 := n0_; have HB := n1_; clear n0_ n1_; clear hb ho7))
      go_loopg [24] k (fun kq v24 w' => ∃ (x5_1 : List Int) (x24_1 : Int), v24 = .int .i64 x24_1 ∧ Aside0 (nats_Mul.l0 kq q1 x5_1 q0 (q0.length : Int) x24_1 = some r) ∧ Aside0 (kq ≤ k) ∧ Aside0 (Kd.R (Kd.int .u32) 99 w' w.heap.size (fun _ => True) v288 x5_1) ∧ Aside0 (Below w.heap.size w w'))
      case atStart => exact ⟨(y287), (0), (by first | rfl | (simp; done) | (simp [*]; done)), H', ⟨Nat.le_refl _⟩, ⟨by (with_reducible repeat (first | apply Kd.R_alloc | apply Kd.R_drewN | apply Kd.R_drew)); exact HO289.out⟩, ⟨by repeat (first | (with_reducible first | exact HB.out | apply below_alloc | apply pw_below_drewN | apply below_drew1) | exact HB.out)⟩⟩
      case round =>
        clear H'
        try clear c1
        try clear p2
        try clear c4
        try clear c4b0
        try clear c4b1
        try clear c5
        try clear c5b0
        try clear c5b1
        try clear c6
        try clear p6
        obtain ⟨x5_1, x24_1, rfl, HA, HK1, HO_5, HB⟩ := hrel
        cases gk with
        | zero => exact absurd HA.out (by simp [nats_Mul.l0])
        | succ k1 =>
          have H := HA.out
          clear HA
          simp only [nats_Mul.l0] at H
          by_cases c8 : x24_1 < (q0.length : Int)
          · rw [if_pos c8] at H
            have c8b0 : decide (x24_1 < (q0.length : Int)) = true := decide_eq_true c8
            clear c8
            by_cases c9 : 0 ≤ x24_1
            · rw [if_pos c9] at H
              have c9b0 : decide (0 ≤ x24_1) = true := decide_eq_true c9
              clear c9
              by_cases c10 : x24_1 < (q0.length : Int)
              · rw [if_pos c10] at H
                have c10b0 : decide (x24_1 < (q0.length : Int)) = true := decide_eq_true c10
                clear c10
                have H' := Aside0.mk H
                clear H
                have p293 : 0 ≤ (x24_1 : Int) := of_decide_eq_true (by first | (with_reducible assumption) | assumption)
                have q293 : x24_1 < (q0.length : Int) := of_decide_eq_true (by first | (with_reducible assumption) | assumption)
                obtain ⟨ad293, e293, hx293_0⟩ := Kd.at_int HR0.out x24_1 p293 q293
                cases e293
                replace hx293_0 := (HB.out.cell (World.block_lt_of_cell? w _ hx293_0)).trans hx293_0
                replace p293 := eq_true p293
                replace q293 := eq_true q293
                go_wp2
                go_loopg [8, 31] k1 (fun kq v8 v31 w' => ∃ (x5_2 : List Int) (x8_2 : Int) (x31_2 : Int), v8 = .int .u64 x8_2 ∧ v31 = .int .i64 x31_2 ∧ Aside0 (nats_Mul.l1 kq q1 x5_2 x24_1 (rd q0 x24_1) x8_2 q0 (q0.length : Int) x24_1 q1 (q1.length : Int) x31_2 = some r) ∧ Aside0 (kq ≤ k1) ∧ Aside0 (Kd.R (Kd.int .u32) 99 w' w.heap.size (fun _ => True) v288 x5_2) ∧ Aside0 (Below w.heap.size w w'))
                case atStart => exact ⟨(x5_1), (0), (0), (by first | rfl | (simp; done) | (simp [*]; done)), (by first | rfl | (simp; done) | (simp [*]; done)), H', ⟨Nat.le_refl _⟩, ⟨by (with_reducible repeat (first | apply Kd.R_alloc | apply Kd.R_drewN | apply Kd.R_drew)); exact HO_5.out⟩, ⟨by repeat (first | (with_reducible first | exact HB.out | apply below_alloc | apply pw_below_drewN | apply below_drew1) | exact HB.out)⟩⟩
                case round =>
                  clear H'
                  try clear c1
                  try clear p2
                  try clear q2
                  try clear hx2
                  try clear c4
                  try clear c4b0
                  try clear c4b1
                  try clear c5
                  try clear c5b0
                  try clear c5b1
                  try clear c6
                  try clear p6
                  try clear c8
                  try clear c8b0
                  try clear c9
                  try clear c9b0
                  try clear c10
                  try clear c10b0
                  try clear hx293_0
                  try clear p2
                  try clear p293
                  try clear p6
                  try clear q293
                  obtain ⟨x5_2, x8_2, x31_2, rfl, rfl, HA, HK2, HO_5, HB⟩ := hrel
                  cases gk with
                  | zero => exact absurd HA.out (by simp [nats_Mul.l1])
                  | succ k2 =>
                    have H := HA.out
                    clear HA
                    simp only [nats_Mul.l1] at H
                    by_cases c11 : x31_2 < (q1.length : Int)
                    · rw [if_pos c11] at H
                      have c11b0 : decide (x31_2 < (q1.length : Int)) = true := decide_eq_true c11
                      clear c11
                      by_cases c12 : 0 ≤ x31_2
                      · rw [if_pos c12] at H
                        have c12b0 : decide (0 ≤ x31_2) = true := decide_eq_true c12
                        clear c12
                        by_cases c13 : x31_2 < (q1.length : Int)
                        · rw [if_pos c13] at H
                          have c13b0 : decide (x31_2 < (q1.length : Int)) = true := decide_eq_true c13
                          clear c13
                          obtain ⟨ji14, hji14⟩ : ∃ j_ : Int, (wrap64 (x24_1 + x31_2)) = j_ := ⟨_, rfl⟩
                          replace H : (if 0 ≤ (ji14) then (if (ji14) < (x5_2.length : Int) then (nats_Mul.l1 k2 q1 (x5_2.set ((ji14) : Int).toNat ((IntKind.u64.wrap ((IntKind.u64.wrap ((IntKind.u64.wrap ((IntKind.u64.wrap ((rd q0 x24_1))) * (IntKind.u64.wrap (rd q1 x31_2)))) + (IntKind.u64.wrap (rd x5_2 (ji14))))) + x8_2)) % 4294967296)) x24_1 (rd q0 x24_1) ((IntKind.u64.wrap ((IntKind.u64.wrap ((IntKind.u64.wrap ((IntKind.u64.wrap ((rd q0 x24_1))) * (IntKind.u64.wrap (rd q1 x31_2)))) + (IntKind.u64.wrap (rd x5_2 (ji14))))) + x8_2)) / 4294967296) q0 (q0.length : Int) x24_1 q1 (q1.length : Int) (wrap64 (x31_2 + 1))) else (none)) else (none)) = some r := by first | (rw [hji14] at H; exact H) | (simp only [hji14] at H ⊢; exact H)
                          have hji14w : (IntKind.i64.wrap (x24_1 + x31_2)) = ji14 := (i64_w _).trans hji14
                          by_cases c15 : 0 ≤ (ji14)
                          · rw [if_pos c15] at H
                            have c15b0 : decide (0 ≤ (ji14)) = true := decide_eq_true c15
                            clear c15
                            by_cases c16 : (ji14) < (x5_2.length : Int)
                            · rw [if_pos c16] at H
                              have c16b0 : decide ((ji14) < (x5_2.length : Int)) = true := decide_eq_true c16
                              clear c16
                              obtain ⟨y296, hy296⟩ : ∃ y_ : List Int, y_ = (x5_2.set ((ji14) : Int).toNat ((IntKind.u64.wrap ((IntKind.u64.wrap ((IntKind.u64.wrap ((IntKind.u64.wrap ((rd q0 x24_1))) * (IntKind.u64.wrap (rd q1 x31_2)))) + (IntKind.u64.wrap (rd x5_2 (ji14))))) + x8_2)) % 4294967296)) := ⟨_, rfl⟩
                              replace H : (nats_Mul.l1 k2 q1 y296 x24_1 (rd q0 x24_1) ((IntKind.u64.wrap ((IntKind.u64.wrap ((IntKind.u64.wrap ((IntKind.u64.wrap ((rd q0 x24_1))) * (IntKind.u64.wrap (rd q1 x31_2)))) + (IntKind.u64.wrap (rd x5_2 (ji14))))) + x8_2)) / 4294967296) q0 (q0.length : Int) x24_1 q1 (q1.length : Int) (wrap64 (x31_2 + 1))) = some r := by first | (rw [hy296]; with_reducible exact H) | (have H2_ := (Option.bind_some _ _).symm.trans H; rw [hy296]; with_reducible exact H2_) | (have H2_ := (Option.bind_some _ _).symm.trans H; with_reducible exact H2_) | with_reducible exact H | (rw [hy296]; exact H) | exact H
                              have Ny296 := Aside0.mk hy296
                              clear hy296
                              have H' := Aside0.mk H
                              clear H
                              have p294 : 0 ≤ (x31_2 : Int) := of_decide_eq_true (by first | (with_reducible assumption) | assumption)
                              have q294 : x31_2 < (q1.length : Int) := of_decide_eq_true (by first | (with_reducible assumption) | assumption)
                              obtain ⟨ad294, e294, hx294_0⟩ := Kd.at_int HR1.out x31_2 p294 q294
                              cases e294
                              replace hx294_0 := (HB.out.cell (World.block_lt_of_cell? w _ hx294_0)).trans hx294_0
                              replace p294 := eq_true p294
                              replace q294 := eq_true q294
                              obtain ⟨Ao18, co18, eo18⟩ := Kd.R_slice HO_5.out
                              subst eo18
                              have p295 : 0 ≤ ((ji14) : Int) := of_decide_eq_true (by first | (with_reducible assumption) | assumption)
                              have q295 : (ji14) < (x5_2.length : Int) := of_decide_eq_true (by first | (with_reducible assumption) | assumption)
                              obtain ⟨ad295, e295, hx295_0⟩ := Kd.at_int (Kd.R_reads' HO_5.out).2.2 (ji14) p295 q295
                              cases e295
                              replace p295 := eq_true p295
                              replace q295 := eq_true q295
                              have p17 : 0 ≤ ((ji14) : Int) := of_decide_eq_true (by first | (with_reducible assumption) | assumption)
                              have q17 : ((ji14) : Int) < ((x5_2.length : Int) : Int) := of_decide_eq_true (by first | (with_reducible assumption) | assumption)
                              obtain ⟨go17, co17, eo17, gb17, gl17, cl17, HG17⟩ := Kd.R_form HO_5.out (by omega)
                              (first | cases eo17 | (injection eo17 with ea_ en_ ec_; (first | subst ea_ | (injection ea_ with ea_; subst ea_)); subst ec_; clear en_))
                              have GB17 := Aside0.mk gb17
                              have GG17 := Aside0.mk HG17
                              clear gb17 gl17 HG17
                              (first | simp only [add_plain] at hx295_0 | skip)
                              obtain ⟨hx17_0, hf17_0⟩ := Kd.R_celln 0 HO_5.out ((ji14) : Int) p17 q17
                              replace p17 := eq_true p17
                              replace q17 := eq_true q17
                              have HP19 := Kd.R_putg HO_5.out ((ji14) : Int) ((IntKind.u64.wrap ((IntKind.u64.wrap ((IntKind.u64.wrap ((IntKind.u64.wrap ((rd q0 x24_1))) * (IntKind.u64.wrap (rd q1 x31_2)))) + (IntKind.u64.wrap (rd x5_2 (ji14))))) + x8_2)) % 4294967296)
                              go_wp2_with (first | ((with_reducible refine gate_store (t := 99) (p := 59) rfl ?_); refine store_event (t := 99) (p := 59) (v := ?vo_w20) (w1 := (wr.setCell ⟨go17, ((ji14) : Int).toNat, none⟩ (.int .u32 ((IntKind.u64.wrap ((IntKind.u64.wrap ((IntKind.u64.wrap ((IntKind.u64.wrap ((rd q0 x24_1))) * (IntKind.u64.wrap (rd q1 x31_2)))) + (IntKind.u64.wrap (rd x5_2 (ji14))))) + x8_2)) % 4294967296)))) ?hg ?ho ?hn ?hr ?_; (case ho => rfl); (case hg => rfl); (case hn => rfl); (case hr => first | (go_simp; done) | (go_simp; rfl)); intro w20 hw; have hg : wr.grownBy w20 (some go17) := (by rw [hw]; exact HP19.2); have hp_ : Kd.R (Kd.int .u32) 99 w20 w.heap.size (fun _ => True) (.slice (some ⟨go17, 0, none⟩) x5_2.length co18) y296 := (by rw [hw, Ny296.out]; exact HP19.1); clear HP19; have n0_ := Aside0.mk (hp_); have n1_ := Aside0.mk ((by rw [hw]; exact below_set (HB.out) GB17.out : Below w.heap.size w w20)); clear HO_5; clear HB; have HO_5 := n0_; have HB := n1_; clear n0_ n1_; clear hg hw hp_))
                              go_roundg k2
                              case measure => have := HK1.out; have := HK2.out; omega
                              case rel => exact ⟨(y296), ((IntKind.u64.wrap ((IntKind.u64.wrap ((IntKind.u64.wrap ((IntKind.u64.wrap ((rd q0 x24_1))) * (IntKind.u64.wrap (rd q1 x31_2)))) + (IntKind.u64.wrap (rd x5_2 (ji14))))) + x8_2)) / 4294967296), (wrap64 (x31_2 + 1)), (by first | rfl | (simp; done) | (simp only [← hji14] <;> (first | rfl | simp)) | (simp [*]; done)), (by first | rfl | (simp; done) | (simp [*]; done)), H', ⟨by have := HK1.out; have := HK2.out; omega⟩, ⟨by (with_reducible repeat (first | apply Kd.R_alloc | apply Kd.R_drewN | apply Kd.R_drew)); exact HO_5.out⟩, ⟨by repeat (first | (with_reducible first | exact HB.out | apply below_alloc | apply pw_below_drewN | apply below_drew1) | exact HB.out)⟩⟩
                            · rw [if_neg c16] at H
                              exact absurd H (by simp)
                          · rw [if_neg c15] at H
                            exact absurd H (by simp)
                        · rw [if_neg c13] at H
                          exact absurd H (by simp)
                      · rw [if_neg c12] at H
                        exact absurd H (by simp)
                    · rw [if_neg c11] at H
                      have c11b0 : decide (x31_2 < (q1.length : Int)) = false := decide_eq_false c11
                      clear c11
                      obtain ⟨ji21, hji21⟩ : ∃ j_ : Int, (wrap64 (x24_1 + (q1.length : Int))) = j_ := ⟨_, rfl⟩
                      replace H : (if 0 ≤ (ji21) then (if (ji21) < (x5_2.length : Int) then (nats_Mul.l0 k2 q1 (x5_2.set ((ji21) : Int).toNat ((x8_2) % 4294967296)) q0 (q0.length : Int) (wrap64 (x24_1 + 1))) else (none)) else (none)) = some r := by first | (rw [hji21] at H; exact H) | (simp only [hji21] at H ⊢; exact H)
                      have hji21w : (IntKind.i64.wrap (x24_1 + (q1.length : Int))) = ji21 := (i64_w _).trans hji21
                      by_cases c22 : 0 ≤ (ji21)
                      · rw [if_pos c22] at H
                        have c22b0 : decide (0 ≤ (ji21)) = true := decide_eq_true c22
                        clear c22
                        by_cases c23 : (ji21) < (x5_2.length : Int)
                        · rw [if_pos c23] at H
                          have c23b0 : decide ((ji21) < (x5_2.length : Int)) = true := decide_eq_true c23
                          clear c23
                          obtain ⟨y297, hy297⟩ : ∃ y_ : List Int, y_ = (x5_2.set ((ji21) : Int).toNat ((x8_2) % 4294967296)) := ⟨_, rfl⟩
                          replace H : (nats_Mul.l0 k2 q1 y297 q0 (q0.length : Int) (wrap64 (x24_1 + 1))) = some r := by first | (rw [hy297]; with_reducible exact H) | (have H2_ := (Option.bind_some _ _).symm.trans H; rw [hy297]; with_reducible exact H2_) | (have H2_ := (Option.bind_some _ _).symm.trans H; with_reducible exact H2_) | with_reducible exact H | (rw [hy297]; exact H) | exact H
                          have Ny297 := Aside0.mk hy297
                          clear hy297
                          have H' := Aside0.mk H
                          clear H
                          have p24 : 0 ≤ ((ji21) : Int) := of_decide_eq_true (by first | (with_reducible assumption) | assumption)
                          have q24 : ((ji21) : Int) < ((x5_2.length : Int) : Int) := of_decide_eq_true (by first | (with_reducible assumption) | assumption)
                          obtain ⟨go24, co24, eo24, gb24, gl24, cl24, HG24⟩ := Kd.R_form HO_5.out (by omega)
                          (first | cases eo24 | (injection eo24 with ea_ en_ ec_; (first | subst ea_ | (injection ea_ with ea_; subst ea_)); subst ec_; clear en_))
                          have GB24 := Aside0.mk gb24
                          have GG24 := Aside0.mk HG24
                          clear gb24 gl24 HG24
                          obtain ⟨hx24_0, hf24_0⟩ := Kd.R_celln 0 HO_5.out ((ji21) : Int) p24 q24
                          replace p24 := eq_true p24
                          replace q24 := eq_true q24
                          have HP25 := Kd.R_putg HO_5.out ((ji21) : Int) ((x8_2) % 4294967296)
                          go_wp2_with (first | ((with_reducible refine gate_store (t := 99) (p := 68) rfl ?_); refine store_event (t := 99) (p := 68) (v := ?vo_w26) (w1 := (wr.setCell ⟨go24, ((ji21) : Int).toNat, none⟩ (.int .u32 ((x8_2) % 4294967296)))) ?hg ?ho ?hn ?hr ?_; (case ho => rfl); (case hg => rfl); (case hn => rfl); (case hr => first | (go_simp; done) | (go_simp; rfl)); intro w26 hw; have hg : wr.grownBy w26 (some go24) := (by rw [hw]; exact HP25.2); have hp_ : Kd.R (Kd.int .u32) 99 w26 w.heap.size (fun _ => True) (.slice (some ⟨go24, 0, none⟩) x5_2.length co24) y297 := (by rw [hw, Ny297.out]; exact HP25.1); clear HP25; have n0_ := Aside0.mk (hp_); have n1_ := Aside0.mk ((by rw [hw]; exact below_set (HB.out) GB24.out : Below w.heap.size w w26)); clear HO_5; clear HB; have HO_5 := n0_; have HB := n1_; clear n0_ n1_; clear hg hw hp_))
                          go_roundg k2
                          case measure => have := HK1.out; have := HK2.out; omega
                          case rel => exact ⟨(y297), (wrap64 (x24_1 + 1)), (by first | rfl | (simp; done) | (simp [*]; done)), H', ⟨by have := HK1.out; have := HK2.out; omega⟩, ⟨by (with_reducible repeat (first | apply Kd.R_alloc | apply Kd.R_drewN | apply Kd.R_drew)); exact HO_5.out⟩, ⟨by repeat (first | (with_reducible first | exact HB.out | apply below_alloc | apply pw_below_drewN | apply below_drew1) | exact HB.out)⟩⟩
                        · rw [if_neg c23] at H
                          exact absurd H (by simp)
                      · rw [if_neg c22] at H
                        exact absurd H (by simp)
              · rw [if_neg c10] at H
                exact absurd H (by simp)
            · rw [if_neg c9] at H
              exact absurd H (by simp)
          · rw [if_neg c8] at H
            have c8b0 : decide (x24_1 < (q0.length : Int)) = false := decide_eq_false c8
            clear c8
            replace H := Option.bind_eq_some_iff.mp H
            obtain ⟨t290, A270, H⟩ := H
            replace H : (some t290) = some r := H
            have A27 := Aside0.mk A270
            clear A270
            obtain rfl := Option.some.inj H
            obtain ⟨Ao28, co28, eo28⟩ := Kd.R_slice HO_5.out
            subst eo28
            go_wp2_with (first | ((with_reducible refine gate_callee (f := 92) rfl ?_); refine goesL_ (some 71) rfl rfl Try.func92 (by kernel_rfl) rfl #[.slice Ao28 x5_1.length co28] rfl (by (try simp only [List.map_toArray, List.map_cons, List.map_nil]); first | done | rfl | (simp only [List.length_drop, List.length_take]; rfl)) ?_; (with_reducible refine (nats_cut.calls k1 (fun k_ => some k_ = (.slice Ao28 x5_1.length co28 : Value).ownBlock) (.slice Ao28 x5_1.length co28) x5_1 t290 w _ ?side1 ?side2 A27.out).mono ?_); (case side1 => repeat (first | (with_reducible first | exact HB.out | apply below_alloc | apply pw_below_drewN | apply below_drew1) | exact HB.out)); (case side2 => exact Kd.R_tight rfl HO_5.out); rintro e w29 ⟨v291, rfl, ho0, hb, hkp⟩; refine ⟨_, rfl, ?_⟩; have n0_ := Aside0.mk (Kd.R_mono (ok' := fun k_ => True) ho0 (fun k_ hk_ => trivial)); have n1_ := Aside0.mk (hb); clear HB; clear HO_5; have HO292 := n0_; have HB := n1_; clear n0_ n1_; (try clear hb); (try clear hkp); (try clear ho0)))
            go_ret
            exact ⟨_, by first | rfl | (simp [errW_none, errW_some] <;> rfl) | (simp only [← hji3]; first | rfl | (simp [errW_none, errW_some] <;> rfl)) | (simp [*, errW_none, errW_some] <;> rfl), by (with_reducible repeat (first | apply Kd.R_alloc | apply Kd.R_drewN | apply Kd.R_drew)); exact HO292.out, by repeat (first | (with_reducible first | exact HB.out | apply below_alloc | apply pw_below_drewN | apply below_drew1) | exact HB.out)⟩
    · rw [if_neg c5] at H
      exact absurd H (by simp)
  · rw [if_neg c4] at H
    exact absurd H (by simp)

end Go.Proofs.Ytjppanekddljbaa.Pr
