/- What the kit's print wrote for these functions, taken together by wip/pick.py: each function's Lean function and that the Go code comes to it. -/
import Derived.Test.YtjppanekddljbaaH6
namespace Go.Proofs.Ytjppanekddljbaa.Pr
open Go.RowKit Go.Proofs.YtjppanekddljbaaW.PrintWords Go.Proofs.YtjppanekddljbaaW.PrintLast Go.Proofs.YtjppanekddljbaaW.PrintMore
open Go.Proofs.Ytjppanekddljbaa.H
attribute [local go_sem] max2_int min2_int max_two min_two max_three min_three max_four min_four
set_option linter.unusedVariables false
set_option linter.unusedSimpArgs false

/-! ### ratio_Div: function 33 -/
def ratio_Div.f (k : Nat) (a0_0 : Bool) (l0_1 : List Int) (l0_2 : List Int) (a1_0 : Bool) (l1_1 : List Int) (l1_2 : List Int) : Option (Bool × List Int × List Int × Int) := (ratio_forms.f k (([(⟨a0_0, l0_1, l0_2⟩ : S36), (⟨a1_0, l1_1, l1_2⟩ : S36)] : List (S36)))).bind fun t312 => (if t312 = true then (if (l1_1.length : Int) = 0 then (some (false, ([] : List Int), ([] : List Int), 10)) else ((nats_Mul.f k l0_1 l1_2).bind fun t313 => ((nats_Mul.f k l0_2 l1_1).bind fun t316 => ((ratio_Make.f k (a0_0 != a1_0) t313 t316).bind fun bt319 => (some (bt319.1, bt319.2.1, bt319.2.2.1, bt319.2.2.2)))))) else (some (false, ([] : List Int), ([] : List Int), 20)))
theorem ratio_Div.mono : ∀ a0 a1 a2 a3 a4 a5 k, LeO (ratio_Div.f k a0 a1 a2 a3 a4 a5) (ratio_Div.f (k + 1) a0 a1 a2 a3 a4 a5) := by
  intro a0 a1 a2 a3 a4 a5 k
  unfold ratio_Div.f
  repeat' first
      | (with_reducible exact nats_Mul.mono _ _ _)
      | (with_reducible exact ratio_Make.mono _ _ _ _)
      | (with_reducible exact ratio_forms.mono _ _)
      | (with_reducible exact LeO.refl _)
      | (with_reducible exact LeO.none _)
      | (with_reducible refine LeO.ite ?_ ?_)
      | (with_reducible refine LeO.bind ?_ (fun _ => ?_))
      | exact nats_Mul.mono _ _ _
      | exact ratio_Make.mono _ _ _ _
      | exact ratio_forms.mono _ _
      | exact LeO.none _
      | refine LeO.ite ?_ ?_
      | refine LeO.bind ?_ (fun _ => ?_)
def ratio_Div.T5 : Bool × List (List Nat × List Nat) := (true, [([], []), ([0], [0]), ([], []), ([2], [2]), ([1, 3], [1, 3]), ([], []), ([5], [5]), ([], []), ([7], [7]), ([6, 8], [6, 8]), ([], []), ([10], [10]), ([], []), ([12], [12]), ([11, 13, 9], [11, 13]), ([4, 9, 14, 14], [4, 9, 14]), ([15], [15]), ([15], [15]), ([16, 15, 0, 1, 2, 3, 4, 5, 6, 7, 8, 9, 10, 11, 12, 13, 14, 15, 16, 17], [16]), ([17, 18, 0, 1, 2, 3, 4, 5, 6, 7, 8, 9, 10, 11, 12, 13, 14, 15, 16, 17, 18], [17])])
def ratio_Div.B5 : List Nat := [0, 1, 0, 4, 15, 0, 32, 0, 128, 480, 0, 1024, 0, 4096, 16352, 32767, 65535, 65535, 262143, 524287]
theorem ratio_Div.tab5 : rtab .any (opsOf Try.f33 5) = ratio_Div.T5 := by kernel_rfl
theorem ratio_Div.bits5 : waitsOk ratio_Div.T5.2 ratio_Div.B5 = true := by kernel_rfl
set_option maxHeartbeats 8000000 in
set_option maxRecDepth 100000 in
theorem ratio_Div.calls (k : Nat) (a0_0 : Bool) (P0_1_ : Nat → Prop) (A0_1 : Option Addr) (c0_1 : Nat) (l0_1 : List Int) (P0_2_ : Nat → Prop) (A0_2 : Option Addr) (c0_2 : Nat) (l0_2 : List Int) (a1_0 : Bool) (P1_1_ : Nat → Prop) (A1_1 : Option Addr) (c1_1 : Nat) (l1_1 : List Int) (P1_2_ : Nat → Prop) (A1_2 : Option Addr) (c1_2 : Nat) (l1_2 : List Int) (r1 : Bool) (r2 : List Int) (r3 : List Int) (r4 : Int) (w : World) (hs0_1 : Kd.V (Kd.int .u32) 99 w w.heap.size (fun k_ => P0_1_ k_) (.slice A0_1 l0_1.length c0_1) l0_1) (hs0_2 : Kd.V (Kd.int .u32) 99 w w.heap.size (fun k_ => P0_2_ k_) (.slice A0_2 l0_2.length c0_2) l0_2) (hs1_1 : Kd.V (Kd.int .u32) 99 w w.heap.size (fun k_ => P1_1_ k_) (.slice A1_1 l1_1.length c1_1) l1_1) (hs1_2 : Kd.V (Kd.int .u32) 99 w w.heap.size (fun k_ => P1_2_ k_) (.slice A1_2 l1_2.length c1_2) l1_2) (h : ratio_Div.f k a0_0 l0_1 l0_2 a1_0 l1_1 l1_2 = some (r1, r2, r3, r4)) :
    Calls Try.prog 33 #[.agg #[.bool a0_0, .slice A0_1 l0_1.length c0_1, .slice A0_2 l0_2.length c0_2], .agg #[.bool a1_0, .slice A1_1 l1_1.length c1_1, .slice A1_2 l1_2.length c1_2]] w fun e w' => ∃ v1_ v2_ : Value, e = .returned (.tuple #[.agg #[.bool r1, v1_, v2_], .int .i64 r4]) ∧ Kd.R (Kd.int .u32) 99 w' w.heap.size (fun k_ => (w.heap.size ≤ k_) ∧ some k_ ≠ (v2_ : Value).ownBlock) v1_ r2 ∧ Kd.R (Kd.int .u32) 99 w' w.heap.size (fun k_ => (w.heap.size ≤ k_) ∧ some k_ ≠ (v1_ : Value).ownBlock) v2_ r3 ∧ Below w.heap.size w w' := by
  have hu36 := Try.underlying36
  have HO0_1 := Aside0.mk (show Kd.V (Kd.int .u32) 99 w w.heap.size (fun k_ => ((P0_1_ k_ ∨ P0_2_ k_ ∨ P1_1_ k_ ∨ P1_2_ k_) ∨ w.heap.size ≤ k_)) (.slice A0_1 l0_1.length c0_1) l0_1 from Kd.V_mono hs0_1 (fun k_ hk => .inl (.inl hk)))
  have HO0_2 := Aside0.mk (show Kd.V (Kd.int .u32) 99 w w.heap.size (fun k_ => ((P0_1_ k_ ∨ P0_2_ k_ ∨ P1_1_ k_ ∨ P1_2_ k_) ∨ w.heap.size ≤ k_)) (.slice A0_2 l0_2.length c0_2) l0_2 from Kd.V_mono hs0_2 (fun k_ hk => .inl (.inr (.inl hk))))
  have HO1_1 := Aside0.mk (show Kd.V (Kd.int .u32) 99 w w.heap.size (fun k_ => ((P0_1_ k_ ∨ P0_2_ k_ ∨ P1_1_ k_ ∨ P1_2_ k_) ∨ w.heap.size ≤ k_)) (.slice A1_1 l1_1.length c1_1) l1_1 from Kd.V_mono hs1_1 (fun k_ hk => .inl (.inr (.inr (.inl hk)))))
  have HO1_2 := Aside0.mk (show Kd.V (Kd.int .u32) 99 w w.heap.size (fun k_ => ((P0_1_ k_ ∨ P0_2_ k_ ∨ P1_1_ k_ ∨ P1_2_ k_) ∨ w.heap.size ≤ k_)) (.slice A1_2 l1_2.length c1_2) l1_2 from Kd.V_mono hs1_2 (fun k_ hk => .inl (.inr (.inr (.inr hk)))))
  have HB := Aside0.mk (Below.refl w.heap.size w)
  have H : ((ratio_forms.f k (([(⟨a0_0, l0_1, l0_2⟩ : S36), (⟨a1_0, l1_1, l1_2⟩ : S36)] : List (S36)))).bind fun t312 => (if t312 = true then (if (l1_1.length : Int) = 0 then (some (false, ([] : List Int), ([] : List Int), 10)) else ((nats_Mul.f k l0_1 l1_2).bind fun t313 => ((nats_Mul.f k l0_2 l1_1).bind fun t316 => ((ratio_Make.f k (a0_0 != a1_0) t313 t316).bind fun bt319 => (some (bt319.1, bt319.2.1, bt319.2.2.1, bt319.2.2.2)))))) else (some (false, ([] : List Int), ([] : List Int), 20)))) = some (r1, r2, r3, r4) := h
  clear h
  obtain ⟨y309, hy309⟩ : ∃ y_ : List (S36), y_ = (([(⟨a0_0, l0_1, l0_2⟩ : S36), (⟨a1_0, l1_1, l1_2⟩ : S36)] : List (S36))) := ⟨_, rfl⟩
  replace H : ((ratio_forms.f k y309).bind fun t312 => (if t312 = true then (if (l1_1.length : Int) = 0 then (some (false, ([] : List Int), ([] : List Int), 10)) else ((nats_Mul.f k l0_1 l1_2).bind fun t313 => ((nats_Mul.f k l0_2 l1_1).bind fun t316 => ((ratio_Make.f k (a0_0 != a1_0) t313 t316).bind fun bt319 => (some (bt319.1, bt319.2.1, bt319.2.2.1, bt319.2.2.2)))))) else (some (false, ([] : List Int), ([] : List Int), 20)))) = some (r1, r2, r3, r4) := by first | (rw [hy309]; with_reducible exact H) | (have H2_ := (Option.bind_some _ _).symm.trans H; rw [hy309]; with_reducible exact H2_) | (have H2_ := (Option.bind_some _ _).symm.trans H; with_reducible exact H2_) | with_reducible exact H | (rw [hy309]; exact H) | exact H
  have Ny309 := Aside0.mk hy309
  clear hy309
  replace H := Option.bind_eq_some_iff.mp H
  obtain ⟨t312, A30, H⟩ := H
  replace H : (if t312 = true then (if (l1_1.length : Int) = 0 then (some (false, ([] : List Int), ([] : List Int), 10)) else ((nats_Mul.f k l0_1 l1_2).bind fun t313 => ((nats_Mul.f k l0_2 l1_1).bind fun t316 => ((ratio_Make.f k (a0_0 != a1_0) t313 t316).bind fun bt319 => (some (bt319.1, bt319.2.1, bt319.2.2.1, bt319.2.2.2)))))) else (some (false, ([] : List Int), ([] : List Int), 20))) = some (r1, r2, r3, r4) := H
  have A3 := Aside0.mk A30
  clear A30
  by_cases c4 : t312 = true
  · subst c4
    have H1 : (if (l1_1.length : Int) = 0 then (some (false, ([] : List Int), ([] : List Int), 10)) else ((nats_Mul.f k l0_1 l1_2).bind fun t313 => ((nats_Mul.f k l0_2 l1_1).bind fun t316 => ((ratio_Make.f k (a0_0 != a1_0) t313 t316).bind fun bt319 => (some (bt319.1, bt319.2.1, bt319.2.2.1, bt319.2.2.2)))))) = some (r1, r2, r3, r4) := by rw [if_pos rfl] at H; exact H
    clear H
    have H := H1
    clear H1
    by_cases c5 : (l1_1.length : Int) = 0
    · rw [if_pos c5] at H
      have c5b0 : ((l1_1.length : Int) == 0) = true := beq_iff_eq.mpr c5
      have c5b1 : ((l1_1.length : Int) != 0) = false := bne_eq_false_iff_eq.mpr c5
      clear c5
      simp only [Option.some.injEq, Prod.mk.injEq] at H
      obtain ⟨rfl, rfl, rfl, rfl⟩ := H
      go_enter Try.func33, Try.ntmps33
      go_wp2_with (first | ((with_reducible refine gate_dst (N := 2) rfl ?_); refine box_event ?hg (N := 2) ?hd (cs := #[.bool a0_0, .slice A0_1 l0_1.length c0_1, .slice A0_2 l0_2.length c0_2]) (t := 36) ?hr ?_; (case hd => rfl); (case hg => rfl); (case hr => first | (go_simp; done) | (go_simp; rfl)); intro gb306 hg w6 hbox hb; have n0_ := Aside0.mk (Kd.V_below (Kd.V_elderB (by (with_reducible repeat (first | apply Kd.V_alloc | apply Kd.V_drewN | apply Kd.V_drew)); exact HO0_1.out) gb306 (Nat.le_of_eq hg.symm)) hb); have n1_ := Aside0.mk (Kd.V_below (Kd.V_elderB (by (with_reducible repeat (first | apply Kd.V_alloc | apply Kd.V_drewN | apply Kd.V_drew)); exact HO0_2.out) gb306 (Nat.le_of_eq hg.symm)) hb); have n2_ := Aside0.mk (Kd.V_below (Kd.V_elderB (by (with_reducible repeat (first | apply Kd.V_alloc | apply Kd.V_drewN | apply Kd.V_drew)); exact HO1_1.out) gb306 (Nat.le_of_eq hg.symm)) hb); have n3_ := Aside0.mk (Kd.V_below (Kd.V_elderB (by (with_reducible repeat (first | apply Kd.V_alloc | apply Kd.V_drewN | apply Kd.V_drew)); exact HO1_2.out) gb306 (Nat.le_of_eq hg.symm)) hb); have n4_ := Aside0.mk (below_step (by repeat (first | (with_reducible first | exact HB.out | apply below_alloc | apply pw_below_drewN | apply below_drew1) | exact HB.out)) hb); have n5_ := Aside0.mk (hbox); have n6_ := Aside0.mk ((by rw [hg]; exact (below_size (by repeat (first | (with_reducible first | exact HB.out | apply below_alloc | apply pw_below_drewN | apply below_drew1) | exact HB.out))) : w.heap.size ≤ gb306)); have n7_ := Aside0.mk ((by rw [hg]; exact (below_size (by repeat (first | (with_reducible first | exact HB.out | apply below_alloc | apply pw_below_drewN | apply below_drew1) | exact HB.out))) : w.heap.size ≤ gb306)); clear HO0_1; clear HO0_2; clear HO1_1; clear HO1_2; clear HB; have HO0_1 := n0_; have HO0_2 := n1_; have HO1_1 := n2_; have HO1_2 := n3_; have HB := n4_; have BK306 := n5_; have GW306 := n6_; have GE306 := n7_; clear n0_ n1_ n2_ n3_ n4_ n5_ n6_ n7_; clear hb hbox hg) | ((with_reducible refine gate_dst (N := 3) rfl ?_); refine box_event ?hg (N := 3) ?hd (cs := #[.bool a1_0, .slice A1_1 l1_1.length c1_1, .slice A1_2 l1_2.length c1_2]) (t := 36) ?hr ?_; (case hd => rfl); (case hg => rfl); (case hr => first | (go_simp; done) | (go_simp; rfl)); intro gb307 hg w7 hbox hb; have n0_ := Aside0.mk (Kd.V_below (Kd.V_elderB (by (with_reducible repeat (first | apply Kd.V_alloc | apply Kd.V_drewN | apply Kd.V_drew)); exact HO0_1.out) gb307 (Nat.le_of_eq hg.symm)) hb); have n1_ := Aside0.mk (Kd.V_below (Kd.V_elderB (by (with_reducible repeat (first | apply Kd.V_alloc | apply Kd.V_drewN | apply Kd.V_drew)); exact HO0_2.out) gb307 (Nat.le_of_eq hg.symm)) hb); have n2_ := Aside0.mk (Kd.V_below (Kd.V_elderB (by (with_reducible repeat (first | apply Kd.V_alloc | apply Kd.V_drewN | apply Kd.V_drew)); exact HO1_1.out) gb307 (Nat.le_of_eq hg.symm)) hb); have n3_ := Aside0.mk (Kd.V_below (Kd.V_elderB (by (with_reducible repeat (first | apply Kd.V_alloc | apply Kd.V_drewN | apply Kd.V_drew)); exact HO1_2.out) gb307 (Nat.le_of_eq hg.symm)) hb); have n4_ := Aside0.mk (blk_below (g := gb306) (o := .cells #[.bool a0_0, .slice A0_1 l0_1.length c0_1, .slice A0_2 l0_2.length c0_2] 36 (0, 0)) (by (with_reducible repeat (first | refine blk_drewN ?_ _ | refine blk_drew ?_ | refine blk_alloc ?_ _)); exact BK306.out) hb); have n5_ := Aside0.mk (below_step (by repeat (first | (with_reducible first | exact HB.out | apply below_alloc | apply pw_below_drewN | apply below_drew1 | refine below_set ?_ GE306.out) | exact HB.out)) hb); have n6_ := Aside0.mk (hbox); have n7_ := Aside0.mk ((by rw [hg]; exact (below_size (by repeat (first | (with_reducible first | exact HB.out | apply below_alloc | apply pw_below_drewN | apply below_drew1 | refine below_set ?_ GE306.out) | exact HB.out))) : w.heap.size ≤ gb307)); have n8_ := Aside0.mk ((by rw [hg]; exact (below_size (by repeat (first | (with_reducible first | exact HB.out | apply below_alloc | apply pw_below_drewN | apply below_drew1 | refine below_set ?_ GE306.out) | exact HB.out))) : w.heap.size ≤ gb307)); have n9_ := Aside0.mk ((by rw [hg]; exact Nat.ne_of_lt (blk_lt (g := gb306) (o := .cells #[.bool a0_0, .slice A0_1 l0_1.length c0_1, .slice A0_2 l0_2.length c0_2] 36 (0, 0)) (by (with_reducible repeat (first | refine blk_drewN ?_ _ | refine blk_drew ?_ | refine blk_alloc ?_ _)); exact BK306.out)) : gb306 ≠ gb307)); have n10_ := Aside0.mk ((by rw [hg]; exact Nat.ne_of_gt (blk_lt (g := gb306) (o := .cells #[.bool a0_0, .slice A0_1 l0_1.length c0_1, .slice A0_2 l0_2.length c0_2] 36 (0, 0)) (by (with_reducible repeat (first | refine blk_drewN ?_ _ | refine blk_drew ?_ | refine blk_alloc ?_ _)); exact BK306.out)) : gb307 ≠ gb306)); clear HO0_1; clear HO0_2; clear HO1_1; clear HO1_2; clear BK306; clear HB; have HO0_1 := n0_; have HO0_2 := n1_; have HO1_1 := n2_; have HO1_2 := n3_; have BK306 := n4_; have HB := n5_; have BK307 := n6_; have GW307 := n7_; have GE307 := n8_; have NB306_307 := n9_; have NB307_306 := n10_; clear n0_ n1_ n2_ n3_ n4_ n5_ n6_ n7_ n8_ n9_ n10_; clear hb hbox hg) | ((with_reducible refine gate_dst (N := 4) rfl ?_); refine box_event ?hg (N := 4) ?hd (cs := #[.bool false, .slice none 0 0, .slice none 0 0]) (t := 36) ?hr ?_; (case hd => rfl); (case hg => rfl); (case hr => first | (go_simp; done) | (go_simp; rfl)); intro gb308 hg w8 hbox hb; have n0_ := Aside0.mk (Kd.V_below (Kd.V_elderB (by (with_reducible repeat (first | apply Kd.V_alloc | apply Kd.V_drewN | apply Kd.V_drew)); exact HO0_1.out) gb308 (Nat.le_of_eq hg.symm)) hb); have n1_ := Aside0.mk (Kd.V_below (Kd.V_elderB (by (with_reducible repeat (first | apply Kd.V_alloc | apply Kd.V_drewN | apply Kd.V_drew)); exact HO0_2.out) gb308 (Nat.le_of_eq hg.symm)) hb); have n2_ := Aside0.mk (Kd.V_below (Kd.V_elderB (by (with_reducible repeat (first | apply Kd.V_alloc | apply Kd.V_drewN | apply Kd.V_drew)); exact HO1_1.out) gb308 (Nat.le_of_eq hg.symm)) hb); have n3_ := Aside0.mk (Kd.V_below (Kd.V_elderB (by (with_reducible repeat (first | apply Kd.V_alloc | apply Kd.V_drewN | apply Kd.V_drew)); exact HO1_2.out) gb308 (Nat.le_of_eq hg.symm)) hb); have n4_ := Aside0.mk (blk_below (g := gb306) (o := .cells #[.bool a0_0, .slice A0_1 l0_1.length c0_1, .slice A0_2 l0_2.length c0_2] 36 (0, 0)) (by (with_reducible repeat (first | refine blk_drewN ?_ _ | refine blk_drew ?_ | refine blk_alloc ?_ _)); exact BK306.out) hb); have n5_ := Aside0.mk (blk_below (g := gb307) (o := .cells #[.bool a1_0, .slice A1_1 l1_1.length c1_1, .slice A1_2 l1_2.length c1_2] 36 (0, 0)) (by (with_reducible repeat (first | refine blk_drewN ?_ _ | refine blk_drew ?_ | refine blk_alloc ?_ _)); exact BK307.out) hb); have n6_ := Aside0.mk (below_step (by repeat (first | (with_reducible first | exact HB.out | apply below_alloc | apply pw_below_drewN | apply below_drew1 | refine below_set ?_ GE306.out | refine below_set ?_ GE307.out) | exact HB.out)) hb); have n7_ := Aside0.mk (hbox); have n8_ := Aside0.mk ((by rw [hg]; exact (below_size (by repeat (first | (with_reducible first | exact HB.out | apply below_alloc | apply pw_below_drewN | apply below_drew1 | refine below_set ?_ GE306.out | refine below_set ?_ GE307.out) | exact HB.out))) : w.heap.size ≤ gb308)); have n9_ := Aside0.mk ((by rw [hg]; exact (below_size (by repeat (first | (with_reducible first | exact HB.out | apply below_alloc | apply pw_below_drewN | apply below_drew1 | refine below_set ?_ GE306.out | refine below_set ?_ GE307.out) | exact HB.out))) : w.heap.size ≤ gb308)); have n10_ := Aside0.mk ((by rw [hg]; exact Nat.ne_of_lt (blk_lt (g := gb306) (o := .cells #[.bool a0_0, .slice A0_1 l0_1.length c0_1, .slice A0_2 l0_2.length c0_2] 36 (0, 0)) (by (with_reducible repeat (first | refine blk_drewN ?_ _ | refine blk_drew ?_ | refine blk_alloc ?_ _)); exact BK306.out)) : gb306 ≠ gb308)); have n11_ := Aside0.mk ((by rw [hg]; exact Nat.ne_of_gt (blk_lt (g := gb306) (o := .cells #[.bool a0_0, .slice A0_1 l0_1.length c0_1, .slice A0_2 l0_2.length c0_2] 36 (0, 0)) (by (with_reducible repeat (first | refine blk_drewN ?_ _ | refine blk_drew ?_ | refine blk_alloc ?_ _)); exact BK306.out)) : gb308 ≠ gb306)); have n12_ := Aside0.mk ((by rw [hg]; exact Nat.ne_of_lt (blk_lt (g := gb307) (o := .cells #[.bool a1_0, .slice A1_1 l1_1.length c1_1, .slice A1_2 l1_2.length c1_2] 36 (0, 0)) (by (with_reducible repeat (first | refine blk_drewN ?_ _ | refine blk_drew ?_ | refine blk_alloc ?_ _)); exact BK307.out)) : gb307 ≠ gb308)); have n13_ := Aside0.mk ((by rw [hg]; exact Nat.ne_of_gt (blk_lt (g := gb307) (o := .cells #[.bool a1_0, .slice A1_1 l1_1.length c1_1, .slice A1_2 l1_2.length c1_2] 36 (0, 0)) (by (with_reducible repeat (first | refine blk_drewN ?_ _ | refine blk_drew ?_ | refine blk_alloc ?_ _)); exact BK307.out)) : gb308 ≠ gb307)); clear HO0_1; clear HO0_2; clear HO1_1; clear HO1_2; clear BK306; clear BK307; clear HB; have HO0_1 := n0_; have HO0_2 := n1_; have HO1_1 := n2_; have HO1_2 := n3_; have BK306 := n4_; have BK307 := n5_; have HB := n6_; have BK308 := n7_; have GW308 := n8_; have GE308 := n9_; have NB306_308 := n10_; have NB308_306 := n11_; have NB307_308 := n12_; have NB308_307 := n13_; clear n0_ n1_ n2_ n3_ n4_ n5_ n6_ n7_ n8_ n9_ n10_ n11_ n12_ n13_; clear hb hbox hg; have hnb9 := NB306_307.out; have hnc9 := NB307_306.out; have hnb10 := NB306_308.out; have hnc10 := NB308_306.out; have hcz11_0 : w8.cell? ⟨gb306, 0, none⟩ = some (.bool a0_0) := (blk_cell BK306.out 0).trans rfl; have hcz11_1 : w8.cell? ⟨gb306, 1, none⟩ = some (.slice A0_1 l0_1.length c0_1) := (blk_cell BK306.out 1).trans rfl; have hcz11_2 : w8.cell? ⟨gb306, 2, none⟩ = some (.slice A0_2 l0_2.length c0_2) := (blk_cell BK306.out 2).trans rfl; have hfz11_0 := blk_frozen BK306.out 0; have hfz11_1 := blk_frozen BK306.out 1; have hfz11_2 := blk_frozen BK306.out 2; have hnb12 := NB307_308.out; have hnc12 := NB308_307.out; have hcz13_0 : w8.cell? ⟨gb307, 0, none⟩ = some (.bool a1_0) := (blk_cell BK307.out 0).trans rfl; have hcz13_1 : w8.cell? ⟨gb307, 1, none⟩ = some (.slice A1_1 l1_1.length c1_1) := (blk_cell BK307.out 1).trans rfl; have hcz13_2 : w8.cell? ⟨gb307, 2, none⟩ = some (.slice A1_2 l1_2.length c1_2) := (blk_cell BK307.out 2).trans rfl; have hfz13_0 := blk_frozen BK307.out 0; have hfz13_1 := blk_frozen BK307.out 1; have hfz13_2 := blk_frozen BK307.out 2) | ((with_reducible refine gate_dst (N := 8) rfl ?_); refine Kd.N_lit k36 _ 36 ?hg (N' := 8) ?hd (xs := ([(⟨a0_0, l0_1, l0_2⟩ : S36), (⟨a1_0, l1_1, l1_2⟩ : S36)] : List (S36))) (inner := [.bool a0_0, .slice A0_1 l0_1.length c0_1, .slice A0_2 l0_2.length c0_2, .bool a1_0, .slice A1_1 l1_1.length c1_1, .slice A1_2 l1_2.length c1_2]) (ok := (fun k_ => ((P0_1_ k_ ∨ P0_2_ k_ ∨ P1_1_ k_ ∨ P1_2_ k_) ∨ w.heap.size ≤ k_) ∧ k_ ≠ gb306 ∧ k_ ≠ gb307 ∧ k_ ≠ gb308)) (okp := (fun k_ => ((P0_1_ k_ ∨ P0_2_ k_ ∨ P1_1_ k_ ∨ P1_2_ k_) ∨ w.heap.size ≤ k_) ∧ k_ ≠ gb306 ∧ k_ ≠ gb307 ∧ k_ ≠ gb308)) ?hr ?hp (fun _ hk => hk) ((show ∀ k_, w8.heap.size ≤ k_ → (fun k_ => ((P0_1_ k_ ∨ P0_2_ k_ ∨ P1_1_ k_ ∨ P1_2_ k_) ∨ w.heap.size ≤ k_) ∧ k_ ≠ gb306 ∧ k_ ≠ gb307 ∧ k_ ≠ gb308) k_ from fun k_ hk => ⟨(.inr (Nat.le_trans (below_size (by repeat (first | (with_reducible first | exact HB.out | apply below_alloc | apply pw_below_drewN | apply below_drew1 | refine below_set ?_ GE306.out | refine below_set ?_ GE307.out | refine below_set ?_ GE308.out) | exact HB.out))) hk)), Kd.freshB (g := gb306) (o := .cells #[.bool a0_0, .slice A0_1 l0_1.length c0_1, .slice A0_2 l0_2.length c0_2] 36 (0, 0)) (by (with_reducible repeat (first | refine blk_drewN ?_ _ | refine blk_drew ?_ | refine blk_alloc ?_ _)); exact BK306.out) k_ hk, Kd.freshB (g := gb307) (o := .cells #[.bool a1_0, .slice A1_1 l1_1.length c1_1, .slice A1_2 l1_2.length c1_2] 36 (0, 0)) (by (with_reducible repeat (first | refine blk_drewN ?_ _ | refine blk_drew ?_ | refine blk_alloc ?_ _)); exact BK307.out) k_ hk, Kd.freshB (g := gb308) (o := .cells #[.bool false, .slice none 0 0, .slice none 0 0] 36 (0, 0)) (by (with_reducible repeat (first | refine blk_drewN ?_ _ | refine blk_drew ?_ | refine blk_alloc ?_ _)); exact BK308.out) k_ hk⟩) _ (Nat.le_refl _)) (Below.refl _ _) (Nat.le_refl _) (by simp) ?_; (case hd => rfl); (case hg => rfl); (case hr => first | (go_simp; done) | (go_simp; rfl)); (case hp => exact (Reps.c3 (show Kd.FK k36 _ _ (⟨a0_0, l0_1, l0_2⟩ : S36) [.bool a0_0, .slice A0_1 l0_1.length c0_1, .slice A0_2 l0_2.length c0_2] from (k36_mkF _ _ (⟨a0_0, l0_1, l0_2⟩ : S36) (Kd.V_reads' (Kd.V_mono (ok' := (fun k_ => ((P0_1_ k_ ∨ P0_2_ k_ ∨ P1_1_ k_ ∨ P1_2_ k_) ∨ w.heap.size ≤ k_) ∧ k_ ≠ gb306 ∧ k_ ≠ gb307 ∧ k_ ≠ gb308)) (HO0_1.out) (fun k_ hk => ⟨hk.1.1.1, ⟨hk.1.1.2, ⟨hk.1.2, hk.2⟩⟩⟩))).2.1 (Kd.V_F (Kd.V_mono (ok' := (fun k_ => ((P0_1_ k_ ∨ P0_2_ k_ ∨ P1_1_ k_ ∨ P1_2_ k_) ∨ w.heap.size ≤ k_) ∧ k_ ≠ gb306 ∧ k_ ≠ gb307 ∧ k_ ≠ gb308)) (HO0_1.out) (fun k_ hk => ⟨hk.1.1.1, ⟨hk.1.1.2, ⟨hk.1.2, hk.2⟩⟩⟩))) (Kd.V_reads' (Kd.V_mono (ok' := (fun k_ => ((P0_1_ k_ ∨ P0_2_ k_ ∨ P1_1_ k_ ∨ P1_2_ k_) ∨ w.heap.size ≤ k_) ∧ k_ ≠ gb306 ∧ k_ ≠ gb307 ∧ k_ ≠ gb308)) (HO0_2.out) (fun k_ hk => ⟨hk.1.1.1, ⟨hk.1.1.2, ⟨hk.1.2, hk.2⟩⟩⟩))).2.1 (Kd.V_F (Kd.V_mono (ok' := (fun k_ => ((P0_1_ k_ ∨ P0_2_ k_ ∨ P1_1_ k_ ∨ P1_2_ k_) ∨ w.heap.size ≤ k_) ∧ k_ ≠ gb306 ∧ k_ ≠ gb307 ∧ k_ ≠ gb308)) (HO0_2.out) (fun k_ hk => ⟨hk.1.1.1, ⟨hk.1.1.2, ⟨hk.1.2, hk.2⟩⟩⟩))))) (Reps.c3 (show Kd.FK k36 _ _ (⟨a1_0, l1_1, l1_2⟩ : S36) [.bool a1_0, .slice A1_1 l1_1.length c1_1, .slice A1_2 l1_2.length c1_2] from (k36_mkF _ _ (⟨a1_0, l1_1, l1_2⟩ : S36) (Kd.V_reads' (Kd.V_mono (ok' := (fun k_ => ((P0_1_ k_ ∨ P0_2_ k_ ∨ P1_1_ k_ ∨ P1_2_ k_) ∨ w.heap.size ≤ k_) ∧ k_ ≠ gb306 ∧ k_ ≠ gb307 ∧ k_ ≠ gb308)) (HO1_1.out) (fun k_ hk => ⟨hk.1.1.1, ⟨hk.1.1.2, ⟨hk.1.2, hk.2⟩⟩⟩))).2.1 (Kd.V_F (Kd.V_mono (ok' := (fun k_ => ((P0_1_ k_ ∨ P0_2_ k_ ∨ P1_1_ k_ ∨ P1_2_ k_) ∨ w.heap.size ≤ k_) ∧ k_ ≠ gb306 ∧ k_ ≠ gb307 ∧ k_ ≠ gb308)) (HO1_1.out) (fun k_ hk => ⟨hk.1.1.1, ⟨hk.1.1.2, ⟨hk.1.2, hk.2⟩⟩⟩))) (Kd.V_reads' (Kd.V_mono (ok' := (fun k_ => ((P0_1_ k_ ∨ P0_2_ k_ ∨ P1_1_ k_ ∨ P1_2_ k_) ∨ w.heap.size ≤ k_) ∧ k_ ≠ gb306 ∧ k_ ≠ gb307 ∧ k_ ≠ gb308)) (HO1_2.out) (fun k_ hk => ⟨hk.1.1.1, ⟨hk.1.1.2, ⟨hk.1.2, hk.2⟩⟩⟩))).2.1 (Kd.V_F (Kd.V_mono (ok' := (fun k_ => ((P0_1_ k_ ∨ P0_2_ k_ ∨ P1_1_ k_ ∨ P1_2_ k_) ∨ w.heap.size ≤ k_) ∧ k_ ≠ gb306 ∧ k_ ≠ gb307 ∧ k_ ≠ gb308)) (HO1_2.out) (fun k_ hk => ⟨hk.1.1.1, ⟨hk.1.1.2, ⟨hk.1.2, hk.2⟩⟩⟩))))) (Reps.none _ _)))); intro v310 w14 ho15 hb hg_ hnew_; clear hg_ hnew_; (first | rw [← Ny309.out] at ho15 | (simp only [Int.reduceToNat] at ho15; rw [← Ny309.out] at ho15)); have n0_ := Aside0.mk (Kd.V_elder' (by (with_reducible repeat (first | apply Kd.V_alloc | apply Kd.V_drewN | apply Kd.V_drew)); exact HO0_1.out) (Kd.N_base ho15) hb); have n1_ := Aside0.mk (Kd.V_elder' (by (with_reducible repeat (first | apply Kd.V_alloc | apply Kd.V_drewN | apply Kd.V_drew)); exact HO0_2.out) (Kd.N_base ho15) hb); have n2_ := Aside0.mk (Kd.V_elder' (by (with_reducible repeat (first | apply Kd.V_alloc | apply Kd.V_drewN | apply Kd.V_drew)); exact HO1_1.out) (Kd.N_base ho15) hb); have n3_ := Aside0.mk (Kd.V_elder' (by (with_reducible repeat (first | apply Kd.V_alloc | apply Kd.V_drewN | apply Kd.V_drew)); exact HO1_2.out) (Kd.N_base ho15) hb); have n4_ := Aside0.mk (Kd.N_lower ho15 (below_size (by repeat (first | (with_reducible first | exact HB.out | apply below_alloc | apply pw_below_drewN | apply below_drew1 | refine below_set ?_ GE306.out | refine below_set ?_ GE307.out | refine below_set ?_ GE308.out) | exact HB.out)))); have n5_ := Aside0.mk (blk_below (g := gb306) (o := .cells #[.bool a0_0, .slice A0_1 l0_1.length c0_1, .slice A0_2 l0_2.length c0_2] 36 (0, 0)) (by (with_reducible repeat (first | refine blk_drewN ?_ _ | refine blk_drew ?_ | refine blk_alloc ?_ _)); exact BK306.out) hb); have n6_ := Aside0.mk (blk_below (g := gb307) (o := .cells #[.bool a1_0, .slice A1_1 l1_1.length c1_1, .slice A1_2 l1_2.length c1_2] 36 (0, 0)) (by (with_reducible repeat (first | refine blk_drewN ?_ _ | refine blk_drew ?_ | refine blk_alloc ?_ _)); exact BK307.out) hb); have n7_ := Aside0.mk (blk_below (g := gb308) (o := .cells #[.bool false, .slice none 0 0, .slice none 0 0] 36 (0, 0)) (by (with_reducible repeat (first | refine blk_drewN ?_ _ | refine blk_drew ?_ | refine blk_alloc ?_ _)); exact BK308.out) hb); have n8_ := Aside0.mk (below_step (by repeat (first | (with_reducible first | exact HB.out | apply below_alloc | apply pw_below_drewN | apply below_drew1 | refine below_set ?_ GE306.out | refine below_set ?_ GE307.out | refine below_set ?_ GE308.out) | exact HB.out)) hb); clear HO0_1; clear HO0_2; clear HO1_1; clear HO1_2; clear BK306; clear BK307; clear BK308; clear HB; have HO0_1 := n0_; have HO0_2 := n1_; have HO1_1 := n2_; have HO1_2 := n3_; have HO311 := n4_; have BK306 := n5_; have BK307 := n6_; have BK308 := n7_; have HB := n8_; clear n0_ n1_ n2_ n3_ n4_ n5_ n6_ n7_ n8_; clear hb ho15; obtain ⟨Ao16, co16, eo16⟩ := Kd.N_slice HO311.out; subst eo16) | ((with_reducible refine gate_callee (f := 65) rfl ?_); refine goesL_ (some 9) rfl rfl Try.func65 (by kernel_rfl) rfl #[.slice Ao16 y309.length co16] rfl (by (try simp only [List.map_toArray, List.map_cons, List.map_nil]); first | done | rfl | (simp only [List.length_drop, List.length_take]; rfl)) ?_; (with_reducible refine (ratio_forms.calls k _ _ y309 true _ ?side1 ?side2 A3.out).mono ?_); (case side1 => repeat (first | exact (Kd.N_reads' HO311.out).2.2 | (with_reducible refine Kd.C_alloc ?_ _) | (with_reducible refine Kd.C_drewN ?_ _) | (with_reducible refine Kd.C_drew ?_))); (case side2 => exact (Kd.N_reads' HO311.out).2.1); rintro e w17 ⟨rfl, hb⟩; refine ⟨_, rfl, ?_⟩; have n0_ := Aside0.mk (Kd.V_below (by (with_reducible repeat (first | apply Kd.V_alloc | apply Kd.V_drewN | apply Kd.V_drew)); exact HO0_1.out) hb); have n1_ := Aside0.mk (Kd.V_below (by (with_reducible repeat (first | apply Kd.V_alloc | apply Kd.V_drewN | apply Kd.V_drew)); exact HO0_2.out) hb); have n2_ := Aside0.mk (Kd.V_below (by (with_reducible repeat (first | apply Kd.V_alloc | apply Kd.V_drewN | apply Kd.V_drew)); exact HO1_1.out) hb); have n3_ := Aside0.mk (Kd.V_below (by (with_reducible repeat (first | apply Kd.V_alloc | apply Kd.V_drewN | apply Kd.V_drew)); exact HO1_2.out) hb); have n4_ := Aside0.mk (Kd.N_below (by (with_reducible repeat (first | apply Kd.N_alloc | apply Kd.N_drewN | apply Kd.N_drew)); exact HO311.out) hb); have n5_ := Aside0.mk (blk_below (g := gb306) (o := .cells #[.bool a0_0, .slice A0_1 l0_1.length c0_1, .slice A0_2 l0_2.length c0_2] 36 (0, 0)) (by (with_reducible repeat (first | refine blk_drewN ?_ _ | refine blk_drew ?_ | refine blk_alloc ?_ _)); exact BK306.out) hb); have n6_ := Aside0.mk (blk_below (g := gb307) (o := .cells #[.bool a1_0, .slice A1_1 l1_1.length c1_1, .slice A1_2 l1_2.length c1_2] 36 (0, 0)) (by (with_reducible repeat (first | refine blk_drewN ?_ _ | refine blk_drew ?_ | refine blk_alloc ?_ _)); exact BK307.out) hb); have n7_ := Aside0.mk (blk_below (g := gb308) (o := .cells #[.bool false, .slice none 0 0, .slice none 0 0] 36 (0, 0)) (by (with_reducible repeat (first | refine blk_drewN ?_ _ | refine blk_drew ?_ | refine blk_alloc ?_ _)); exact BK308.out) hb); have n8_ := Aside0.mk (below_step (by repeat (first | (with_reducible first | exact HB.out | apply below_alloc | apply pw_below_drewN | apply below_drew1 | refine below_set ?_ GE306.out | refine below_set ?_ GE307.out | refine below_set ?_ GE308.out) | exact HB.out)) hb); clear HO0_1; clear HO0_2; clear HO1_1; clear HO1_2; clear HO311; clear BK306; clear BK307; clear BK308; clear HB; have HO0_1 := n0_; have HO0_2 := n1_; have HO1_1 := n2_; have HO1_2 := n3_; have HO311 := n4_; have BK306 := n5_; have BK307 := n6_; have BK308 := n7_; have HB := n8_; clear n0_ n1_ n2_ n3_ n4_ n5_ n6_ n7_ n8_; (try clear hb); (try clear hb2); (try clear hk); (try clear hi); have hcz18_0 : w17.cell? ⟨gb307, 0, none⟩ = some (.bool a1_0) := (blk_cell BK307.out 0).trans rfl; have hcz18_1 : w17.cell? ⟨gb307, 1, none⟩ = some (.slice A1_1 l1_1.length c1_1) := (blk_cell BK307.out 1).trans rfl; have hcz18_2 : w17.cell? ⟨gb307, 2, none⟩ = some (.slice A1_2 l1_2.length c1_2) := (blk_cell BK307.out 2).trans rfl; have hfz18_0 := blk_frozen BK307.out 0; have hfz18_1 := blk_frozen BK307.out 1; have hfz18_2 := blk_frozen BK307.out 2; have hcz19_0 : w17.cell? ⟨gb308, 0, none⟩ = some (.bool false) := (blk_cell BK308.out 0).trans rfl; have hcz19_1 : w17.cell? ⟨gb308, 1, none⟩ = some (.slice none 0 0) := (blk_cell BK308.out 1).trans rfl; have hcz19_2 : w17.cell? ⟨gb308, 2, none⟩ = some (.slice none 0 0) := (blk_cell BK308.out 2).trans rfl; have hfz19_0 := blk_frozen BK308.out 0; have hfz19_1 := blk_frozen BK308.out 1; have hfz19_2 := blk_frozen BK308.out 2))
      refine bodyPost_ret (results_ct rfl _ _ gb308 36 #[.bool false, .slice none 0 0, .slice none 0 0] (0, 0) _ rfl (by (with_reducible repeat (first | refine blk_drewN ?_ _ | refine blk_drew ?_ | refine blk_alloc ?_ _)); refine blk_put (cs := #[.bool false, .slice none 0 0, .slice none 0 0]) ?_ 2 _ rfl; (with_reducible repeat (first | refine blk_drewN ?_ _ | refine blk_drew ?_ | refine blk_alloc ?_ _)); refine blk_put (cs := #[.bool false, .slice none 0 0, .slice none 0 0]) ?_ 1 _ rfl; (with_reducible repeat (first | refine blk_drewN ?_ _ | refine blk_drew ?_ | refine blk_alloc ?_ _)); refine blk_put (cs := #[.bool false, .slice none 0 0, .slice none 0 0]) ?_ 0 _ rfl; (with_reducible repeat (first | refine blk_drewN ?_ _ | refine blk_drew ?_ | refine blk_alloc ?_ _)); exact BK308.out) Try.underlying36 rfl (by kernel_rfl)) rfl ?_
      exact ⟨_, _, by first | rfl | (simp [errW_none, errW_some] <;> rfl) | (simp [*, errW_none, errW_some] <;> rfl), by first | exact Kd.R_nil _ _ _ _ _ | exact Kd.N_nil _ _ _ _ _ | exact Kd.V_nil _ _ _ _ _ | exact Kd.Q_nil _ _ _ _ _ | exact Kd.S_nil _ _ _ _ _, by first | exact Kd.R_nil _ _ _ _ _ | exact Kd.N_nil _ _ _ _ _ | exact Kd.V_nil _ _ _ _ _ | exact Kd.Q_nil _ _ _ _ _ | exact Kd.S_nil _ _ _ _ _, by repeat (first | (with_reducible first | exact HB.out | apply below_alloc | apply pw_below_drewN | apply below_drew1 | refine below_set ?_ GE306.out | refine below_set ?_ GE307.out | refine below_set ?_ GE308.out) | exact HB.out)⟩
    · rw [if_neg c5] at H
      have c5b0 : ((l1_1.length : Int) == 0) = false := beq_eq_false_iff_ne.mpr c5
      have c5b1 : ((l1_1.length : Int) != 0) = true := bne_iff_ne.mpr c5
      have c5b2 : ¬ (l1_1 = []) := fun h_ => c5 (by rw [h_]; rfl)
      replace H := Option.bind_eq_some_iff.mp H
      obtain ⟨t313, A200, H⟩ := H
      replace H : ((nats_Mul.f k l0_2 l1_1).bind fun t316 => ((ratio_Make.f k (a0_0 != a1_0) t313 t316).bind fun bt319 => (some (bt319.1, bt319.2.1, bt319.2.2.1, bt319.2.2.2)))) = some (r1, r2, r3, r4) := H
      have A20 := Aside0.mk A200
      clear A200
      replace H := Option.bind_eq_some_iff.mp H
      obtain ⟨t316, A210, H⟩ := H
      replace H : ((ratio_Make.f k (a0_0 != a1_0) t313 t316).bind fun bt319 => (some (bt319.1, bt319.2.1, bt319.2.2.1, bt319.2.2.2))) = some (r1, r2, r3, r4) := H
      have A21 := Aside0.mk A210
      clear A210
      replace H := Option.bind_eq_some_iff.mp H
      obtain ⟨⟨t319, t320, t323, t326⟩, A220, H⟩ := H
      replace H : (some (t319, t320, t323, t326)) = some (r1, r2, r3, r4) := H
      have A22 := Aside0.mk A220
      clear A220
      simp only [Option.some.injEq, Prod.mk.injEq] at H
      obtain ⟨rfl, rfl, rfl, rfl⟩ := H
      go_enter Try.func33, Try.ntmps33
      try go_wp2_with (first | ((with_reducible refine gate_dst (N := 2) rfl ?_); refine box_event ?hg (N := 2) ?hd (cs := #[.bool a0_0, .slice A0_1 l0_1.length c0_1, .slice A0_2 l0_2.length c0_2]) (t := 36) ?hr ?_; (case hd => rfl); (case hg => rfl); (case hr => first | (go_simp; done) | (go_simp; rfl)); intro gb306 hg w23 hbox hb; have n0_ := Aside0.mk (Kd.V_below (Kd.V_elderB (by (with_reducible repeat (first | apply Kd.V_alloc | apply Kd.V_drewN | apply Kd.V_drew)); exact HO0_1.out) gb306 (Nat.le_of_eq hg.symm)) hb); have n1_ := Aside0.mk (Kd.V_below (Kd.V_elderB (by (with_reducible repeat (first | apply Kd.V_alloc | apply Kd.V_drewN | apply Kd.V_drew)); exact HO0_2.out) gb306 (Nat.le_of_eq hg.symm)) hb); have n2_ := Aside0.mk (Kd.V_below (Kd.V_elderB (by (with_reducible repeat (first | apply Kd.V_alloc | apply Kd.V_drewN | apply Kd.V_drew)); exact HO1_1.out) gb306 (Nat.le_of_eq hg.symm)) hb); have n3_ := Aside0.mk (Kd.V_below (Kd.V_elderB (by (with_reducible repeat (first | apply Kd.V_alloc | apply Kd.V_drewN | apply Kd.V_drew)); exact HO1_2.out) gb306 (Nat.le_of_eq hg.symm)) hb); have n4_ := Aside0.mk (below_step (by repeat (first | (with_reducible first | exact HB.out | apply below_alloc | apply pw_below_drewN | apply below_drew1) | exact HB.out)) hb); have n5_ := Aside0.mk (hbox); have n6_ := Aside0.mk ((by rw [hg]; exact (below_size (by repeat (first | (with_reducible first | exact HB.out | apply below_alloc | apply pw_below_drewN | apply below_drew1) | exact HB.out))) : w.heap.size ≤ gb306)); have n7_ := Aside0.mk ((by rw [hg]; exact (below_size (by repeat (first | (with_reducible first | exact HB.out | apply below_alloc | apply pw_below_drewN | apply below_drew1) | exact HB.out))) : w.heap.size ≤ gb306)); clear HO0_1; clear HO0_2; clear HO1_1; clear HO1_2; clear HB; have HO0_1 := n0_; have HO0_2 := n1_; have HO1_1 := n2_; have HO1_2 := n3_; have HB := n4_; have BK306 := n5_; have GW306 := n6_; have GE306 := n7_; clear n0_ n1_ n2_ n3_ n4_ n5_ n6_ n7_; clear hb hbox hg) | ((with_reducible refine gate_dst (N := 3) rfl ?_); refine box_event ?hg (N := 3) ?hd (cs := #[.bool a1_0, .slice A1_1 l1_1.length c1_1, .slice A1_2 l1_2.length c1_2]) (t := 36) ?hr ?_; (case hd => rfl); (case hg => rfl); (case hr => first | (go_simp; done) | (go_simp; rfl)); intro gb307 hg w24 hbox hb; have n0_ := Aside0.mk (Kd.V_below (Kd.V_elderB (by (with_reducible repeat (first | apply Kd.V_alloc | apply Kd.V_drewN | apply Kd.V_drew)); exact HO0_1.out) gb307 (Nat.le_of_eq hg.symm)) hb); have n1_ := Aside0.mk (Kd.V_below (Kd.V_elderB (by (with_reducible repeat (first | apply Kd.V_alloc | apply Kd.V_drewN | apply Kd.V_drew)); exact HO0_2.out) gb307 (Nat.le_of_eq hg.symm)) hb); have n2_ := Aside0.mk (Kd.V_below (Kd.V_elderB (by (with_reducible repeat (first | apply Kd.V_alloc | apply Kd.V_drewN | apply Kd.V_drew)); exact HO1_1.out) gb307 (Nat.le_of_eq hg.symm)) hb); have n3_ := Aside0.mk (Kd.V_below (Kd.V_elderB (by (with_reducible repeat (first | apply Kd.V_alloc | apply Kd.V_drewN | apply Kd.V_drew)); exact HO1_2.out) gb307 (Nat.le_of_eq hg.symm)) hb); have n4_ := Aside0.mk (blk_below (g := gb306) (o := .cells #[.bool a0_0, .slice A0_1 l0_1.length c0_1, .slice A0_2 l0_2.length c0_2] 36 (0, 0)) (by (with_reducible repeat (first | refine blk_drewN ?_ _ | refine blk_drew ?_ | refine blk_alloc ?_ _)); exact BK306.out) hb); have n5_ := Aside0.mk (below_step (by repeat (first | (with_reducible first | exact HB.out | apply below_alloc | apply pw_below_drewN | apply below_drew1 | refine below_set ?_ GE306.out) | exact HB.out)) hb); have n6_ := Aside0.mk (hbox); have n7_ := Aside0.mk ((by rw [hg]; exact (below_size (by repeat (first | (with_reducible first | exact HB.out | apply below_alloc | apply pw_below_drewN | apply below_drew1 | refine below_set ?_ GE306.out) | exact HB.out))) : w.heap.size ≤ gb307)); have n8_ := Aside0.mk ((by rw [hg]; exact (below_size (by repeat (first | (with_reducible first | exact HB.out | apply below_alloc | apply pw_below_drewN | apply below_drew1 | refine below_set ?_ GE306.out) | exact HB.out))) : w.heap.size ≤ gb307)); have n9_ := Aside0.mk ((by rw [hg]; exact Nat.ne_of_lt (blk_lt (g := gb306) (o := .cells #[.bool a0_0, .slice A0_1 l0_1.length c0_1, .slice A0_2 l0_2.length c0_2] 36 (0, 0)) (by (with_reducible repeat (first | refine blk_drewN ?_ _ | refine blk_drew ?_ | refine blk_alloc ?_ _)); exact BK306.out)) : gb306 ≠ gb307)); have n10_ := Aside0.mk ((by rw [hg]; exact Nat.ne_of_gt (blk_lt (g := gb306) (o := .cells #[.bool a0_0, .slice A0_1 l0_1.length c0_1, .slice A0_2 l0_2.length c0_2] 36 (0, 0)) (by (with_reducible repeat (first | refine blk_drewN ?_ _ | refine blk_drew ?_ | refine blk_alloc ?_ _)); exact BK306.out)) : gb307 ≠ gb306)); clear HO0_1; clear HO0_2; clear HO1_1; clear HO1_2; clear BK306; clear HB; have HO0_1 := n0_; have HO0_2 := n1_; have HO1_1 := n2_; have HO1_2 := n3_; have BK306 := n4_; have HB := n5_; have BK307 := n6_; have GW307 := n7_; have GE307 := n8_; have NB306_307 := n9_; have NB307_306 := n10_; clear n0_ n1_ n2_ n3_ n4_ n5_ n6_ n7_ n8_ n9_ n10_; clear hb hbox hg) | ((with_reducible refine gate_dst (N := 4) rfl ?_); refine box_event ?hg (N := 4) ?hd (cs := #[.bool false, .slice none 0 0, .slice none 0 0]) (t := 36) ?hr ?_; (case hd => rfl); (case hg => rfl); (case hr => first | (go_simp; done) | (go_simp; rfl)); intro gb308 hg w25 hbox hb; have n0_ := Aside0.mk (Kd.V_below (Kd.V_elderB (by (with_reducible repeat (first | apply Kd.V_alloc | apply Kd.V_drewN | apply Kd.V_drew)); exact HO0_1.out) gb308 (Nat.le_of_eq hg.symm)) hb); have n1_ := Aside0.mk (Kd.V_below (Kd.V_elderB (by (with_reducible repeat (first | apply Kd.V_alloc | apply Kd.V_drewN | apply Kd.V_drew)); exact HO0_2.out) gb308 (Nat.le_of_eq hg.symm)) hb); have n2_ := Aside0.mk (Kd.V_below (Kd.V_elderB (by (with_reducible repeat (first | apply Kd.V_alloc | apply Kd.V_drewN | apply Kd.V_drew)); exact HO1_1.out) gb308 (Nat.le_of_eq hg.symm)) hb); have n3_ := Aside0.mk (Kd.V_below (Kd.V_elderB (by (with_reducible repeat (first | apply Kd.V_alloc | apply Kd.V_drewN | apply Kd.V_drew)); exact HO1_2.out) gb308 (Nat.le_of_eq hg.symm)) hb); have n4_ := Aside0.mk (blk_below (g := gb306) (o := .cells #[.bool a0_0, .slice A0_1 l0_1.length c0_1, .slice A0_2 l0_2.length c0_2] 36 (0, 0)) (by (with_reducible repeat (first | refine blk_drewN ?_ _ | refine blk_drew ?_ | refine blk_alloc ?_ _)); exact BK306.out) hb); have n5_ := Aside0.mk (blk_below (g := gb307) (o := .cells #[.bool a1_0, .slice A1_1 l1_1.length c1_1, .slice A1_2 l1_2.length c1_2] 36 (0, 0)) (by (with_reducible repeat (first | refine blk_drewN ?_ _ | refine blk_drew ?_ | refine blk_alloc ?_ _)); exact BK307.out) hb); have n6_ := Aside0.mk (below_step (by repeat (first | (with_reducible first | exact HB.out | apply below_alloc | apply pw_below_drewN | apply below_drew1 | refine below_set ?_ GE306.out | refine below_set ?_ GE307.out) | exact HB.out)) hb); have n7_ := Aside0.mk (hbox); have n8_ := Aside0.mk ((by rw [hg]; exact (below_size (by repeat (first | (with_reducible first | exact HB.out | apply below_alloc | apply pw_below_drewN | apply below_drew1 | refine below_set ?_ GE306.out | refine below_set ?_ GE307.out) | exact HB.out))) : w.heap.size ≤ gb308)); have n9_ := Aside0.mk ((by rw [hg]; exact (below_size (by repeat (first | (with_reducible first | exact HB.out | apply below_alloc | apply pw_below_drewN | apply below_drew1 | refine below_set ?_ GE306.out | refine below_set ?_ GE307.out) | exact HB.out))) : w.heap.size ≤ gb308)); have n10_ := Aside0.mk ((by rw [hg]; exact Nat.ne_of_lt (blk_lt (g := gb306) (o := .cells #[.bool a0_0, .slice A0_1 l0_1.length c0_1, .slice A0_2 l0_2.length c0_2] 36 (0, 0)) (by (with_reducible repeat (first | refine blk_drewN ?_ _ | refine blk_drew ?_ | refine blk_alloc ?_ _)); exact BK306.out)) : gb306 ≠ gb308)); have n11_ := Aside0.mk ((by rw [hg]; exact Nat.ne_of_gt (blk_lt (g := gb306) (o := .cells #[.bool a0_0, .slice A0_1 l0_1.length c0_1, .slice A0_2 l0_2.length c0_2] 36 (0, 0)) (by (with_reducible repeat (first | refine blk_drewN ?_ _ | refine blk_drew ?_ | refine blk_alloc ?_ _)); exact BK306.out)) : gb308 ≠ gb306)); have n12_ := Aside0.mk ((by rw [hg]; exact Nat.ne_of_lt (blk_lt (g := gb307) (o := .cells #[.bool a1_0, .slice A1_1 l1_1.length c1_1, .slice A1_2 l1_2.length c1_2] 36 (0, 0)) (by (with_reducible repeat (first | refine blk_drewN ?_ _ | refine blk_drew ?_ | refine blk_alloc ?_ _)); exact BK307.out)) : gb307 ≠ gb308)); have n13_ := Aside0.mk ((by rw [hg]; exact Nat.ne_of_gt (blk_lt (g := gb307) (o := .cells #[.bool a1_0, .slice A1_1 l1_1.length c1_1, .slice A1_2 l1_2.length c1_2] 36 (0, 0)) (by (with_reducible repeat (first | refine blk_drewN ?_ _ | refine blk_drew ?_ | refine blk_alloc ?_ _)); exact BK307.out)) : gb308 ≠ gb307)); clear HO0_1; clear HO0_2; clear HO1_1; clear HO1_2; clear BK306; clear BK307; clear HB; have HO0_1 := n0_; have HO0_2 := n1_; have HO1_1 := n2_; have HO1_2 := n3_; have BK306 := n4_; have BK307 := n5_; have HB := n6_; have BK308 := n7_; have GW308 := n8_; have GE308 := n9_; have NB306_308 := n10_; have NB308_306 := n11_; have NB307_308 := n12_; have NB308_307 := n13_; clear n0_ n1_ n2_ n3_ n4_ n5_ n6_ n7_ n8_ n9_ n10_ n11_ n12_ n13_; clear hb hbox hg; have hnb26 := NB306_307.out; have hnc26 := NB307_306.out; have hnb27 := NB306_308.out; have hnc27 := NB308_306.out; have hcz28_0 : w25.cell? ⟨gb306, 0, none⟩ = some (.bool a0_0) := (blk_cell BK306.out 0).trans rfl; have hcz28_1 : w25.cell? ⟨gb306, 1, none⟩ = some (.slice A0_1 l0_1.length c0_1) := (blk_cell BK306.out 1).trans rfl; have hcz28_2 : w25.cell? ⟨gb306, 2, none⟩ = some (.slice A0_2 l0_2.length c0_2) := (blk_cell BK306.out 2).trans rfl; have hfz28_0 := blk_frozen BK306.out 0; have hfz28_1 := blk_frozen BK306.out 1; have hfz28_2 := blk_frozen BK306.out 2; have hnb29 := NB307_308.out; have hnc29 := NB308_307.out; have hcz30_0 : w25.cell? ⟨gb307, 0, none⟩ = some (.bool a1_0) := (blk_cell BK307.out 0).trans rfl; have hcz30_1 : w25.cell? ⟨gb307, 1, none⟩ = some (.slice A1_1 l1_1.length c1_1) := (blk_cell BK307.out 1).trans rfl; have hcz30_2 : w25.cell? ⟨gb307, 2, none⟩ = some (.slice A1_2 l1_2.length c1_2) := (blk_cell BK307.out 2).trans rfl; have hfz30_0 := blk_frozen BK307.out 0; have hfz30_1 := blk_frozen BK307.out 1; have hfz30_2 := blk_frozen BK307.out 2) | ((with_reducible refine gate_dst (N := 8) rfl ?_); refine Kd.N_lit k36 _ 36 ?hg (N' := 8) ?hd (xs := ([(⟨a0_0, l0_1, l0_2⟩ : S36), (⟨a1_0, l1_1, l1_2⟩ : S36)] : List (S36))) (inner := [.bool a0_0, .slice A0_1 l0_1.length c0_1, .slice A0_2 l0_2.length c0_2, .bool a1_0, .slice A1_1 l1_1.length c1_1, .slice A1_2 l1_2.length c1_2]) (ok := (fun k_ => ((P0_1_ k_ ∨ P0_2_ k_ ∨ P1_1_ k_ ∨ P1_2_ k_) ∨ w.heap.size ≤ k_) ∧ k_ ≠ gb306 ∧ k_ ≠ gb307 ∧ k_ ≠ gb308)) (okp := (fun k_ => ((P0_1_ k_ ∨ P0_2_ k_ ∨ P1_1_ k_ ∨ P1_2_ k_) ∨ w.heap.size ≤ k_) ∧ k_ ≠ gb306 ∧ k_ ≠ gb307 ∧ k_ ≠ gb308)) ?hr ?hp (fun _ hk => hk) ((show ∀ k_, w25.heap.size ≤ k_ → (fun k_ => ((P0_1_ k_ ∨ P0_2_ k_ ∨ P1_1_ k_ ∨ P1_2_ k_) ∨ w.heap.size ≤ k_) ∧ k_ ≠ gb306 ∧ k_ ≠ gb307 ∧ k_ ≠ gb308) k_ from fun k_ hk => ⟨(.inr (Nat.le_trans (below_size (by repeat (first | (with_reducible first | exact HB.out | apply below_alloc | apply pw_below_drewN | apply below_drew1 | refine below_set ?_ GE306.out | refine below_set ?_ GE307.out | refine below_set ?_ GE308.out) | exact HB.out))) hk)), Kd.freshB (g := gb306) (o := .cells #[.bool a0_0, .slice A0_1 l0_1.length c0_1, .slice A0_2 l0_2.length c0_2] 36 (0, 0)) (by (with_reducible repeat (first | refine blk_drewN ?_ _ | refine blk_drew ?_ | refine blk_alloc ?_ _)); exact BK306.out) k_ hk, Kd.freshB (g := gb307) (o := .cells #[.bool a1_0, .slice A1_1 l1_1.length c1_1, .slice A1_2 l1_2.length c1_2] 36 (0, 0)) (by (with_reducible repeat (first | refine blk_drewN ?_ _ | refine blk_drew ?_ | refine blk_alloc ?_ _)); exact BK307.out) k_ hk, Kd.freshB (g := gb308) (o := .cells #[.bool false, .slice none 0 0, .slice none 0 0] 36 (0, 0)) (by (with_reducible repeat (first | refine blk_drewN ?_ _ | refine blk_drew ?_ | refine blk_alloc ?_ _)); exact BK308.out) k_ hk⟩) _ (Nat.le_refl _)) (Below.refl _ _) (Nat.le_refl _) (by simp) ?_; (case hd => rfl); (case hg => rfl); (case hr => first | (go_simp; done) | (go_simp; rfl)); (case hp => exact (Reps.c3 (show Kd.FK k36 _ _ (⟨a0_0, l0_1, l0_2⟩ : S36) [.bool a0_0, .slice A0_1 l0_1.length c0_1, .slice A0_2 l0_2.length c0_2] from (k36_mkF _ _ (⟨a0_0, l0_1, l0_2⟩ : S36) (Kd.V_reads' (Kd.V_mono (ok' := (fun k_ => ((P0_1_ k_ ∨ P0_2_ k_ ∨ P1_1_ k_ ∨ P1_2_ k_) ∨ w.heap.size ≤ k_) ∧ k_ ≠ gb306 ∧ k_ ≠ gb307 ∧ k_ ≠ gb308)) (HO0_1.out) (fun k_ hk => ⟨hk.1.1.1, ⟨hk.1.1.2, ⟨hk.1.2, hk.2⟩⟩⟩))).2.1 (Kd.V_F (Kd.V_mono (ok' := (fun k_ => ((P0_1_ k_ ∨ P0_2_ k_ ∨ P1_1_ k_ ∨ P1_2_ k_) ∨ w.heap.size ≤ k_) ∧ k_ ≠ gb306 ∧ k_ ≠ gb307 ∧ k_ ≠ gb308)) (HO0_1.out) (fun k_ hk => ⟨hk.1.1.1, ⟨hk.1.1.2, ⟨hk.1.2, hk.2⟩⟩⟩))) (Kd.V_reads' (Kd.V_mono (ok' := (fun k_ => ((P0_1_ k_ ∨ P0_2_ k_ ∨ P1_1_ k_ ∨ P1_2_ k_) ∨ w.heap.size ≤ k_) ∧ k_ ≠ gb306 ∧ k_ ≠ gb307 ∧ k_ ≠ gb308)) (HO0_2.out) (fun k_ hk => ⟨hk.1.1.1, ⟨hk.1.1.2, ⟨hk.1.2, hk.2⟩⟩⟩))).2.1 (Kd.V_F (Kd.V_mono (ok' := (fun k_ => ((P0_1_ k_ ∨ P0_2_ k_ ∨ P1_1_ k_ ∨ P1_2_ k_) ∨ w.heap.size ≤ k_) ∧ k_ ≠ gb306 ∧ k_ ≠ gb307 ∧ k_ ≠ gb308)) (HO0_2.out) (fun k_ hk => ⟨hk.1.1.1, ⟨hk.1.1.2, ⟨hk.1.2, hk.2⟩⟩⟩))))) (Reps.c3 (show Kd.FK k36 _ _ (⟨a1_0, l1_1, l1_2⟩ : S36) [.bool a1_0, .slice A1_1 l1_1.length c1_1, .slice A1_2 l1_2.length c1_2] from (k36_mkF _ _ (⟨a1_0, l1_1, l1_2⟩ : S36) (Kd.V_reads' (Kd.V_mono (ok' := (fun k_ => ((P0_1_ k_ ∨ P0_2_ k_ ∨ P1_1_ k_ ∨ P1_2_ k_) ∨ w.heap.size ≤ k_) ∧ k_ ≠ gb306 ∧ k_ ≠ gb307 ∧ k_ ≠ gb308)) (HO1_1.out) (fun k_ hk => ⟨hk.1.1.1, ⟨hk.1.1.2, ⟨hk.1.2, hk.2⟩⟩⟩))).2.1 (Kd.V_F (Kd.V_mono (ok' := (fun k_ => ((P0_1_ k_ ∨ P0_2_ k_ ∨ P1_1_ k_ ∨ P1_2_ k_) ∨ w.heap.size ≤ k_) ∧ k_ ≠ gb306 ∧ k_ ≠ gb307 ∧ k_ ≠ gb308)) (HO1_1.out) (fun k_ hk => ⟨hk.1.1.1, ⟨hk.1.1.2, ⟨hk.1.2, hk.2⟩⟩⟩))) (Kd.V_reads' (Kd.V_mono (ok' := (fun k_ => ((P0_1_ k_ ∨ P0_2_ k_ ∨ P1_1_ k_ ∨ P1_2_ k_) ∨ w.heap.size ≤ k_) ∧ k_ ≠ gb306 ∧ k_ ≠ gb307 ∧ k_ ≠ gb308)) (HO1_2.out) (fun k_ hk => ⟨hk.1.1.1, ⟨hk.1.1.2, ⟨hk.1.2, hk.2⟩⟩⟩))).2.1 (Kd.V_F (Kd.V_mono (ok' := (fun k_ => ((P0_1_ k_ ∨ P0_2_ k_ ∨ P1_1_ k_ ∨ P1_2_ k_) ∨ w.heap.size ≤ k_) ∧ k_ ≠ gb306 ∧ k_ ≠ gb307 ∧ k_ ≠ gb308)) (HO1_2.out) (fun k_ hk => ⟨hk.1.1.1, ⟨hk.1.1.2, ⟨hk.1.2, hk.2⟩⟩⟩))))) (Reps.none _ _)))); intro v310 w31 ho32 hb hg_ hnew_; clear hg_ hnew_; (first | rw [← Ny309.out] at ho32 | (simp only [Int.reduceToNat] at ho32; rw [← Ny309.out] at ho32)); have n0_ := Aside0.mk (Kd.V_elder' (by (with_reducible repeat (first | apply Kd.V_alloc | apply Kd.V_drewN | apply Kd.V_drew)); exact HO0_1.out) (Kd.N_base ho32) hb); have n1_ := Aside0.mk (Kd.V_elder' (by (with_reducible repeat (first | apply Kd.V_alloc | apply Kd.V_drewN | apply Kd.V_drew)); exact HO0_2.out) (Kd.N_base ho32) hb); have n2_ := Aside0.mk (Kd.V_elder' (by (with_reducible repeat (first | apply Kd.V_alloc | apply Kd.V_drewN | apply Kd.V_drew)); exact HO1_1.out) (Kd.N_base ho32) hb); have n3_ := Aside0.mk (Kd.V_elder' (by (with_reducible repeat (first | apply Kd.V_alloc | apply Kd.V_drewN | apply Kd.V_drew)); exact HO1_2.out) (Kd.N_base ho32) hb); have n4_ := Aside0.mk (Kd.N_lower ho32 (below_size (by repeat (first | (with_reducible first | exact HB.out | apply below_alloc | apply pw_below_drewN | apply below_drew1 | refine below_set ?_ GE306.out | refine below_set ?_ GE307.out | refine below_set ?_ GE308.out) | exact HB.out)))); have n5_ := Aside0.mk (blk_below (g := gb306) (o := .cells #[.bool a0_0, .slice A0_1 l0_1.length c0_1, .slice A0_2 l0_2.length c0_2] 36 (0, 0)) (by (with_reducible repeat (first | refine blk_drewN ?_ _ | refine blk_drew ?_ | refine blk_alloc ?_ _)); exact BK306.out) hb); have n6_ := Aside0.mk (blk_below (g := gb307) (o := .cells #[.bool a1_0, .slice A1_1 l1_1.length c1_1, .slice A1_2 l1_2.length c1_2] 36 (0, 0)) (by (with_reducible repeat (first | refine blk_drewN ?_ _ | refine blk_drew ?_ | refine blk_alloc ?_ _)); exact BK307.out) hb); have n7_ := Aside0.mk (blk_below (g := gb308) (o := .cells #[.bool false, .slice none 0 0, .slice none 0 0] 36 (0, 0)) (by (with_reducible repeat (first | refine blk_drewN ?_ _ | refine blk_drew ?_ | refine blk_alloc ?_ _)); exact BK308.out) hb); have n8_ := Aside0.mk (below_step (by repeat (first | (with_reducible first | exact HB.out | apply below_alloc | apply pw_below_drewN | apply below_drew1 | refine below_set ?_ GE306.out | refine below_set ?_ GE307.out | refine below_set ?_ GE308.out) | exact HB.out)) hb); clear HO0_1; clear HO0_2; clear HO1_1; clear HO1_2; clear BK306; clear BK307; clear BK308; clear HB; have HO0_1 := n0_; have HO0_2 := n1_; have HO1_1 := n2_; have HO1_2 := n3_; have HO311 := n4_; have BK306 := n5_; have BK307 := n6_; have BK308 := n7_; have HB := n8_; clear n0_ n1_ n2_ n3_ n4_ n5_ n6_ n7_ n8_; clear hb ho32; obtain ⟨Ao33, co33, eo33⟩ := Kd.N_slice HO311.out; subst eo33) | ((with_reducible refine gate_callee (f := 65) rfl ?_); refine goesL_ (some 9) rfl rfl Try.func65 (by kernel_rfl) rfl #[.slice Ao33 y309.length co33] rfl (by (try simp only [List.map_toArray, List.map_cons, List.map_nil]); first | done | rfl | (simp only [List.length_drop, List.length_take]; rfl)) ?_; (with_reducible refine (ratio_forms.calls k _ _ y309 true _ ?side1 ?side2 A3.out).mono ?_); (case side1 => repeat (first | exact (Kd.N_reads' HO311.out).2.2 | (with_reducible refine Kd.C_alloc ?_ _) | (with_reducible refine Kd.C_drewN ?_ _) | (with_reducible refine Kd.C_drew ?_))); (case side2 => exact (Kd.N_reads' HO311.out).2.1); rintro e w34 ⟨rfl, hb⟩; refine ⟨_, rfl, ?_⟩; have n0_ := Aside0.mk (Kd.V_below (by (with_reducible repeat (first | apply Kd.V_alloc | apply Kd.V_drewN | apply Kd.V_drew)); exact HO0_1.out) hb); have n1_ := Aside0.mk (Kd.V_below (by (with_reducible repeat (first | apply Kd.V_alloc | apply Kd.V_drewN | apply Kd.V_drew)); exact HO0_2.out) hb); have n2_ := Aside0.mk (Kd.V_below (by (with_reducible repeat (first | apply Kd.V_alloc | apply Kd.V_drewN | apply Kd.V_drew)); exact HO1_1.out) hb); have n3_ := Aside0.mk (Kd.V_below (by (with_reducible repeat (first | apply Kd.V_alloc | apply Kd.V_drewN | apply Kd.V_drew)); exact HO1_2.out) hb); have n4_ := Aside0.mk (Kd.N_below (by (with_reducible repeat (first | apply Kd.N_alloc | apply Kd.N_drewN | apply Kd.N_drew)); exact HO311.out) hb); have n5_ := Aside0.mk (blk_below (g := gb306) (o := .cells #[.bool a0_0, .slice A0_1 l0_1.length c0_1, .slice A0_2 l0_2.length c0_2] 36 (0, 0)) (by (with_reducible repeat (first | refine blk_drewN ?_ _ | refine blk_drew ?_ | refine blk_alloc ?_ _)); exact BK306.out) hb); have n6_ := Aside0.mk (blk_below (g := gb307) (o := .cells #[.bool a1_0, .slice A1_1 l1_1.length c1_1, .slice A1_2 l1_2.length c1_2] 36 (0, 0)) (by (with_reducible repeat (first | refine blk_drewN ?_ _ | refine blk_drew ?_ | refine blk_alloc ?_ _)); exact BK307.out) hb); have n7_ := Aside0.mk (blk_below (g := gb308) (o := .cells #[.bool false, .slice none 0 0, .slice none 0 0] 36 (0, 0)) (by (with_reducible repeat (first | refine blk_drewN ?_ _ | refine blk_drew ?_ | refine blk_alloc ?_ _)); exact BK308.out) hb); have n8_ := Aside0.mk (below_step (by repeat (first | (with_reducible first | exact HB.out | apply below_alloc | apply pw_below_drewN | apply below_drew1 | refine below_set ?_ GE306.out | refine below_set ?_ GE307.out | refine below_set ?_ GE308.out) | exact HB.out)) hb); clear HO0_1; clear HO0_2; clear HO1_1; clear HO1_2; clear HO311; clear BK306; clear BK307; clear BK308; clear HB; have HO0_1 := n0_; have HO0_2 := n1_; have HO1_1 := n2_; have HO1_2 := n3_; have HO311 := n4_; have BK306 := n5_; have BK307 := n6_; have BK308 := n7_; have HB := n8_; clear n0_ n1_ n2_ n3_ n4_ n5_ n6_ n7_ n8_; (try clear hb); (try clear hb2); (try clear hk); (try clear hi); have hcz35_0 : w34.cell? ⟨gb307, 0, none⟩ = some (.bool a1_0) := (blk_cell BK307.out 0).trans rfl; have hcz35_1 : w34.cell? ⟨gb307, 1, none⟩ = some (.slice A1_1 l1_1.length c1_1) := (blk_cell BK307.out 1).trans rfl; have hcz35_2 : w34.cell? ⟨gb307, 2, none⟩ = some (.slice A1_2 l1_2.length c1_2) := (blk_cell BK307.out 2).trans rfl; have hfz35_0 := blk_frozen BK307.out 0; have hfz35_1 := blk_frozen BK307.out 1; have hfz35_2 := blk_frozen BK307.out 2))
      have n0_ := Aside0.mk (Kd.V_drew HO0_1.out)
      have n1_ := Aside0.mk (Kd.V_drew HO0_2.out)
      have n2_ := Aside0.mk (Kd.V_drew HO1_1.out)
      have n3_ := Aside0.mk (Kd.V_drew HO1_2.out)
      have n4_ := Aside0.mk (Kd.N_drew HO311.out)
      have n5_ := Aside0.mk (blk_drew BK306.out)
      have n6_ := Aside0.mk (blk_drew BK307.out)
      have n7_ := Aside0.mk (blk_drew BK308.out)
      have n8_ := Aside0.mk (below_drew1 HB.out)
      clear HO0_1
      clear HO0_2
      clear HO1_1
      clear HO1_2
      clear HO311
      clear BK306
      clear BK307
      clear BK308
      clear HB
      have HO0_1 := n0_
      have HO0_2 := n1_
      have HO1_1 := n2_
      have HO1_2 := n3_
      have HO311 := n4_
      have BK306 := n5_
      have BK307 := n6_
      have BK308 := n7_
      have HB := n8_
      clear n0_ n1_ n2_ n3_ n4_ n5_ n6_ n7_ n8_
      refine start_ (n := 20) (S := fun w' => w'.cell? ⟨gb306, 0, none⟩ = some (.bool a0_0) ∧ w'.cell? ⟨gb306, 1, none⟩ = some (.slice A0_1 l0_1.length c0_1) ∧ w'.cell? ⟨gb306, 2, none⟩ = some (.slice A0_2 l0_2.length c0_2) ∧ w'.cell? ⟨gb307, 0, none⟩ = some (.bool a1_0) ∧ w'.cell? ⟨gb307, 1, none⟩ = some (.slice A1_1 l1_1.length c1_1) ∧ w'.cell? ⟨gb307, 2, none⟩ = some (.slice A1_2 l1_2.length c1_2)) (ds := []) #[false, false, false, false, false, false, false, false, false, false, false, false, false, false, false, false, false, false, false, false] (by kernel_rfl) rfl rfl ⟨(blk_cell BK306.out 0).trans rfl, (blk_cell BK306.out 1).trans rfl, (blk_cell BK306.out 2).trans rfl, (blk_cell BK307.out 0).trans rfl, (blk_cell BK307.out 1).trans rfl, (blk_cell BK307.out 2).trans rfl⟩ (fun hHeld => ?_); refine with_tabW ratio_Div.tab5 ratio_Div.bits5 (fun HT_ HW_ => ?_)
      generalize w34.drew = w36 at HO0_1 HO0_2 HO1_1 HO1_2 HO311 BK306 BK307 BK308 HB hHeld ⊢
      refine pure_ (i := 0) (N := some 17) (v := ?_) (a' := ?_) #[true, false, false, false, false, false, false, false, false, false, false, false, false, false, false, false, false, false, false, false] rfl rfl (any_of HT_.out (by kernel_rfl)) (fun _ _ _ h => h) (Or.inl ⟨by rfl, ?_⟩) ?_ ?_
      rotate_left
      · intro w'
        go_simp
        with_reducible rfl
      rotate_left
      · simp only [Act.put, List.setIfInBounds_toArray, List.set_cons_zero, List.set_cons_succ, i64_w, i32_w]
        rfl
      refine pure_ (i := 2) (N := some 19) (v := ?_) (a' := ?_) #[true, false, true, false, false, false, false, false, false, false, false, false, false, false, false, false, false, false, false, false] rfl rfl (any_of HT_.out (by kernel_rfl)) (fun _ _ _ h => h) (Or.inl ⟨by rfl, ?_⟩) ?_ ?_
      rotate_left
      · intro w'
        go_simp
        with_reducible rfl
      rotate_left
      · simp only [Act.put, List.setIfInBounds_toArray, List.set_cons_zero, List.set_cons_succ, i64_w, i32_w]
        rfl
      refine pure_ (i := 5) (N := some 22) (v := ?_) (a' := ?_) #[true, false, true, false, false, true, false, false, false, false, false, false, false, false, false, false, false, false, false, false] rfl rfl (any_of HT_.out (by kernel_rfl)) (fun _ _ _ h => h) (Or.inl ⟨by rfl, ?_⟩) ?_ ?_
      rotate_left
      · intro w'
        go_simp
        with_reducible rfl
      rotate_left
      · simp only [Act.put, List.setIfInBounds_toArray, List.set_cons_zero, List.set_cons_succ, i64_w, i32_w]
        rfl
      refine pure_ (i := 7) (N := some 24) (v := ?_) (a' := ?_) #[true, false, true, false, false, true, false, true, false, false, false, false, false, false, false, false, false, false, false, false] rfl rfl (any_of HT_.out (by kernel_rfl)) (fun _ _ _ h => h) (Or.inl ⟨by rfl, ?_⟩) ?_ ?_
      rotate_left
      · intro w'
        go_simp
        with_reducible rfl
      rotate_left
      · simp only [Act.put, List.setIfInBounds_toArray, List.set_cons_zero, List.set_cons_succ, i64_w, i32_w]
        rfl
      refine pure_ (i := 10) (N := some 27) (v := ?_) (a' := ?_) #[true, false, true, false, false, true, false, true, false, false, true, false, false, false, false, false, false, false, false, false] rfl rfl (any_of HT_.out (by kernel_rfl)) (fun _ _ _ h => h) (Or.inl ⟨by rfl, ?_⟩) ?_ ?_
      rotate_left
      · intro w'
        go_simp
        with_reducible rfl
      rotate_left
      · simp only [Act.put, List.setIfInBounds_toArray, List.set_cons_zero, List.set_cons_succ, i64_w, i32_w]
        rfl
      refine pure_ (i := 12) (N := some 29) (v := ?_) (a' := ?_) #[true, false, true, false, false, true, false, true, false, false, true, false, true, false, false, false, false, false, false, false] rfl rfl (any_of HT_.out (by kernel_rfl)) (fun _ _ _ h => h) (Or.inl ⟨by rfl, ?_⟩) ?_ ?_
      rotate_left
      · intro w'
        go_simp
        with_reducible rfl
      rotate_left
      · simp only [Act.put, List.setIfInBounds_toArray, List.set_cons_zero, List.set_cons_succ, i64_w, i32_w]
        rfl
      refine take_ (i := 1) (N := some 18) (v := ?_) (a' := ?_) #[true, true, true, false, false, true, false, true, false, false, true, false, true, false, false, false, false, false, false, false] rfl rfl (take_ofW HT_.out HW_.out (by kernel_rfl)) (fun _ _ _ h => h) (Or.inl ⟨by rfl, ?_⟩) hHeld ?_ ?_
      rotate_left
      · rintro w' ⟨s0, s1, s2, s3, s4, s5⟩
        go_simp
        with_reducible rfl
      rotate_left
      · simp only [Act.put, List.setIfInBounds_toArray, List.set_cons_zero, List.set_cons_succ, i64_w, i32_w]
        rfl
      refine take_ (i := 3) (N := some 20) (v := ?_) (a' := ?_) #[true, true, true, true, false, true, false, true, false, false, true, false, true, false, false, false, false, false, false, false] rfl rfl (take_ofW HT_.out HW_.out (by kernel_rfl)) (fun _ _ _ h => h) (Or.inl ⟨by rfl, ?_⟩) hHeld ?_ ?_
      rotate_left
      · rintro w' ⟨s0, s1, s2, s3, s4, s5⟩
        go_simp
        with_reducible rfl
      rotate_left
      · simp only [Act.put, List.setIfInBounds_toArray, List.set_cons_zero, List.set_cons_succ, i64_w, i32_w]
        rfl
      refine pure_ (i := 4) (N := some 21) (v := ?_) (a' := ?_) #[true, true, true, true, true, true, false, true, false, false, true, false, true, false, false, false, false, false, false, false] rfl rfl (any_of HT_.out (by kernel_rfl)) (fun _ _ _ h => h) (Or.inl ⟨by rfl, ?_⟩) ?_ ?_
      rotate_left
      · intro w'
        go_simp
        with_reducible rfl
      rotate_left
      · simp only [Act.put, List.setIfInBounds_toArray, List.set_cons_zero, List.set_cons_succ, i64_w, i32_w]
        rfl
      refine take_ (i := 6) (N := some 23) (v := ?_) (a' := ?_) #[true, true, true, true, true, true, true, true, false, false, true, false, true, false, false, false, false, false, false, false] rfl rfl (take_ofW HT_.out HW_.out (by kernel_rfl)) (fun _ _ _ h => h) (Or.inl ⟨by rfl, ?_⟩) hHeld ?_ ?_
      rotate_left
      · rintro w' ⟨s0, s1, s2, s3, s4, s5⟩
        go_simp
        with_reducible rfl
      rotate_left
      · simp only [Act.put, List.setIfInBounds_toArray, List.set_cons_zero, List.set_cons_succ, i64_w, i32_w]
        rfl
      refine take_ (i := 8) (N := some 25) (v := ?_) (a' := ?_) #[true, true, true, true, true, true, true, true, true, false, true, false, true, false, false, false, false, false, false, false] rfl rfl (take_ofW HT_.out HW_.out (by kernel_rfl)) (fun _ _ _ h => h) (Or.inl ⟨by rfl, ?_⟩) hHeld ?_ ?_
      rotate_left
      · rintro w' ⟨s0, s1, s2, s3, s4, s5⟩
        go_simp
        with_reducible rfl
      rotate_left
      · simp only [Act.put, List.setIfInBounds_toArray, List.set_cons_zero, List.set_cons_succ, i64_w, i32_w]
        rfl
      refine take_ (i := 11) (N := some 28) (v := ?_) (a' := ?_) #[true, true, true, true, true, true, true, true, true, false, true, true, true, false, false, false, false, false, false, false] rfl rfl (take_ofW HT_.out HW_.out (by kernel_rfl)) (fun _ _ _ h => h) (Or.inl ⟨by rfl, ?_⟩) hHeld ?_ ?_
      rotate_left
      · rintro w' ⟨s0, s1, s2, s3, s4, s5⟩
        go_simp
        with_reducible rfl
      rotate_left
      · simp only [Act.put, List.setIfInBounds_toArray, List.set_cons_zero, List.set_cons_succ, i64_w, i32_w]
        rfl
      refine take_ (i := 13) (N := some 30) (v := ?_) (a' := ?_) #[true, true, true, true, true, true, true, true, true, false, true, true, true, true, false, false, false, false, false, false] rfl rfl (take_ofW HT_.out HW_.out (by kernel_rfl)) (fun _ _ _ h => h) (Or.inl ⟨by rfl, ?_⟩) hHeld ?_ ?_
      rotate_left
      · rintro w' ⟨s0, s1, s2, s3, s4, s5⟩
        go_simp
        with_reducible rfl
      rotate_left
      · simp only [Act.put, List.setIfInBounds_toArray, List.set_cons_zero, List.set_cons_succ, i64_w, i32_w]
        rfl
      refine one_ (i := 9) (N := some 26) #[true, true, true, true, true, true, true, true, true, true, true, true, true, true, false, false, false, false, false, false] rfl rfl (one_of HT_.out (by kernel_rfl)) (by decide) (fun K hK => ?_)
      refine goes_ Try.func67 (by kernel_rfl) rfl #[.slice A0_1 l0_1.length c0_1, .slice A1_2 l1_2.length c1_2] (by rfl) rfl rfl (by (try simp only [List.map_toArray, List.map_cons, List.map_nil]); first | done | rfl | (simp only [List.length_drop, List.length_take]; rfl)) ?_
      with_reducible refine (nats_Mul.calls k _ _ l0_1 _ _ l1_2 t313 _ ?side1 ?side2 ?side3 ?side4 A20.out).mono ?_
      (case side1 => repeat (first | exact (Kd.V_reads' HO0_1.out).2.2 | (with_reducible refine Kd.C_alloc ?_ _) | (with_reducible refine Kd.C_drewN ?_ _) | (with_reducible refine Kd.C_drew ?_)))
      (case side2 => exact (Kd.V_reads' HO0_1.out).2.1)
      (case side3 => repeat (first | exact (Kd.V_reads' HO1_2.out).2.2 | (with_reducible refine Kd.C_alloc ?_ _) | (with_reducible refine Kd.C_drewN ?_ _) | (with_reducible refine Kd.C_drew ?_)))
      (case side4 => exact (Kd.V_reads' HO1_2.out).2.1)
      rintro e w37 ⟨v314, rfl, ho0, hb⟩
      refine ⟨_, rfl, ?_⟩
      have n0_ := Aside0.mk (Kd.V_elder' (by (with_reducible repeat (first | apply Kd.V_alloc | apply Kd.V_drewN | apply Kd.V_drew)); exact HO0_1.out) (Kd.R_base ho0) hb)
      have n1_ := Aside0.mk (Kd.V_elder' (by (with_reducible repeat (first | apply Kd.V_alloc | apply Kd.V_drewN | apply Kd.V_drew)); exact HO0_2.out) (Kd.R_base ho0) hb)
      have n2_ := Aside0.mk (Kd.V_elder' (by (with_reducible repeat (first | apply Kd.V_alloc | apply Kd.V_drewN | apply Kd.V_drew)); exact HO1_1.out) (Kd.R_base ho0) hb)
      have n3_ := Aside0.mk (Kd.V_elder' (by (with_reducible repeat (first | apply Kd.V_alloc | apply Kd.V_drewN | apply Kd.V_drew)); exact HO1_2.out) (Kd.R_base ho0) hb)
      have n4_ := Aside0.mk (Kd.N_elder' (by (with_reducible repeat (first | apply Kd.N_alloc | apply Kd.N_drewN | apply Kd.N_drew)); exact HO311.out) (Kd.R_base ho0) hb)
      have n5_ := Aside0.mk (Kd.R_lower (Kd.R_newM (M := fun k_ => (w.heap.size ≤ k_)) ho0 (below_size (by repeat (first | (with_reducible first | exact HB.out | apply below_alloc | apply pw_below_drewN | apply below_drew1 | refine below_set ?_ GE306.out | refine below_set ?_ GE307.out | refine below_set ?_ GE308.out) | exact HB.out))) (fun k_ h_ => h_)) (below_size (by repeat (first | (with_reducible first | exact HB.out | apply below_alloc | apply pw_below_drewN | apply below_drew1 | refine below_set ?_ GE306.out | refine below_set ?_ GE307.out | refine below_set ?_ GE308.out) | exact HB.out))))
      have n6_ := Aside0.mk (blk_below (g := gb306) (o := .cells #[.bool a0_0, .slice A0_1 l0_1.length c0_1, .slice A0_2 l0_2.length c0_2] 36 (0, 0)) (by (with_reducible repeat (first | refine blk_drewN ?_ _ | refine blk_drew ?_ | refine blk_alloc ?_ _)); exact BK306.out) hb)
      have n7_ := Aside0.mk (blk_below (g := gb307) (o := .cells #[.bool a1_0, .slice A1_1 l1_1.length c1_1, .slice A1_2 l1_2.length c1_2] 36 (0, 0)) (by (with_reducible repeat (first | refine blk_drewN ?_ _ | refine blk_drew ?_ | refine blk_alloc ?_ _)); exact BK307.out) hb)
      have n8_ := Aside0.mk (blk_below (g := gb308) (o := .cells #[.bool false, .slice none 0 0, .slice none 0 0] 36 (0, 0)) (by (with_reducible repeat (first | refine blk_drewN ?_ _ | refine blk_drew ?_ | refine blk_alloc ?_ _)); exact BK308.out) hb)
      have n9_ := Aside0.mk (below_step (by repeat (first | (with_reducible first | exact HB.out | apply below_alloc | apply pw_below_drewN | apply below_drew1 | refine below_set ?_ GE306.out | refine below_set ?_ GE307.out | refine below_set ?_ GE308.out) | exact HB.out)) hb)
      clear HO0_1
      clear HO0_2
      clear HO1_1
      clear HO1_2
      clear HO311
      clear BK306
      clear BK307
      clear BK308
      clear HB
      have HO0_1 := n0_
      have HO0_2 := n1_
      have HO1_1 := n2_
      have HO1_2 := n3_
      have HO311 := n4_
      have HO315 := n5_
      have BK306 := n6_
      have BK307 := n7_
      have BK308 := n8_
      have HB := n9_
      clear n0_ n1_ n2_ n3_ n4_ n5_ n6_ n7_ n8_ n9_
      (try clear hb)
      (try clear hb2)
      (try clear hk)
      (try clear hi)
      (try clear ho0)
      refine hK.out _ _ ⟨(blk_cell BK306.out 0).trans rfl, (blk_cell BK306.out 1).trans rfl, (blk_cell BK306.out 2).trans rfl, (blk_cell BK307.out 0).trans rfl, (blk_cell BK307.out 1).trans rfl, (blk_cell BK307.out 2).trans rfl⟩ (fun hHeld => ?_)
      clear hK K
      refine norm_ (a' := ?_) ?_ ?_
      rotate_left
      · show Act.put _ (some 26) _ = _
        simp only [Act.put, List.setIfInBounds_toArray, List.set_cons_zero, List.set_cons_succ, i64_w, i32_w]
        rfl
      refine one_ (i := 14) (N := some 31) #[true, true, true, true, true, true, true, true, true, true, true, true, true, true, true, false, false, false, false, false] rfl rfl (one_of HT_.out (by kernel_rfl)) (by decide) (fun K hK => ?_)
      refine goes_ Try.func67 (by kernel_rfl) rfl #[.slice A0_2 l0_2.length c0_2, .slice A1_1 l1_1.length c1_1] (by rfl) rfl rfl (by (try simp only [List.map_toArray, List.map_cons, List.map_nil]); first | done | rfl | (simp only [List.length_drop, List.length_take]; rfl)) ?_
      with_reducible refine (nats_Mul.calls k _ _ l0_2 _ _ l1_1 t316 _ ?side1 ?side2 ?side3 ?side4 A21.out).mono ?_
      (case side1 => repeat (first | exact (Kd.V_reads' HO0_2.out).2.2 | (with_reducible refine Kd.C_alloc ?_ _) | (with_reducible refine Kd.C_drewN ?_ _) | (with_reducible refine Kd.C_drew ?_)))
      (case side2 => exact (Kd.V_reads' HO0_2.out).2.1)
      (case side3 => repeat (first | exact (Kd.V_reads' HO1_1.out).2.2 | (with_reducible refine Kd.C_alloc ?_ _) | (with_reducible refine Kd.C_drewN ?_ _) | (with_reducible refine Kd.C_drew ?_)))
      (case side4 => exact (Kd.V_reads' HO1_1.out).2.1)
      rintro e w38 ⟨v317, rfl, ho0, hb⟩
      refine ⟨_, rfl, ?_⟩
      have n0_ := Aside0.mk (Kd.V_elder' (by (with_reducible repeat (first | apply Kd.V_alloc | apply Kd.V_drewN | apply Kd.V_drew)); exact HO0_1.out) (Kd.R_base ho0) hb)
      have n1_ := Aside0.mk (Kd.V_elder' (by (with_reducible repeat (first | apply Kd.V_alloc | apply Kd.V_drewN | apply Kd.V_drew)); exact HO0_2.out) (Kd.R_base ho0) hb)
      have n2_ := Aside0.mk (Kd.V_elder' (by (with_reducible repeat (first | apply Kd.V_alloc | apply Kd.V_drewN | apply Kd.V_drew)); exact HO1_1.out) (Kd.R_base ho0) hb)
      have n3_ := Aside0.mk (Kd.V_elder' (by (with_reducible repeat (first | apply Kd.V_alloc | apply Kd.V_drewN | apply Kd.V_drew)); exact HO1_2.out) (Kd.R_base ho0) hb)
      have n4_ := Aside0.mk (Kd.N_elder' (by (with_reducible repeat (first | apply Kd.N_alloc | apply Kd.N_drewN | apply Kd.N_drew)); exact HO311.out) (Kd.R_base ho0) hb)
      have n5_ := Aside0.mk (Kd.R_elder' (by (with_reducible repeat (first | apply Kd.R_alloc | apply Kd.R_drewN | apply Kd.R_drew)); exact HO315.out) (Kd.R_base ho0) hb)
      have n6_ := Aside0.mk (Kd.R_lower (Kd.R_new' (Kd.R_newM (M := fun k_ => (w.heap.size ≤ k_)) ho0 (below_size (by repeat (first | (with_reducible first | exact HB.out | apply below_alloc | apply pw_below_drewN | apply below_drew1 | refine below_set ?_ GE306.out | refine below_set ?_ GE307.out | refine below_set ?_ GE308.out) | exact HB.out))) (fun k_ h_ => h_)) (Kd.R_lt (by (with_reducible repeat (first | apply Kd.R_alloc | apply Kd.R_drewN | apply Kd.R_drew)); exact HO315.out))) (below_size (by repeat (first | (with_reducible first | exact HB.out | apply below_alloc | apply pw_below_drewN | apply below_drew1 | refine below_set ?_ GE306.out | refine below_set ?_ GE307.out | refine below_set ?_ GE308.out) | exact HB.out))))
      have n7_ := Aside0.mk (blk_below (g := gb306) (o := .cells #[.bool a0_0, .slice A0_1 l0_1.length c0_1, .slice A0_2 l0_2.length c0_2] 36 (0, 0)) (by (with_reducible repeat (first | refine blk_drewN ?_ _ | refine blk_drew ?_ | refine blk_alloc ?_ _)); exact BK306.out) hb)
      have n8_ := Aside0.mk (blk_below (g := gb307) (o := .cells #[.bool a1_0, .slice A1_1 l1_1.length c1_1, .slice A1_2 l1_2.length c1_2] 36 (0, 0)) (by (with_reducible repeat (first | refine blk_drewN ?_ _ | refine blk_drew ?_ | refine blk_alloc ?_ _)); exact BK307.out) hb)
      have n9_ := Aside0.mk (blk_below (g := gb308) (o := .cells #[.bool false, .slice none 0 0, .slice none 0 0] 36 (0, 0)) (by (with_reducible repeat (first | refine blk_drewN ?_ _ | refine blk_drew ?_ | refine blk_alloc ?_ _)); exact BK308.out) hb)
      have n10_ := Aside0.mk (below_step (by repeat (first | (with_reducible first | exact HB.out | apply below_alloc | apply pw_below_drewN | apply below_drew1 | refine below_set ?_ GE306.out | refine below_set ?_ GE307.out | refine below_set ?_ GE308.out) | exact HB.out)) hb)
      clear HO0_1
      clear HO0_2
      clear HO1_1
      clear HO1_2
      clear HO311
      clear HO315
      clear BK306
      clear BK307
      clear BK308
      clear HB
      have HO0_1 := n0_
      have HO0_2 := n1_
      have HO1_1 := n2_
      have HO1_2 := n3_
      have HO311 := n4_
      have HO315 := n5_
      have HO318 := n6_
      have BK306 := n7_
      have BK307 := n8_
      have BK308 := n9_
      have HB := n10_
      clear n0_ n1_ n2_ n3_ n4_ n5_ n6_ n7_ n8_ n9_ n10_
      (try clear hb)
      (try clear hb2)
      (try clear hk)
      (try clear hi)
      (try clear ho0)
      obtain ⟨Ao39, co39, eo39⟩ := Kd.R_slice HO315.out
      (first | subst eo39 | (injection eo39 with f1_ f2_ f3_; have f4_ := f1_.symm; have f5_ := f3_.symm; clear f1_ f2_ f3_; subst f4_; subst f5_))
      obtain ⟨Ao40, co40, eo40⟩ := Kd.R_slice HO318.out
      (first | subst eo40 | (injection eo40 with f1_ f2_ f3_; have f4_ := f1_.symm; have f5_ := f3_.symm; clear f1_ f2_ f3_; subst f4_; subst f5_))
      refine hK.out _ _ ⟨(blk_cell BK306.out 0).trans rfl, (blk_cell BK306.out 1).trans rfl, (blk_cell BK306.out 2).trans rfl, (blk_cell BK307.out 0).trans rfl, (blk_cell BK307.out 1).trans rfl, (blk_cell BK307.out 2).trans rfl⟩ (fun hHeld => ?_)
      clear hK K
      refine norm_ (a' := ?_) ?_ ?_
      rotate_left
      · show Act.put _ (some 31) _ = _
        simp only [Act.put, List.setIfInBounds_toArray, List.set_cons_zero, List.set_cons_succ, i64_w, i32_w]
        rfl
      refine one_ (i := 15) (N := some 32) #[true, true, true, true, true, true, true, true, true, true, true, true, true, true, true, true, false, false, false, false] rfl rfl (one_of HT_.out (by kernel_rfl)) (by decide) (fun K hK => ?_)
      refine goes_ Try.func66 (by kernel_rfl) rfl #[.bool (a0_0 != a1_0), .slice Ao39 t313.length co39, .slice Ao40 t316.length co40] (by rfl) rfl rfl (by (try simp only [List.map_toArray, List.map_cons, List.map_nil]); first | done | rfl | (simp only [List.length_drop, List.length_take]; rfl)) ?_
      with_reducible refine (ratio_Make.calls k (a0_0 != a1_0) _ _ t313 _ _ t316 t319 t320 t323 t326 _ ?side1 ?side2 ?side3 ?side4 A22.out).mono ?_
      (case side1 => repeat (first | exact (Kd.R_reads' HO315.out).2.2 | (with_reducible refine Kd.C_alloc ?_ _) | (with_reducible refine Kd.C_drewN ?_ _) | (with_reducible refine Kd.C_drew ?_)))
      (case side2 => exact (Kd.R_reads' HO315.out).2.1)
      (case side3 => repeat (first | exact (Kd.R_reads' HO318.out).2.2 | (with_reducible refine Kd.C_alloc ?_ _) | (with_reducible refine Kd.C_drewN ?_ _) | (with_reducible refine Kd.C_drew ?_)))
      (case side4 => exact (Kd.R_reads' HO318.out).2.1)
      rintro e w41 ⟨v321, v324, rfl, ho0, ho1, hb⟩
      refine ⟨_, rfl, ?_⟩
      have n0_ := Aside0.mk (Kd.V_mono (Kd.V_told (Kd.V_told (Kd.V_old (by (with_reducible repeat (first | apply Kd.V_alloc | apply Kd.V_drewN | apply Kd.V_drew)); exact HO0_1.out) hb) (Kd.R_base ho0)) (Kd.R_base ho1)) (fun _ h_ => h_.1))
      have n1_ := Aside0.mk (Kd.V_mono (Kd.V_told (Kd.V_told (Kd.V_old (by (with_reducible repeat (first | apply Kd.V_alloc | apply Kd.V_drewN | apply Kd.V_drew)); exact HO0_2.out) hb) (Kd.R_base ho0)) (Kd.R_base ho1)) (fun _ h_ => h_.1))
      have n2_ := Aside0.mk (Kd.V_mono (Kd.V_told (Kd.V_told (Kd.V_old (by (with_reducible repeat (first | apply Kd.V_alloc | apply Kd.V_drewN | apply Kd.V_drew)); exact HO1_1.out) hb) (Kd.R_base ho0)) (Kd.R_base ho1)) (fun _ h_ => h_.1))
      have n3_ := Aside0.mk (Kd.V_mono (Kd.V_told (Kd.V_told (Kd.V_old (by (with_reducible repeat (first | apply Kd.V_alloc | apply Kd.V_drewN | apply Kd.V_drew)); exact HO1_2.out) hb) (Kd.R_base ho0)) (Kd.R_base ho1)) (fun _ h_ => h_.1))
      have n4_ := Aside0.mk (Kd.N_mono (Kd.N_told (Kd.N_told (Kd.N_old (by (with_reducible repeat (first | apply Kd.N_alloc | apply Kd.N_drewN | apply Kd.N_drew)); exact HO311.out) hb) (Kd.R_base ho0)) (Kd.R_base ho1)) (fun _ h_ => h_.1))
      have n5_ := Aside0.mk (Kd.R_mono (Kd.R_told (Kd.R_told (Kd.R_old (by (with_reducible repeat (first | apply Kd.R_alloc | apply Kd.R_drewN | apply Kd.R_drew)); exact HO315.out) hb) (Kd.R_base ho0)) (Kd.R_base ho1)) (fun _ h_ => h_.1))
      have n6_ := Aside0.mk (Kd.R_mono (Kd.R_told (Kd.R_told (Kd.R_old (by (with_reducible repeat (first | apply Kd.R_alloc | apply Kd.R_drewN | apply Kd.R_drew)); exact HO318.out) hb) (Kd.R_base ho0)) (Kd.R_base ho1)) (fun _ h_ => h_.1))
      have n7_ := Aside0.mk (Kd.R_lower (Kd.R_new' (Kd.R_new' (Kd.R_newM (M := fun k_ => (w.heap.size ≤ k_)) ho0 (below_size (by repeat (first | (with_reducible first | exact HB.out | apply below_alloc | apply pw_below_drewN | apply below_drew1 | refine below_set ?_ GE306.out | refine below_set ?_ GE307.out | refine below_set ?_ GE308.out) | exact HB.out))) (fun k_ h_ => h_)) (Kd.R_lt (by (with_reducible repeat (first | apply Kd.R_alloc | apply Kd.R_drewN | apply Kd.R_drew)); exact HO315.out))) (Kd.R_lt (by (with_reducible repeat (first | apply Kd.R_alloc | apply Kd.R_drewN | apply Kd.R_drew)); exact HO318.out))) (below_size (by repeat (first | (with_reducible first | exact HB.out | apply below_alloc | apply pw_below_drewN | apply below_drew1 | refine below_set ?_ GE306.out | refine below_set ?_ GE307.out | refine below_set ?_ GE308.out) | exact HB.out))))
      have n8_ := Aside0.mk (Kd.R_lower (Kd.R_new' (Kd.R_new' (Kd.R_newM (M := fun k_ => (w.heap.size ≤ k_)) ho1 (below_size (by repeat (first | (with_reducible first | exact HB.out | apply below_alloc | apply pw_below_drewN | apply below_drew1 | refine below_set ?_ GE306.out | refine below_set ?_ GE307.out | refine below_set ?_ GE308.out) | exact HB.out))) (fun k_ h_ => h_)) (Kd.R_lt (by (with_reducible repeat (first | apply Kd.R_alloc | apply Kd.R_drewN | apply Kd.R_drew)); exact HO315.out))) (Kd.R_lt (by (with_reducible repeat (first | apply Kd.R_alloc | apply Kd.R_drewN | apply Kd.R_drew)); exact HO318.out))) (below_size (by repeat (first | (with_reducible first | exact HB.out | apply below_alloc | apply pw_below_drewN | apply below_drew1 | refine below_set ?_ GE306.out | refine below_set ?_ GE307.out | refine below_set ?_ GE308.out) | exact HB.out))))
      have n9_ := Aside0.mk (blk_below (g := gb306) (o := .cells #[.bool a0_0, .slice A0_1 l0_1.length c0_1, .slice A0_2 l0_2.length c0_2] 36 (0, 0)) (by (with_reducible repeat (first | refine blk_drewN ?_ _ | refine blk_drew ?_ | refine blk_alloc ?_ _)); exact BK306.out) hb)
      have n10_ := Aside0.mk (blk_below (g := gb307) (o := .cells #[.bool a1_0, .slice A1_1 l1_1.length c1_1, .slice A1_2 l1_2.length c1_2] 36 (0, 0)) (by (with_reducible repeat (first | refine blk_drewN ?_ _ | refine blk_drew ?_ | refine blk_alloc ?_ _)); exact BK307.out) hb)
      have n11_ := Aside0.mk (blk_below (g := gb308) (o := .cells #[.bool false, .slice none 0 0, .slice none 0 0] 36 (0, 0)) (by (with_reducible repeat (first | refine blk_drewN ?_ _ | refine blk_drew ?_ | refine blk_alloc ?_ _)); exact BK308.out) hb)
      have n12_ := Aside0.mk (below_step (by repeat (first | (with_reducible first | exact HB.out | apply below_alloc | apply pw_below_drewN | apply below_drew1 | refine below_set ?_ GE306.out | refine below_set ?_ GE307.out | refine below_set ?_ GE308.out) | exact HB.out)) hb)
      clear HO0_1
      clear HO0_2
      clear HO1_1
      clear HO1_2
      clear HO311
      clear HO315
      clear HO318
      clear BK306
      clear BK307
      clear BK308
      clear HB
      have HO0_1 := n0_
      have HO0_2 := n1_
      have HO1_1 := n2_
      have HO1_2 := n3_
      have HO311 := n4_
      have HO315 := n5_
      have HO318 := n6_
      have HO322 := n7_
      have HO325 := n8_
      have BK306 := n9_
      have BK307 := n10_
      have BK308 := n11_
      have HB := n12_
      clear n0_ n1_ n2_ n3_ n4_ n5_ n6_ n7_ n8_ n9_ n10_ n11_ n12_
      (try clear hb)
      (try clear hb2)
      (try clear hk)
      (try clear hi)
      (try clear ho0)
      (try clear ho1)
      obtain ⟨Ao43, co43, eo43⟩ := Kd.R_slice HO322.out
      (first | subst eo43 | (injection eo43 with f1_ f2_ f3_; have f4_ := f1_.symm; have f5_ := f3_.symm; clear f1_ f2_ f3_; subst f4_; subst f5_))
      obtain ⟨Ao45, co45, eo45⟩ := Kd.R_slice HO325.out
      (first | subst eo45 | (injection eo45 with f1_ f2_ f3_; have f4_ := f1_.symm; have f5_ := f3_.symm; clear f1_ f2_ f3_; subst f4_; subst f5_))
      refine hK.out _ _ ⟨(blk_cell BK306.out 0).trans rfl, (blk_cell BK306.out 1).trans rfl, (blk_cell BK306.out 2).trans rfl, (blk_cell BK307.out 0).trans rfl, (blk_cell BK307.out 1).trans rfl, (blk_cell BK307.out 2).trans rfl⟩ (fun hHeld => ?_)
      clear hK K
      refine norm_ (a' := ?_) ?_ ?_
      rotate_left
      · show Act.put _ (some 32) _ = _
        simp only [Act.put, List.setIfInBounds_toArray, List.set_cons_zero, List.set_cons_succ, i64_w, i32_w]
        rfl
      refine pure_ (i := 16) (N := some 33) (v := ?_) (a' := ?_) #[true, true, true, true, true, true, true, true, true, true, true, true, true, true, true, true, true, false, false, false] rfl rfl (any_of HT_.out (by kernel_rfl)) (fun _ _ _ h => h) (Or.inl ⟨by rfl, ?_⟩) ?_ ?_
      rotate_left
      · intro w'
        go_simp
        with_reducible rfl
      rotate_left
      · simp only [Act.put, List.setIfInBounds_toArray, List.set_cons_zero, List.set_cons_succ, i64_w, i32_w]
        rfl
      refine pure_ (i := 17) (N := some 34) (v := ?_) (a' := ?_) #[true, true, true, true, true, true, true, true, true, true, true, true, true, true, true, true, true, true, false, false] rfl rfl (any_of HT_.out (by kernel_rfl)) (fun _ _ _ h => h) (Or.inl ⟨by rfl, ?_⟩) ?_ ?_
      rotate_left
      · intro w'
        go_simp
        with_reducible rfl
      rotate_left
      · simp only [Act.put, List.setIfInBounds_toArray, List.set_cons_zero, List.set_cons_succ, i64_w, i32_w]
        rfl
      refine one_ (i := 18) (N := none) #[true, true, true, true, true, true, true, true, true, true, true, true, true, true, true, true, true, true, true, false] rfl rfl (one_of HT_.out (by kernel_rfl)) (by decide) (fun K hK => ?_)
      have hs42 : w41.cell? ⟨gb308, 0, none⟩ = some (.bool false) := (blk_cell BK308.out 0).trans rfl
      have hfs42 := blk_frozen BK308.out 0
      have hns42_0 := NB306_308.out
      have hns42_1 := NB307_308.out
      have hms42_0 := NB308_306.out
      have hms42_1 := NB308_307.out
      have hs44 : w41.cell? ⟨gb308, 1, none⟩ = some (.slice none 0 0) := (blk_cell BK308.out 1).trans rfl
      have hfs44 := blk_frozen BK308.out 1
      have hns44_0 := NB306_308.out
      have hns44_1 := NB307_308.out
      have hms44_0 := NB308_306.out
      have hms44_1 := NB308_307.out
      have hs46 : w41.cell? ⟨gb308, 2, none⟩ = some (.slice none 0 0) := (blk_cell BK308.out 2).trans rfl
      have hfs46 := blk_frozen BK308.out 2
      have hns46_0 := NB306_308.out
      have hns46_1 := NB307_308.out
      have hms46_0 := NB308_306.out
      have hms46_1 := NB308_307.out
      refine skip_ (w1 := ?_) (by rfl) rfl ?_ ?_
      rotate_left
      · go_simp
        rfl
      refine hK.out _ _ ⟨((cell_far (p := ⟨gb308, _, none⟩) NB306_308.out _).trans (((cell_far (p := ⟨gb308, _, none⟩) NB306_308.out _).trans (((cell_far (p := ⟨gb308, _, none⟩) NB306_308.out _).trans (hHeld.1)))))), ((cell_far (p := ⟨gb308, _, none⟩) NB306_308.out _).trans (((cell_far (p := ⟨gb308, _, none⟩) NB306_308.out _).trans (((cell_far (p := ⟨gb308, _, none⟩) NB306_308.out _).trans (hHeld.2.1)))))), ((cell_far (p := ⟨gb308, _, none⟩) NB306_308.out _).trans (((cell_far (p := ⟨gb308, _, none⟩) NB306_308.out _).trans (((cell_far (p := ⟨gb308, _, none⟩) NB306_308.out _).trans (hHeld.2.2.1)))))), ((cell_far (p := ⟨gb308, _, none⟩) NB307_308.out _).trans (((cell_far (p := ⟨gb308, _, none⟩) NB307_308.out _).trans (((cell_far (p := ⟨gb308, _, none⟩) NB307_308.out _).trans (hHeld.2.2.2.1)))))), ((cell_far (p := ⟨gb308, _, none⟩) NB307_308.out _).trans (((cell_far (p := ⟨gb308, _, none⟩) NB307_308.out _).trans (((cell_far (p := ⟨gb308, _, none⟩) NB307_308.out _).trans (hHeld.2.2.2.2.1)))))), ((cell_far (p := ⟨gb308, _, none⟩) NB307_308.out _).trans (((cell_far (p := ⟨gb308, _, none⟩) NB307_308.out _).trans (((cell_far (p := ⟨gb308, _, none⟩) NB307_308.out _).trans (hHeld.2.2.2.2.2))))))⟩ (fun hHeld => ?_)
      clear hK K
      refine pure_ (i := 19) (N := some 5) (v := ?_) (a' := ?_) #[true, true, true, true, true, true, true, true, true, true, true, true, true, true, true, true, true, true, true, true] rfl rfl (any_of HT_.out (by kernel_rfl)) (fun _ _ _ h => h) (Or.inl ⟨by rfl, ?_⟩) ?_ ?_
      rotate_left
      · intro w'
        go_simp
        with_reducible rfl
      rotate_left
      · simp only [Act.put, List.setIfInBounds_toArray, List.set_cons_zero, List.set_cons_succ, i64_w, i32_w]
        rfl
      refine done_ (done_of HT_.out (by kernel_rfl)) ?_
      try go_wp2
      refine bodyPost_ret (results_ct rfl _ _ gb308 36 #[.bool t319, .slice Ao43 t320.length co43, .slice Ao45 t323.length co45] (0, 0) _ rfl (by (with_reducible repeat (first | refine blk_drewN ?_ _ | refine blk_drew ?_ | refine blk_alloc ?_ _)); refine blk_put (cs := #[.bool t319, .slice Ao43 t320.length co43, .slice none 0 0]) ?_ 2 _ rfl; (with_reducible repeat (first | refine blk_drewN ?_ _ | refine blk_drew ?_ | refine blk_alloc ?_ _)); refine blk_put (cs := #[.bool t319, .slice none 0 0, .slice none 0 0]) ?_ 1 _ rfl; (with_reducible repeat (first | refine blk_drewN ?_ _ | refine blk_drew ?_ | refine blk_alloc ?_ _)); refine blk_put (cs := #[.bool false, .slice none 0 0, .slice none 0 0]) ?_ 0 _ rfl; (with_reducible repeat (first | refine blk_drewN ?_ _ | refine blk_drew ?_ | refine blk_alloc ?_ _)); exact BK308.out) Try.underlying36 rfl (by kernel_rfl)) rfl ?_
      exact ⟨_, _, by first | rfl | (simp [errW_none, errW_some] <;> rfl) | (simp [*, errW_none, errW_some] <;> rfl), by (with_reducible repeat (first | apply Kd.R_alloc | apply Kd.R_drewN | apply Kd.R_drew)); exact Kd.R_mono (Kd.R_far (p := ⟨gb308, 2, none⟩) (Kd.R_far (p := ⟨gb308, 1, none⟩) (Kd.R_far (p := ⟨gb308, 0, none⟩) (Kd.R_types HO322.out BK308.out (by decide)) (fun _ hk => hk.2) (.bool t319)) (fun _ hk => hk.2) (.slice Ao43 t320.length co43)) (fun _ hk => hk.2) (.slice Ao45 t323.length co45)) (fun _ hk => ⟨hk.1.1.1.1, hk.1.1.1.2⟩), by (with_reducible repeat (first | apply Kd.R_alloc | apply Kd.R_drewN | apply Kd.R_drew)); exact Kd.R_mono (Kd.R_far (p := ⟨gb308, 2, none⟩) (Kd.R_far (p := ⟨gb308, 1, none⟩) (Kd.R_far (p := ⟨gb308, 0, none⟩) (Kd.R_types HO325.out BK308.out (by decide)) (fun _ hk => hk.2) (.bool t319)) (fun _ hk => hk.2) (.slice Ao43 t320.length co43)) (fun _ hk => hk.2) (.slice Ao45 t323.length co45)) (fun _ hk => ⟨hk.1.1.1.1, hk.1.1.1.2⟩), by repeat (first | (with_reducible first | exact HB.out | apply below_alloc | apply pw_below_drewN | apply below_drew1 | refine below_set ?_ GE306.out | refine below_set ?_ GE307.out | refine below_set ?_ GE308.out) | exact HB.out)⟩
  · replace c4 := Bool.eq_false_iff.mpr c4
    subst c4
    have H1 : (some (false, ([] : List Int), ([] : List Int), 20)) = some (r1, r2, r3, r4) := by rw [if_neg (show ¬ (false = true) by decide)] at H; exact H
    clear H
    have H := H1
    clear H1
    simp only [Option.some.injEq, Prod.mk.injEq] at H
    obtain ⟨rfl, rfl, rfl, rfl⟩ := H
    go_enter Try.func33, Try.ntmps33
    go_wp2_with (first | ((with_reducible refine gate_dst (N := 2) rfl ?_); refine box_event ?hg (N := 2) ?hd (cs := #[.bool a0_0, .slice A0_1 l0_1.length c0_1, .slice A0_2 l0_2.length c0_2]) (t := 36) ?hr ?_; (case hd => rfl); (case hg => rfl); (case hr => first | (go_simp; done) | (go_simp; rfl)); intro gb306 hg w47 hbox hb; have n0_ := Aside0.mk (Kd.V_below (Kd.V_elderB (by (with_reducible repeat (first | apply Kd.V_alloc | apply Kd.V_drewN | apply Kd.V_drew)); exact HO0_1.out) gb306 (Nat.le_of_eq hg.symm)) hb); have n1_ := Aside0.mk (Kd.V_below (Kd.V_elderB (by (with_reducible repeat (first | apply Kd.V_alloc | apply Kd.V_drewN | apply Kd.V_drew)); exact HO0_2.out) gb306 (Nat.le_of_eq hg.symm)) hb); have n2_ := Aside0.mk (Kd.V_below (Kd.V_elderB (by (with_reducible repeat (first | apply Kd.V_alloc | apply Kd.V_drewN | apply Kd.V_drew)); exact HO1_1.out) gb306 (Nat.le_of_eq hg.symm)) hb); have n3_ := Aside0.mk (Kd.V_below (Kd.V_elderB (by (with_reducible repeat (first | apply Kd.V_alloc | apply Kd.V_drewN | apply Kd.V_drew)); exact HO1_2.out) gb306 (Nat.le_of_eq hg.symm)) hb); have n4_ := Aside0.mk (below_step (by repeat (first | (with_reducible first | exact HB.out | apply below_alloc | apply pw_below_drewN | apply below_drew1) | exact HB.out)) hb); have n5_ := Aside0.mk (hbox); have n6_ := Aside0.mk ((by rw [hg]; exact (below_size (by repeat (first | (with_reducible first | exact HB.out | apply below_alloc | apply pw_below_drewN | apply below_drew1) | exact HB.out))) : w.heap.size ≤ gb306)); have n7_ := Aside0.mk ((by rw [hg]; exact (below_size (by repeat (first | (with_reducible first | exact HB.out | apply below_alloc | apply pw_below_drewN | apply below_drew1) | exact HB.out))) : w.heap.size ≤ gb306)); clear HO0_1; clear HO0_2; clear HO1_1; clear HO1_2; clear HB; have HO0_1 := n0_; have HO0_2 := n1_; have HO1_1 := n2_; have HO1_2 := n3_; have HB := n4_; have BK306 := n5_; have GW306 := n6_; have GE306 := n7_; clear n0_ n1_ n2_ n3_ n4_ n5_ n6_ n7_; clear hb hbox hg) | ((with_reducible refine gate_dst (N := 3) rfl ?_); refine box_event ?hg (N := 3) ?hd (cs := #[.bool a1_0, .slice A1_1 l1_1.length c1_1, .slice A1_2 l1_2.length c1_2]) (t := 36) ?hr ?_; (case hd => rfl); (case hg => rfl); (case hr => first | (go_simp; done) | (go_simp; rfl)); intro gb307 hg w48 hbox hb; have n0_ := Aside0.mk (Kd.V_below (Kd.V_elderB (by (with_reducible repeat (first | apply Kd.V_alloc | apply Kd.V_drewN | apply Kd.V_drew)); exact HO0_1.out) gb307 (Nat.le_of_eq hg.symm)) hb); have n1_ := Aside0.mk (Kd.V_below (Kd.V_elderB (by (with_reducible repeat (first | apply Kd.V_alloc | apply Kd.V_drewN | apply Kd.V_drew)); exact HO0_2.out) gb307 (Nat.le_of_eq hg.symm)) hb); have n2_ := Aside0.mk (Kd.V_below (Kd.V_elderB (by (with_reducible repeat (first | apply Kd.V_alloc | apply Kd.V_drewN | apply Kd.V_drew)); exact HO1_1.out) gb307 (Nat.le_of_eq hg.symm)) hb); have n3_ := Aside0.mk (Kd.V_below (Kd.V_elderB (by (with_reducible repeat (first | apply Kd.V_alloc | apply Kd.V_drewN | apply Kd.V_drew)); exact HO1_2.out) gb307 (Nat.le_of_eq hg.symm)) hb); have n4_ := Aside0.mk (blk_below (g := gb306) (o := .cells #[.bool a0_0, .slice A0_1 l0_1.length c0_1, .slice A0_2 l0_2.length c0_2] 36 (0, 0)) (by (with_reducible repeat (first | refine blk_drewN ?_ _ | refine blk_drew ?_ | refine blk_alloc ?_ _)); exact BK306.out) hb); have n5_ := Aside0.mk (below_step (by repeat (first | (with_reducible first | exact HB.out | apply below_alloc | apply pw_below_drewN | apply below_drew1 | refine below_set ?_ GE306.out) | exact HB.out)) hb); have n6_ := Aside0.mk (hbox); have n7_ := Aside0.mk ((by rw [hg]; exact (below_size (by repeat (first | (with_reducible first | exact HB.out | apply below_alloc | apply pw_below_drewN | apply below_drew1 | refine below_set ?_ GE306.out) | exact HB.out))) : w.heap.size ≤ gb307)); have n8_ := Aside0.mk ((by rw [hg]; exact (below_size (by repeat (first | (with_reducible first | exact HB.out | apply below_alloc | apply pw_below_drewN | apply below_drew1 | refine below_set ?_ GE306.out) | exact HB.out))) : w.heap.size ≤ gb307)); have n9_ := Aside0.mk ((by rw [hg]; exact Nat.ne_of_lt (blk_lt (g := gb306) (o := .cells #[.bool a0_0, .slice A0_1 l0_1.length c0_1, .slice A0_2 l0_2.length c0_2] 36 (0, 0)) (by (with_reducible repeat (first | refine blk_drewN ?_ _ | refine blk_drew ?_ | refine blk_alloc ?_ _)); exact BK306.out)) : gb306 ≠ gb307)); have n10_ := Aside0.mk ((by rw [hg]; exact Nat.ne_of_gt (blk_lt (g := gb306) (o := .cells #[.bool a0_0, .slice A0_1 l0_1.length c0_1, .slice A0_2 l0_2.length c0_2] 36 (0, 0)) (by (with_reducible repeat (first | refine blk_drewN ?_ _ | refine blk_drew ?_ | refine blk_alloc ?_ _)); exact BK306.out)) : gb307 ≠ gb306)); clear HO0_1; clear HO0_2; clear HO1_1; clear HO1_2; clear BK306; clear HB; have HO0_1 := n0_; have HO0_2 := n1_; have HO1_1 := n2_; have HO1_2 := n3_; have BK306 := n4_; have HB := n5_; have BK307 := n6_; have GW307 := n7_; have GE307 := n8_; have NB306_307 := n9_; have NB307_306 := n10_; clear n0_ n1_ n2_ n3_ n4_ n5_ n6_ n7_ n8_ n9_ n10_; clear hb hbox hg) | ((with_reducible refine gate_dst (N := 4) rfl ?_); refine box_event ?hg (N := 4) ?hd (cs := #[.bool false, .slice none 0 0, .slice none 0 0]) (t := 36) ?hr ?_; (case hd => rfl); (case hg => rfl); (case hr => first | (go_simp; done) | (go_simp; rfl)); intro gb308 hg w49 hbox hb; have n0_ := Aside0.mk (Kd.V_below (Kd.V_elderB (by (with_reducible repeat (first | apply Kd.V_alloc | apply Kd.V_drewN | apply Kd.V_drew)); exact HO0_1.out) gb308 (Nat.le_of_eq hg.symm)) hb); have n1_ := Aside0.mk (Kd.V_below (Kd.V_elderB (by (with_reducible repeat (first | apply Kd.V_alloc | apply Kd.V_drewN | apply Kd.V_drew)); exact HO0_2.out) gb308 (Nat.le_of_eq hg.symm)) hb); have n2_ := Aside0.mk (Kd.V_below (Kd.V_elderB (by (with_reducible repeat (first | apply Kd.V_alloc | apply Kd.V_drewN | apply Kd.V_drew)); exact HO1_1.out) gb308 (Nat.le_of_eq hg.symm)) hb); have n3_ := Aside0.mk (Kd.V_below (Kd.V_elderB (by (with_reducible repeat (first | apply Kd.V_alloc | apply Kd.V_drewN | apply Kd.V_drew)); exact HO1_2.out) gb308 (Nat.le_of_eq hg.symm)) hb); have n4_ := Aside0.mk (blk_below (g := gb306) (o := .cells #[.bool a0_0, .slice A0_1 l0_1.length c0_1, .slice A0_2 l0_2.length c0_2] 36 (0, 0)) (by (with_reducible repeat (first | refine blk_drewN ?_ _ | refine blk_drew ?_ | refine blk_alloc ?_ _)); exact BK306.out) hb); have n5_ := Aside0.mk (blk_below (g := gb307) (o := .cells #[.bool a1_0, .slice A1_1 l1_1.length c1_1, .slice A1_2 l1_2.length c1_2] 36 (0, 0)) (by (with_reducible repeat (first | refine blk_drewN ?_ _ | refine blk_drew ?_ | refine blk_alloc ?_ _)); exact BK307.out) hb); have n6_ := Aside0.mk (below_step (by repeat (first | (with_reducible first | exact HB.out | apply below_alloc | apply pw_below_drewN | apply below_drew1 | refine below_set ?_ GE306.out | refine below_set ?_ GE307.out) | exact HB.out)) hb); have n7_ := Aside0.mk (hbox); have n8_ := Aside0.mk ((by rw [hg]; exact (below_size (by repeat (first | (with_reducible first | exact HB.out | apply below_alloc | apply pw_below_drewN | apply below_drew1 | refine below_set ?_ GE306.out | refine below_set ?_ GE307.out) | exact HB.out))) : w.heap.size ≤ gb308)); have n9_ := Aside0.mk ((by rw [hg]; exact (below_size (by repeat (first | (with_reducible first | exact HB.out | apply below_alloc | apply pw_below_drewN | apply below_drew1 | refine below_set ?_ GE306.out | refine below_set ?_ GE307.out) | exact HB.out))) : w.heap.size ≤ gb308)); have n10_ := Aside0.mk ((by rw [hg]; exact Nat.ne_of_lt (blk_lt (g := gb306) (o := .cells #[.bool a0_0, .slice A0_1 l0_1.length c0_1, .slice A0_2 l0_2.length c0_2] 36 (0, 0)) (by (with_reducible repeat (first | refine blk_drewN ?_ _ | refine blk_drew ?_ | refine blk_alloc ?_ _)); exact BK306.out)) : gb306 ≠ gb308)); have n11_ := Aside0.mk ((by rw [hg]; exact Nat.ne_of_gt (blk_lt (g := gb306) (o := .cells #[.bool a0_0, .slice A0_1 l0_1.length c0_1, .slice A0_2 l0_2.length c0_2] 36 (0, 0)) (by (with_reducible repeat (first | refine blk_drewN ?_ _ | refine blk_drew ?_ | refine blk_alloc ?_ _)); exact BK306.out)) : gb308 ≠ gb306)); have n12_ := Aside0.mk ((by rw [hg]; exact Nat.ne_of_lt (blk_lt (g := gb307) (o := .cells #[.bool a1_0, .slice A1_1 l1_1.length c1_1, .slice A1_2 l1_2.length c1_2] 36 (0, 0)) (by (with_reducible repeat (first | refine blk_drewN ?_ _ | refine blk_drew ?_ | refine blk_alloc ?_ _)); exact BK307.out)) : gb307 ≠ gb308)); have n13_ := Aside0.mk ((by rw [hg]; exact Nat.ne_of_gt (blk_lt (g := gb307) (o := .cells #[.bool a1_0, .slice A1_1 l1_1.length c1_1, .slice A1_2 l1_2.length c1_2] 36 (0, 0)) (by (with_reducible repeat (first | refine blk_drewN ?_ _ | refine blk_drew ?_ | refine blk_alloc ?_ _)); exact BK307.out)) : gb308 ≠ gb307)); clear HO0_1; clear HO0_2; clear HO1_1; clear HO1_2; clear BK306; clear BK307; clear HB; have HO0_1 := n0_; have HO0_2 := n1_; have HO1_1 := n2_; have HO1_2 := n3_; have BK306 := n4_; have BK307 := n5_; have HB := n6_; have BK308 := n7_; have GW308 := n8_; have GE308 := n9_; have NB306_308 := n10_; have NB308_306 := n11_; have NB307_308 := n12_; have NB308_307 := n13_; clear n0_ n1_ n2_ n3_ n4_ n5_ n6_ n7_ n8_ n9_ n10_ n11_ n12_ n13_; clear hb hbox hg; have hnb50 := NB306_307.out; have hnc50 := NB307_306.out; have hnb51 := NB306_308.out; have hnc51 := NB308_306.out; have hcz52_0 : w49.cell? ⟨gb306, 0, none⟩ = some (.bool a0_0) := (blk_cell BK306.out 0).trans rfl; have hcz52_1 : w49.cell? ⟨gb306, 1, none⟩ = some (.slice A0_1 l0_1.length c0_1) := (blk_cell BK306.out 1).trans rfl; have hcz52_2 : w49.cell? ⟨gb306, 2, none⟩ = some (.slice A0_2 l0_2.length c0_2) := (blk_cell BK306.out 2).trans rfl; have hfz52_0 := blk_frozen BK306.out 0; have hfz52_1 := blk_frozen BK306.out 1; have hfz52_2 := blk_frozen BK306.out 2; have hnb53 := NB307_308.out; have hnc53 := NB308_307.out; have hcz54_0 : w49.cell? ⟨gb307, 0, none⟩ = some (.bool a1_0) := (blk_cell BK307.out 0).trans rfl; have hcz54_1 : w49.cell? ⟨gb307, 1, none⟩ = some (.slice A1_1 l1_1.length c1_1) := (blk_cell BK307.out 1).trans rfl; have hcz54_2 : w49.cell? ⟨gb307, 2, none⟩ = some (.slice A1_2 l1_2.length c1_2) := (blk_cell BK307.out 2).trans rfl; have hfz54_0 := blk_frozen BK307.out 0; have hfz54_1 := blk_frozen BK307.out 1; have hfz54_2 := blk_frozen BK307.out 2) | ((with_reducible refine gate_dst (N := 8) rfl ?_); refine Kd.N_lit k36 _ 36 ?hg (N' := 8) ?hd (xs := ([(⟨a0_0, l0_1, l0_2⟩ : S36), (⟨a1_0, l1_1, l1_2⟩ : S36)] : List (S36))) (inner := [.bool a0_0, .slice A0_1 l0_1.length c0_1, .slice A0_2 l0_2.length c0_2, .bool a1_0, .slice A1_1 l1_1.length c1_1, .slice A1_2 l1_2.length c1_2]) (ok := (fun k_ => ((P0_1_ k_ ∨ P0_2_ k_ ∨ P1_1_ k_ ∨ P1_2_ k_) ∨ w.heap.size ≤ k_) ∧ k_ ≠ gb306 ∧ k_ ≠ gb307 ∧ k_ ≠ gb308)) (okp := (fun k_ => ((P0_1_ k_ ∨ P0_2_ k_ ∨ P1_1_ k_ ∨ P1_2_ k_) ∨ w.heap.size ≤ k_) ∧ k_ ≠ gb306 ∧ k_ ≠ gb307 ∧ k_ ≠ gb308)) ?hr ?hp (fun _ hk => hk) ((show ∀ k_, w49.heap.size ≤ k_ → (fun k_ => ((P0_1_ k_ ∨ P0_2_ k_ ∨ P1_1_ k_ ∨ P1_2_ k_) ∨ w.heap.size ≤ k_) ∧ k_ ≠ gb306 ∧ k_ ≠ gb307 ∧ k_ ≠ gb308) k_ from fun k_ hk => ⟨(.inr (Nat.le_trans (below_size (by repeat (first | (with_reducible first | exact HB.out | apply below_alloc | apply pw_below_drewN | apply below_drew1 | refine below_set ?_ GE306.out | refine below_set ?_ GE307.out | refine below_set ?_ GE308.out) | exact HB.out))) hk)), Kd.freshB (g := gb306) (o := .cells #[.bool a0_0, .slice A0_1 l0_1.length c0_1, .slice A0_2 l0_2.length c0_2] 36 (0, 0)) (by (with_reducible repeat (first | refine blk_drewN ?_ _ | refine blk_drew ?_ | refine blk_alloc ?_ _)); exact BK306.out) k_ hk, Kd.freshB (g := gb307) (o := .cells #[.bool a1_0, .slice A1_1 l1_1.length c1_1, .slice A1_2 l1_2.length c1_2] 36 (0, 0)) (by (with_reducible repeat (first | refine blk_drewN ?_ _ | refine blk_drew ?_ | refine blk_alloc ?_ _)); exact BK307.out) k_ hk, Kd.freshB (g := gb308) (o := .cells #[.bool false, .slice none 0 0, .slice none 0 0] 36 (0, 0)) (by (with_reducible repeat (first | refine blk_drewN ?_ _ | refine blk_drew ?_ | refine blk_alloc ?_ _)); exact BK308.out) k_ hk⟩) _ (Nat.le_refl _)) (Below.refl _ _) (Nat.le_refl _) (by simp) ?_; (case hd => rfl); (case hg => rfl); (case hr => first | (go_simp; done) | (go_simp; rfl)); (case hp => exact (Reps.c3 (show Kd.FK k36 _ _ (⟨a0_0, l0_1, l0_2⟩ : S36) [.bool a0_0, .slice A0_1 l0_1.length c0_1, .slice A0_2 l0_2.length c0_2] from (k36_mkF _ _ (⟨a0_0, l0_1, l0_2⟩ : S36) (Kd.V_reads' (Kd.V_mono (ok' := (fun k_ => ((P0_1_ k_ ∨ P0_2_ k_ ∨ P1_1_ k_ ∨ P1_2_ k_) ∨ w.heap.size ≤ k_) ∧ k_ ≠ gb306 ∧ k_ ≠ gb307 ∧ k_ ≠ gb308)) (HO0_1.out) (fun k_ hk => ⟨hk.1.1.1, ⟨hk.1.1.2, ⟨hk.1.2, hk.2⟩⟩⟩))).2.1 (Kd.V_F (Kd.V_mono (ok' := (fun k_ => ((P0_1_ k_ ∨ P0_2_ k_ ∨ P1_1_ k_ ∨ P1_2_ k_) ∨ w.heap.size ≤ k_) ∧ k_ ≠ gb306 ∧ k_ ≠ gb307 ∧ k_ ≠ gb308)) (HO0_1.out) (fun k_ hk => ⟨hk.1.1.1, ⟨hk.1.1.2, ⟨hk.1.2, hk.2⟩⟩⟩))) (Kd.V_reads' (Kd.V_mono (ok' := (fun k_ => ((P0_1_ k_ ∨ P0_2_ k_ ∨ P1_1_ k_ ∨ P1_2_ k_) ∨ w.heap.size ≤ k_) ∧ k_ ≠ gb306 ∧ k_ ≠ gb307 ∧ k_ ≠ gb308)) (HO0_2.out) (fun k_ hk => ⟨hk.1.1.1, ⟨hk.1.1.2, ⟨hk.1.2, hk.2⟩⟩⟩))).2.1 (Kd.V_F (Kd.V_mono (ok' := (fun k_ => ((P0_1_ k_ ∨ P0_2_ k_ ∨ P1_1_ k_ ∨ P1_2_ k_) ∨ w.heap.size ≤ k_) ∧ k_ ≠ gb306 ∧ k_ ≠ gb307 ∧ k_ ≠ gb308)) (HO0_2.out) (fun k_ hk => ⟨hk.1.1.1, ⟨hk.1.1.2, ⟨hk.1.2, hk.2⟩⟩⟩))))) (Reps.c3 (show Kd.FK k36 _ _ (⟨a1_0, l1_1, l1_2⟩ : S36) [.bool a1_0, .slice A1_1 l1_1.length c1_1, .slice A1_2 l1_2.length c1_2] from (k36_mkF _ _ (⟨a1_0, l1_1, l1_2⟩ : S36) (Kd.V_reads' (Kd.V_mono (ok' := (fun k_ => ((P0_1_ k_ ∨ P0_2_ k_ ∨ P1_1_ k_ ∨ P1_2_ k_) ∨ w.heap.size ≤ k_) ∧ k_ ≠ gb306 ∧ k_ ≠ gb307 ∧ k_ ≠ gb308)) (HO1_1.out) (fun k_ hk => ⟨hk.1.1.1, ⟨hk.1.1.2, ⟨hk.1.2, hk.2⟩⟩⟩))).2.1 (Kd.V_F (Kd.V_mono (ok' := (fun k_ => ((P0_1_ k_ ∨ P0_2_ k_ ∨ P1_1_ k_ ∨ P1_2_ k_) ∨ w.heap.size ≤ k_) ∧ k_ ≠ gb306 ∧ k_ ≠ gb307 ∧ k_ ≠ gb308)) (HO1_1.out) (fun k_ hk => ⟨hk.1.1.1, ⟨hk.1.1.2, ⟨hk.1.2, hk.2⟩⟩⟩))) (Kd.V_reads' (Kd.V_mono (ok' := (fun k_ => ((P0_1_ k_ ∨ P0_2_ k_ ∨ P1_1_ k_ ∨ P1_2_ k_) ∨ w.heap.size ≤ k_) ∧ k_ ≠ gb306 ∧ k_ ≠ gb307 ∧ k_ ≠ gb308)) (HO1_2.out) (fun k_ hk => ⟨hk.1.1.1, ⟨hk.1.1.2, ⟨hk.1.2, hk.2⟩⟩⟩))).2.1 (Kd.V_F (Kd.V_mono (ok' := (fun k_ => ((P0_1_ k_ ∨ P0_2_ k_ ∨ P1_1_ k_ ∨ P1_2_ k_) ∨ w.heap.size ≤ k_) ∧ k_ ≠ gb306 ∧ k_ ≠ gb307 ∧ k_ ≠ gb308)) (HO1_2.out) (fun k_ hk => ⟨hk.1.1.1, ⟨hk.1.1.2, ⟨hk.1.2, hk.2⟩⟩⟩))))) (Reps.none _ _)))); intro v310 w55 ho56 hb hg_ hnew_; clear hg_ hnew_; (first | rw [← Ny309.out] at ho56 | (simp only [Int.reduceToNat] at ho56; rw [← Ny309.out] at ho56)); have n0_ := Aside0.mk (Kd.V_elder' (by (with_reducible repeat (first | apply Kd.V_alloc | apply Kd.V_drewN | apply Kd.V_drew)); exact HO0_1.out) (Kd.N_base ho56) hb); have n1_ := Aside0.mk (Kd.V_elder' (by (with_reducible repeat (first | apply Kd.V_alloc | apply Kd.V_drewN | apply Kd.V_drew)); exact HO0_2.out) (Kd.N_base ho56) hb); have n2_ := Aside0.mk (Kd.V_elder' (by (with_reducible repeat (first | apply Kd.V_alloc | apply Kd.V_drewN | apply Kd.V_drew)); exact HO1_1.out) (Kd.N_base ho56) hb); have n3_ := Aside0.mk (Kd.V_elder' (by (with_reducible repeat (first | apply Kd.V_alloc | apply Kd.V_drewN | apply Kd.V_drew)); exact HO1_2.out) (Kd.N_base ho56) hb); have n4_ := Aside0.mk (Kd.N_lower ho56 (below_size (by repeat (first | (with_reducible first | exact HB.out | apply below_alloc | apply pw_below_drewN | apply below_drew1 | refine below_set ?_ GE306.out | refine below_set ?_ GE307.out | refine below_set ?_ GE308.out) | exact HB.out)))); have n5_ := Aside0.mk (blk_below (g := gb306) (o := .cells #[.bool a0_0, .slice A0_1 l0_1.length c0_1, .slice A0_2 l0_2.length c0_2] 36 (0, 0)) (by (with_reducible repeat (first | refine blk_drewN ?_ _ | refine blk_drew ?_ | refine blk_alloc ?_ _)); exact BK306.out) hb); have n6_ := Aside0.mk (blk_below (g := gb307) (o := .cells #[.bool a1_0, .slice A1_1 l1_1.length c1_1, .slice A1_2 l1_2.length c1_2] 36 (0, 0)) (by (with_reducible repeat (first | refine blk_drewN ?_ _ | refine blk_drew ?_ | refine blk_alloc ?_ _)); exact BK307.out) hb); have n7_ := Aside0.mk (blk_below (g := gb308) (o := .cells #[.bool false, .slice none 0 0, .slice none 0 0] 36 (0, 0)) (by (with_reducible repeat (first | refine blk_drewN ?_ _ | refine blk_drew ?_ | refine blk_alloc ?_ _)); exact BK308.out) hb); have n8_ := Aside0.mk (below_step (by repeat (first | (with_reducible first | exact HB.out | apply below_alloc | apply pw_below_drewN | apply below_drew1 | refine below_set ?_ GE306.out | refine below_set ?_ GE307.out | refine below_set ?_ GE308.out) | exact HB.out)) hb); clear HO0_1; clear HO0_2; clear HO1_1; clear HO1_2; clear BK306; clear BK307; clear BK308; clear HB; have HO0_1 := n0_; have HO0_2 := n1_; have HO1_1 := n2_; have HO1_2 := n3_; have HO311 := n4_; have BK306 := n5_; have BK307 := n6_; have BK308 := n7_; have HB := n8_; clear n0_ n1_ n2_ n3_ n4_ n5_ n6_ n7_ n8_; clear hb ho56; obtain ⟨Ao57, co57, eo57⟩ := Kd.N_slice HO311.out; subst eo57) | ((with_reducible refine gate_callee (f := 65) rfl ?_); refine goesL_ (some 9) rfl rfl Try.func65 (by kernel_rfl) rfl #[.slice Ao57 y309.length co57] rfl (by (try simp only [List.map_toArray, List.map_cons, List.map_nil]); first | done | rfl | (simp only [List.length_drop, List.length_take]; rfl)) ?_; (with_reducible refine (ratio_forms.calls k _ _ y309 false _ ?side1 ?side2 A3.out).mono ?_); (case side1 => repeat (first | exact (Kd.N_reads' HO311.out).2.2 | (with_reducible refine Kd.C_alloc ?_ _) | (with_reducible refine Kd.C_drewN ?_ _) | (with_reducible refine Kd.C_drew ?_))); (case side2 => exact (Kd.N_reads' HO311.out).2.1); rintro e w58 ⟨rfl, hb⟩; refine ⟨_, rfl, ?_⟩; have n0_ := Aside0.mk (Kd.V_below (by (with_reducible repeat (first | apply Kd.V_alloc | apply Kd.V_drewN | apply Kd.V_drew)); exact HO0_1.out) hb); have n1_ := Aside0.mk (Kd.V_below (by (with_reducible repeat (first | apply Kd.V_alloc | apply Kd.V_drewN | apply Kd.V_drew)); exact HO0_2.out) hb); have n2_ := Aside0.mk (Kd.V_below (by (with_reducible repeat (first | apply Kd.V_alloc | apply Kd.V_drewN | apply Kd.V_drew)); exact HO1_1.out) hb); have n3_ := Aside0.mk (Kd.V_below (by (with_reducible repeat (first | apply Kd.V_alloc | apply Kd.V_drewN | apply Kd.V_drew)); exact HO1_2.out) hb); have n4_ := Aside0.mk (Kd.N_below (by (with_reducible repeat (first | apply Kd.N_alloc | apply Kd.N_drewN | apply Kd.N_drew)); exact HO311.out) hb); have n5_ := Aside0.mk (blk_below (g := gb306) (o := .cells #[.bool a0_0, .slice A0_1 l0_1.length c0_1, .slice A0_2 l0_2.length c0_2] 36 (0, 0)) (by (with_reducible repeat (first | refine blk_drewN ?_ _ | refine blk_drew ?_ | refine blk_alloc ?_ _)); exact BK306.out) hb); have n6_ := Aside0.mk (blk_below (g := gb307) (o := .cells #[.bool a1_0, .slice A1_1 l1_1.length c1_1, .slice A1_2 l1_2.length c1_2] 36 (0, 0)) (by (with_reducible repeat (first | refine blk_drewN ?_ _ | refine blk_drew ?_ | refine blk_alloc ?_ _)); exact BK307.out) hb); have n7_ := Aside0.mk (blk_below (g := gb308) (o := .cells #[.bool false, .slice none 0 0, .slice none 0 0] 36 (0, 0)) (by (with_reducible repeat (first | refine blk_drewN ?_ _ | refine blk_drew ?_ | refine blk_alloc ?_ _)); exact BK308.out) hb); have n8_ := Aside0.mk (below_step (by repeat (first | (with_reducible first | exact HB.out | apply below_alloc | apply pw_below_drewN | apply below_drew1 | refine below_set ?_ GE306.out | refine below_set ?_ GE307.out | refine below_set ?_ GE308.out) | exact HB.out)) hb); clear HO0_1; clear HO0_2; clear HO1_1; clear HO1_2; clear HO311; clear BK306; clear BK307; clear BK308; clear HB; have HO0_1 := n0_; have HO0_2 := n1_; have HO1_1 := n2_; have HO1_2 := n3_; have HO311 := n4_; have BK306 := n5_; have BK307 := n6_; have BK308 := n7_; have HB := n8_; clear n0_ n1_ n2_ n3_ n4_ n5_ n6_ n7_ n8_; (try clear hb); (try clear hb2); (try clear hk); (try clear hi); have hcz59_0 : w58.cell? ⟨gb308, 0, none⟩ = some (.bool false) := (blk_cell BK308.out 0).trans rfl; have hcz59_1 : w58.cell? ⟨gb308, 1, none⟩ = some (.slice none 0 0) := (blk_cell BK308.out 1).trans rfl; have hcz59_2 : w58.cell? ⟨gb308, 2, none⟩ = some (.slice none 0 0) := (blk_cell BK308.out 2).trans rfl; have hfz59_0 := blk_frozen BK308.out 0; have hfz59_1 := blk_frozen BK308.out 1; have hfz59_2 := blk_frozen BK308.out 2))
    refine bodyPost_ret (results_ct rfl _ _ gb308 36 #[.bool false, .slice none 0 0, .slice none 0 0] (0, 0) _ rfl (by (with_reducible repeat (first | refine blk_drewN ?_ _ | refine blk_drew ?_ | refine blk_alloc ?_ _)); refine blk_put (cs := #[.bool false, .slice none 0 0, .slice none 0 0]) ?_ 2 _ rfl; (with_reducible repeat (first | refine blk_drewN ?_ _ | refine blk_drew ?_ | refine blk_alloc ?_ _)); refine blk_put (cs := #[.bool false, .slice none 0 0, .slice none 0 0]) ?_ 1 _ rfl; (with_reducible repeat (first | refine blk_drewN ?_ _ | refine blk_drew ?_ | refine blk_alloc ?_ _)); refine blk_put (cs := #[.bool false, .slice none 0 0, .slice none 0 0]) ?_ 0 _ rfl; (with_reducible repeat (first | refine blk_drewN ?_ _ | refine blk_drew ?_ | refine blk_alloc ?_ _)); exact BK308.out) Try.underlying36 rfl (by kernel_rfl)) rfl ?_
    exact ⟨_, _, by first | rfl | (simp [errW_none, errW_some] <;> rfl) | (simp [*, errW_none, errW_some] <;> rfl), by first | exact Kd.R_nil _ _ _ _ _ | exact Kd.N_nil _ _ _ _ _ | exact Kd.V_nil _ _ _ _ _ | exact Kd.Q_nil _ _ _ _ _ | exact Kd.S_nil _ _ _ _ _, by first | exact Kd.R_nil _ _ _ _ _ | exact Kd.N_nil _ _ _ _ _ | exact Kd.V_nil _ _ _ _ _ | exact Kd.Q_nil _ _ _ _ _ | exact Kd.S_nil _ _ _ _ _, by repeat (first | (with_reducible first | exact HB.out | apply below_alloc | apply pw_below_drewN | apply below_drew1 | refine below_set ?_ GE306.out | refine below_set ?_ GE307.out | refine below_set ?_ GE308.out) | exact HB.out)⟩

/-! ### odds_Exact: function 11 -/
def odds_Exact.l0 : Nat → List (S68) → Int → Int → Bool → List Int → List Int → Option (Bool × List Int × List Int × Int)
  | 0, _, _, _, _, _, _ => none
  | k + 1, x13, x14, x15, x337000, x337001, x337002 => if x15 < x14 then (if 0 ≤ x15 then (if x15 < (x13.length : Int) then ((ratio_Of.f k ((rd_T68 x13 x15).f0)).bind fun bt339 => ((ratio_Div.f k x337000 x337001 x337002 bt339.1 bt339.2.1 bt339.2.2).bind fun bt346 => (if bt346.2.2.2 = 0 then (odds_Exact.l0 k x13 x14 (wrap64 (x15 + 1)) bt346.1 bt346.2.1 bt346.2.2.1) else (some (false, ([] : List Int), ([] : List Int), bt346.2.2.2))))) else (none)) else (none)) else (some (x337000, x337001, x337002, 0))
def odds_Exact.f (k : Nat) (l0 : List (S68)) : Option (Bool × List Int × List Int × Int) := (odds_good.f k l0).bind fun t328 => (if t328 = true then ((ratio_Of.f k 1).bind fun bt329 => (odds_Exact.l0 k l0 (l0.length : Int) 0 bt329.1 bt329.2.1 bt329.2.2)) else (some (false, ([] : List Int), ([] : List Int), 2)))
theorem odds_Exact.mono_l : ∀ k, (∀ y0 y1 y2 y3 y4 y5, LeO (odds_Exact.l0 k y0 y1 y2 y3 y4 y5) (odds_Exact.l0 (k + 1) y0 y1 y2 y3 y4 y5))
  | 0 => fun _ _ _ _ _ _ r h => by simp [odds_Exact.l0] at h
  | k + 1 => by
    have ih0 := odds_Exact.mono_l k
    · intro y0 y1 y2 y3 y4 y5
      unfold odds_Exact.l0
      repeat' first
      | (with_reducible exact ih0 _ _ _ _ _ _)
      | (with_reducible exact odds_good.mono _ _)
      | (with_reducible exact ratio_Div.mono _ _ _ _ _ _ _)
      | (with_reducible exact ratio_Of.mono _ _)
      | (with_reducible exact LeO.refl _)
      | (with_reducible exact LeO.none _)
      | (with_reducible refine LeO.ite ?_ ?_)
      | (with_reducible refine LeO.bind ?_ (fun _ => ?_))
      | exact ih0 _ _ _ _ _ _
      | exact odds_good.mono _ _
      | exact ratio_Div.mono _ _ _ _ _ _ _
      | exact ratio_Of.mono _ _
      | exact LeO.none _
      | refine LeO.ite ?_ ?_
      | refine LeO.bind ?_ (fun _ => ?_)
theorem odds_Exact.mono : ∀ a0 k, LeO (odds_Exact.f k a0) (odds_Exact.f (k + 1) a0) := by
  intro a0 k
  have ih0 := odds_Exact.mono_l k
  unfold odds_Exact.f
  repeat' first
      | (with_reducible exact ih0 _ _ _ _ _ _)
      | (with_reducible exact odds_good.mono _ _)
      | (with_reducible exact ratio_Div.mono _ _ _ _ _ _ _)
      | (with_reducible exact ratio_Of.mono _ _)
      | (with_reducible exact LeO.refl _)
      | (with_reducible exact LeO.none _)
      | (with_reducible refine LeO.ite ?_ ?_)
      | (with_reducible refine LeO.bind ?_ (fun _ => ?_))
      | exact ih0 _ _ _ _ _ _
      | exact odds_good.mono _ _
      | exact ratio_Div.mono _ _ _ _ _ _ _
      | exact ratio_Of.mono _ _
      | exact LeO.none _
      | refine LeO.ite ?_ ?_
      | refine LeO.bind ?_ (fun _ => ?_)
def odds_Exact.T8 : Bool × List (List Nat × List Nat) := (true, [([], []), ([], []), ([1], [1]), ([2], [2]), ([0, 3, 3], [0, 3]), ([4], [4]), ([5], [5]), ([5], [5]), ([6, 4, 0, 1, 2, 3, 4, 5, 6], [6]), ([7, 8, 0, 1, 2, 3, 4, 5, 6, 7, 8], [7])])
def odds_Exact.B8 : List Nat := [0, 0, 2, 6, 15, 31, 63, 63, 127, 511]
theorem odds_Exact.tab8 : rtab .any (opsOf Try.f11 8) = odds_Exact.T8 := by kernel_rfl
theorem odds_Exact.bits8 : waitsOk odds_Exact.T8.2 odds_Exact.B8 = true := by kernel_rfl
set_option maxHeartbeats 8000000 in
set_option maxRecDepth 100000 in
theorem odds_Exact.calls (k : Nat) (A0 : Option Addr) (c0 : Nat) (l0 : List (S68)) (r1 : Bool) (r2 : List Int) (r3 : List Int) (r4 : Int) (w : World) (hr0 : Kd.C k68 w A0 l0.length l0) (hc0 : l0.length ≤ c0) (h : odds_Exact.f k l0 = some (r1, r2, r3, r4)) :
    Calls Try.prog 11 #[.slice A0 l0.length c0] w fun e w' => ∃ v1_ v2_ : Value, e = .returned (.tuple #[.agg #[.bool r1, v1_, v2_], .int .i64 r4]) ∧ Kd.R (Kd.int .u32) 99 w' w.heap.size (fun k_ => some k_ ≠ (v2_ : Value).ownBlock) v1_ r2 ∧ Kd.R (Kd.int .u32) 99 w' w.heap.size (fun k_ => some k_ ≠ (v1_ : Value).ownBlock) v2_ r3 ∧ Below w.heap.size w w' := by
  have hu36 := Try.underlying36
  have hu68 := Try.underlying68
  have HR0 := Aside0.mk hr0
  have HC0 := Aside0.mk hc0
  clear hr0 hc0
  have HB := Aside0.mk (Below.refl w.heap.size w)
  have H : ((odds_good.f k l0).bind fun t328 => (if t328 = true then ((ratio_Of.f k 1).bind fun bt329 => (odds_Exact.l0 k l0 (l0.length : Int) 0 bt329.1 bt329.2.1 bt329.2.2)) else (some (false, ([] : List Int), ([] : List Int), 2)))) = some (r1, r2, r3, r4) := h
  clear h
  replace H := Option.bind_eq_some_iff.mp H
  obtain ⟨t328, A20, H⟩ := H
  replace H : (if t328 = true then ((ratio_Of.f k 1).bind fun bt329 => (odds_Exact.l0 k l0 (l0.length : Int) 0 bt329.1 bt329.2.1 bt329.2.2)) else (some (false, ([] : List Int), ([] : List Int), 2))) = some (r1, r2, r3, r4) := H
  have A2 := Aside0.mk A20
  clear A20
  by_cases c3 : t328 = true
  · subst c3
    have H1 : ((ratio_Of.f k 1).bind fun bt329 => (odds_Exact.l0 k l0 (l0.length : Int) 0 bt329.1 bt329.2.1 bt329.2.2)) = some (r1, r2, r3, r4) := by rw [if_pos rfl] at H; exact H
    clear H
    have H := H1
    clear H1
    replace H := Option.bind_eq_some_iff.mp H
    obtain ⟨⟨t329, t330, t333⟩, A40, H⟩ := H
    replace H : (odds_Exact.l0 k l0 (l0.length : Int) 0 t329 t330 t333) = some (r1, r2, r3, r4) := H
    have A4 := Aside0.mk A40
    clear A40
    have H' := Aside0.mk H
    clear H
    go_enter Try.func11, Try.ntmps11
    go_wp2_with (first | ((with_reducible refine gate_dst (N := 2) rfl ?_); refine box_event ?hg (N := 2) ?hd (cs := #[.bool false, .slice none 0 0, .slice none 0 0]) (t := 36) ?hr ?_; (case hd => rfl); (case hg => rfl); (case hr => first | (go_simp; done) | (go_simp; rfl)); intro gb327 hg w5 hbox hb; have n0_ := Aside0.mk (below_step (by repeat (first | (with_reducible first | exact HB.out | apply below_alloc | apply pw_below_drewN | apply below_drew1) | exact HB.out)) hb); have n1_ := Aside0.mk (hbox); have n2_ := Aside0.mk ((by rw [hg]; exact (below_size (by repeat (first | (with_reducible first | exact HB.out | apply below_alloc | apply pw_below_drewN | apply below_drew1) | exact HB.out))) : w.heap.size ≤ gb327)); have n3_ := Aside0.mk ((by rw [hg]; exact (below_size (by repeat (first | (with_reducible first | exact HB.out | apply below_alloc | apply pw_below_drewN | apply below_drew1) | exact HB.out))) : w.heap.size ≤ gb327)); clear HB; have HB := n0_; have BK327 := n1_; have GW327 := n2_; have GE327 := n3_; clear n0_ n1_ n2_ n3_; clear hb hbox hg) | ((with_reducible refine gate_callee (f := 27) rfl ?_); refine goesL_ (some 9) rfl rfl Try.func27 (by kernel_rfl) rfl #[.slice A0 l0.length c0] rfl (by (try simp only [List.map_toArray, List.map_cons, List.map_nil]); first | done | rfl | (simp only [List.length_drop, List.length_take]; rfl)) ?_; (with_reducible refine (odds_good.calls k _ _ l0 true _ ?side1 ?side2 A2.out).mono ?_); (case side1 => repeat (first | exact (Kd.C_below HR0.out HB.out) | (with_reducible refine Kd.C_alloc ?_ _) | (with_reducible refine Kd.C_drewN ?_ _) | (with_reducible refine Kd.C_drew ?_))); (case side2 => exact HC0.out); rintro e w6 ⟨rfl, hb⟩; refine ⟨_, rfl, ?_⟩; have n0_ := Aside0.mk (blk_below (g := gb327) (o := .cells #[.bool false, .slice none 0 0, .slice none 0 0] 36 (0, 0)) (by (with_reducible repeat (first | refine blk_drewN ?_ _ | refine blk_drew ?_ | refine blk_alloc ?_ _)); exact BK327.out) hb); have n1_ := Aside0.mk (below_step (by repeat (first | (with_reducible first | exact HB.out | apply below_alloc | apply pw_below_drewN | apply below_drew1 | refine below_set ?_ GE327.out) | exact HB.out)) hb); clear BK327; clear HB; have BK327 := n0_; have HB := n1_; clear n0_ n1_; (try clear hb); (try clear hb2); (try clear hk); (try clear hi)) | ((with_reducible refine gate_callee (f := 32) rfl ?_); refine goesL_ (some 12) rfl rfl Try.func32 (by kernel_rfl) rfl #[.int .i64 1] rfl (by (try simp only [List.map_toArray, List.map_cons, List.map_nil]); first | done | rfl | (simp only [List.length_drop, List.length_take]; rfl)) ?_; (with_reducible refine (ratio_Of.calls k 1 t329 t330 t333 _ A4.out).mono ?_); rintro e w7 ⟨v331, v334, rfl, ho0, ho1, hb⟩; refine ⟨_, rfl, ?_⟩; have n0_ := Aside0.mk (Kd.R_lower ho0 (below_size (by repeat (first | (with_reducible first | exact HB.out | apply below_alloc | apply pw_below_drewN | apply below_drew1 | refine below_set ?_ GE327.out) | exact HB.out)))); have n1_ := Aside0.mk (Kd.R_lower ho1 (below_size (by repeat (first | (with_reducible first | exact HB.out | apply below_alloc | apply pw_below_drewN | apply below_drew1 | refine below_set ?_ GE327.out) | exact HB.out)))); have n2_ := Aside0.mk (blk_below (g := gb327) (o := .cells #[.bool false, .slice none 0 0, .slice none 0 0] 36 (0, 0)) (by (with_reducible repeat (first | refine blk_drewN ?_ _ | refine blk_drew ?_ | refine blk_alloc ?_ _)); exact BK327.out) hb); have n3_ := Aside0.mk (below_step (by repeat (first | (with_reducible first | exact HB.out | apply below_alloc | apply pw_below_drewN | apply below_drew1 | refine below_set ?_ GE327.out) | exact HB.out)) hb); clear BK327; clear HB; have HO332 := n0_; have HO335 := n1_; have BK327 := n2_; have HB := n3_; clear n0_ n1_ n2_ n3_; (try clear hb); (try clear hb2); (try clear hk); (try clear hi); (try clear ho0); (try clear ho1)) | ((with_reducible refine gate_dst (N := 4) rfl ?_); refine box_event ?hg (N := 4) ?hd (cs := #[.bool false, .slice none 0 0, .slice none 0 0]) (t := 36) ?hr ?_; (case hd => rfl); (case hg => rfl); (case hr => first | (go_simp; done) | (go_simp; rfl)); intro gb336 hg w8 hbox hb; have n0_ := Aside0.mk (Kd.R_below (by (with_reducible repeat (first | apply Kd.R_alloc | apply Kd.R_drewN | apply Kd.R_drew)); exact HO332.out) hb); have n1_ := Aside0.mk (Kd.R_below (by (with_reducible repeat (first | apply Kd.R_alloc | apply Kd.R_drewN | apply Kd.R_drew)); exact HO335.out) hb); have n2_ := Aside0.mk (blk_below (g := gb327) (o := .cells #[.bool false, .slice none 0 0, .slice none 0 0] 36 (0, 0)) (by (with_reducible repeat (first | refine blk_drewN ?_ _ | refine blk_drew ?_ | refine blk_alloc ?_ _)); exact BK327.out) hb); have n3_ := Aside0.mk (below_step (by repeat (first | (with_reducible first | exact HB.out | apply below_alloc | apply pw_below_drewN | apply below_drew1 | refine below_set ?_ GE327.out) | exact HB.out)) hb); have n4_ := Aside0.mk (hbox); have n5_ := Aside0.mk ((by rw [hg]; exact (below_size (by repeat (first | (with_reducible first | exact HB.out | apply below_alloc | apply pw_below_drewN | apply below_drew1 | refine below_set ?_ GE327.out) | exact HB.out))) : w.heap.size ≤ gb336)); have n6_ := Aside0.mk ((by rw [hg]; exact (below_size (by repeat (first | (with_reducible first | exact HB.out | apply below_alloc | apply pw_below_drewN | apply below_drew1 | refine below_set ?_ GE327.out) | exact HB.out))) : w.heap.size ≤ gb336)); have n7_ := Aside0.mk ((by rw [hg]; exact Nat.ne_of_lt (blk_lt (g := gb327) (o := .cells #[.bool false, .slice none 0 0, .slice none 0 0] 36 (0, 0)) (by (with_reducible repeat (first | refine blk_drewN ?_ _ | refine blk_drew ?_ | refine blk_alloc ?_ _)); exact BK327.out)) : gb327 ≠ gb336)); have n8_ := Aside0.mk ((by rw [hg]; exact Nat.ne_of_gt (blk_lt (g := gb327) (o := .cells #[.bool false, .slice none 0 0, .slice none 0 0] 36 (0, 0)) (by (with_reducible repeat (first | refine blk_drewN ?_ _ | refine blk_drew ?_ | refine blk_alloc ?_ _)); exact BK327.out)) : gb336 ≠ gb327)); clear HO332; clear HO335; clear BK327; clear HB; have HO332 := n0_; have HO335 := n1_; have BK327 := n2_; have HB := n3_; have BK336 := n4_; have GW336 := n5_; have GE336 := n6_; have NB327_336 := n7_; have NB336_327 := n8_; clear n0_ n1_ n2_ n3_ n4_ n5_ n6_ n7_ n8_; clear hb hbox hg; have hnb9 := NB336_327.out; have hnc9 := NB327_336.out; have hcz10_0 : w8.cell? ⟨gb336, 0, none⟩ = some (.bool false) := (blk_cell BK336.out 0).trans rfl; have hcz10_1 : w8.cell? ⟨gb336, 1, none⟩ = some (.slice none 0 0) := (blk_cell BK336.out 1).trans rfl; have hcz10_2 : w8.cell? ⟨gb336, 2, none⟩ = some (.slice none 0 0) := (blk_cell BK336.out 2).trans rfl; have hfz10_0 := blk_frozen BK336.out 0; have hfz10_1 := blk_frozen BK336.out 1; have hfz10_2 := blk_frozen BK336.out 2; obtain ⟨Ao11, co11, eo11⟩ := Kd.R_slice HO332.out; subst eo11; obtain ⟨Ao12, co12, eo12⟩ := Kd.R_slice HO335.out; subst eo12))
    go_loopg [15] k (fun kq v15 w' => ∃ (x15_1 : Int) (x328000_1 : Bool) (x337000_1 : Bool) (x337001_1 : List Int) (x337002_1 : List Int) (u337001 : Value) (u337002 : Value), v15 = .int .i64 x15_1 ∧ Aside0 (odds_Exact.l0 kq l0 (l0.length : Int) x15_1 x337000_1 x337001_1 x337002_1 = some (r1, r2, r3, r4)) ∧ Aside0 (kq ≤ k) ∧ Aside0 (Kd.R (Kd.int .u32) 99 w' w.heap.size (fun k_ => some k_ ≠ (u337002 : Value).ownBlock) u337001 x337001_1) ∧ Aside0 (Kd.R (Kd.int .u32) 99 w' w.heap.size (fun k_ => some k_ ≠ (u337001 : Value).ownBlock) u337002 x337002_1) ∧ Aside0 (w'.heap[gb327]? = some (.cells #[.bool x328000_1, (.slice none 0 0), (.slice none 0 0)] 36 (0, 0))) ∧ Aside0 (w'.heap[gb336]? = some (.cells #[.bool x337000_1, u337001, u337002] 36 (0, 0))) ∧ Aside0 (Below w.heap.size w w'))
    case atStart => exact ⟨(0), (false), (t329), (t330), (t333), (.slice Ao11 t330.length co11), (.slice Ao12 t333.length co12), (by first | rfl | (simp; done) | (simp [*]; done)), H', ⟨Nat.le_refl _⟩, ⟨by (with_reducible repeat (first | apply Kd.R_alloc | apply Kd.R_drewN | apply Kd.R_drew)); exact Kd.R_mono (Kd.R_far (p := ⟨gb336, 2, none⟩) (Kd.R_far (p := ⟨gb336, 1, none⟩) (Kd.R_far (p := ⟨gb336, 0, none⟩) (Kd.R_types HO332.out BK336.out (by decide)) (fun _ hk => hk.2) (.bool t329)) (fun _ hk => hk.2) (.slice Ao11 t330.length co11)) (fun _ hk => hk.2) (.slice Ao12 t333.length co12)) (fun _ hk => hk.1)⟩, ⟨by (with_reducible repeat (first | apply Kd.R_alloc | apply Kd.R_drewN | apply Kd.R_drew)); exact Kd.R_mono (Kd.R_far (p := ⟨gb336, 2, none⟩) (Kd.R_far (p := ⟨gb336, 1, none⟩) (Kd.R_far (p := ⟨gb336, 0, none⟩) (Kd.R_types HO335.out BK336.out (by decide)) (fun _ hk => hk.2) (.bool t329)) (fun _ hk => hk.2) (.slice Ao11 t330.length co11)) (fun _ hk => hk.2) (.slice Ao12 t333.length co12)) (fun _ hk => hk.1)⟩, ⟨by (with_reducible repeat (first | refine blk_drewN ?_ _ | refine blk_drew ?_ | refine blk_alloc ?_ _)); refine blk_far ?_ NB327_336.out _; (with_reducible repeat (first | refine blk_drewN ?_ _ | refine blk_drew ?_ | refine blk_alloc ?_ _)); refine blk_far ?_ NB327_336.out _; (with_reducible repeat (first | refine blk_drewN ?_ _ | refine blk_drew ?_ | refine blk_alloc ?_ _)); refine blk_far ?_ NB327_336.out _; (with_reducible repeat (first | refine blk_drewN ?_ _ | refine blk_drew ?_ | refine blk_alloc ?_ _)); exact BK327.out⟩, ⟨by (with_reducible repeat (first | refine blk_drewN ?_ _ | refine blk_drew ?_ | refine blk_alloc ?_ _)); refine blk_put (cs := #[.bool t329, .slice Ao11 t330.length co11, .slice none 0 0]) ?_ 2 _ rfl; (with_reducible repeat (first | refine blk_drewN ?_ _ | refine blk_drew ?_ | refine blk_alloc ?_ _)); refine blk_put (cs := #[.bool t329, .slice none 0 0, .slice none 0 0]) ?_ 1 _ rfl; (with_reducible repeat (first | refine blk_drewN ?_ _ | refine blk_drew ?_ | refine blk_alloc ?_ _)); refine blk_put (cs := #[.bool false, .slice none 0 0, .slice none 0 0]) ?_ 0 _ rfl; (with_reducible repeat (first | refine blk_drewN ?_ _ | refine blk_drew ?_ | refine blk_alloc ?_ _)); exact BK336.out⟩, ⟨by repeat (first | (with_reducible first | exact HB.out | apply below_alloc | apply pw_below_drewN | apply below_drew1 | refine below_set ?_ GE327.out | refine below_set ?_ GE336.out) | exact HB.out)⟩⟩
    case round =>
      clear H'
      try clear c1
      try clear c2
      try clear p2
      try clear c3
      try clear c9
      try clear c11
      try clear hcz10_0
      try clear hcz10_1
      try clear hcz10_2
      try clear hfz10_0
      try clear hfz10_1
      try clear hfz10_2
      obtain ⟨x15_1, x328000_1, x337000_1, x337001_1, x337002_1, u337001, u337002, rfl, HA, HK1, HO_337001, HO_337002, BK327, BK336, HB⟩ := hrel
      cases gk with
      | zero => exact absurd HA.out (by simp [odds_Exact.l0])
      | succ k1 =>
        have H := HA.out
        clear HA
        simp only [odds_Exact.l0] at H
        by_cases c13 : x15_1 < (l0.length : Int)
        · rw [if_pos c13] at H
          have c13b0 : decide (x15_1 < (l0.length : Int)) = true := decide_eq_true c13
          clear c13
          by_cases c14 : 0 ≤ x15_1
          · rw [if_pos c14] at H
            have c14b0 : decide (0 ≤ x15_1) = true := decide_eq_true c14
            clear c14
            by_cases c15 : x15_1 < (l0.length : Int)
            · rw [if_pos c15] at H
              have c15b0 : decide (x15_1 < (l0.length : Int)) = true := decide_eq_true c15
              clear c15
              replace H := Option.bind_eq_some_iff.mp H
              obtain ⟨⟨t339, t340, t343⟩, A160, H⟩ := H
              replace H : ((ratio_Div.f k1 x337000_1 x337001_1 x337002_1 t339 t340 t343).bind fun bt346 => (if bt346.2.2.2 = 0 then (odds_Exact.l0 k1 l0 (l0.length : Int) (wrap64 (x15_1 + 1)) bt346.1 bt346.2.1 bt346.2.2.1) else (some (false, ([] : List Int), ([] : List Int), bt346.2.2.2)))) = some (r1, r2, r3, r4) := H
              have A16 := Aside0.mk A160
              clear A160
              replace H := Option.bind_eq_some_iff.mp H
              obtain ⟨⟨t346, t347, t350, t353⟩, A170, H⟩ := H
              replace H : (if t353 = 0 then (odds_Exact.l0 k1 l0 (l0.length : Int) (wrap64 (x15_1 + 1)) t346 t347 t350) else (some (false, ([] : List Int), ([] : List Int), t353))) = some (r1, r2, r3, r4) := H
              have A17 := Aside0.mk A170
              clear A170
              by_cases c18 : t353 = 0
              · rw [if_pos c18] at H
                have c18b0 : (t353 == 0) = true := beq_iff_eq.mpr c18
                have c18b1 : (t353 != 0) = false := bne_eq_false_iff_eq.mpr c18
                clear c18
                have H' := Aside0.mk H
                clear H
                have p337 : 0 ≤ (x15_1 : Int) := of_decide_eq_true (by first | (with_reducible assumption) | assumption)
                have q337 : x15_1 < (l0.length : Int) := of_decide_eq_true (by first | (with_reducible assumption) | assumption)
                obtain ⟨ad337, e337, hx337_0, hx337_1⟩ := at_T68 HR0.out x15_1 p337 q337
                cases e337
                replace hx337_0 := (HB.out.cell (World.block_lt_of_cell? w _ hx337_0)).trans hx337_0
                replace hx337_1 := (HB.out.cell (World.block_lt_of_cell? w _ hx337_1)).trans hx337_1
                replace p337 := eq_true p337
                replace q337 := eq_true q337
                try go_wp2_with (first | ((with_reducible refine gate_dst (N := 6) rfl ?_); refine box_event ?hg (N := 6) ?hd (cs := #[.int .i64 0, .int .i64 0]) (t := 68) ?hr ?_; (case hd => rfl); (case hg => rfl); (case hr => first | (go_simp; done) | (go_simp; rfl)); intro gb338 hg w19 hbox hb; have n0_ := Aside0.mk (Kd.R_below (by (with_reducible repeat (first | apply Kd.R_alloc | apply Kd.R_drewN | apply Kd.R_drew)); exact HO_337001.out) hb); have n1_ := Aside0.mk (Kd.R_below (by (with_reducible repeat (first | apply Kd.R_alloc | apply Kd.R_drewN | apply Kd.R_drew)); exact HO_337002.out) hb); have n2_ := Aside0.mk (blk_below (g := gb327) (o := .cells #[.bool x328000_1, .slice none 0 0, .slice none 0 0] 36 (0, 0)) (by (with_reducible repeat (first | refine blk_drewN ?_ _ | refine blk_drew ?_ | refine blk_alloc ?_ _)); exact BK327.out) hb); have n3_ := Aside0.mk (blk_below (g := gb336) (o := .cells #[.bool x337000_1, u337001, u337002] 36 (0, 0)) (by (with_reducible repeat (first | refine blk_drewN ?_ _ | refine blk_drew ?_ | refine blk_alloc ?_ _)); exact BK336.out) hb); have n4_ := Aside0.mk (below_step (by repeat (first | (with_reducible first | exact HB.out | apply below_alloc | apply pw_below_drewN | apply below_drew1 | refine below_set ?_ GE327.out | refine below_set ?_ GE336.out) | exact HB.out)) hb); have n5_ := Aside0.mk (hbox); have n6_ := Aside0.mk ((by rw [hg]; exact (below_size (by repeat (first | (with_reducible first | exact HB.out | apply below_alloc | apply pw_below_drewN | apply below_drew1 | refine below_set ?_ GE327.out | refine below_set ?_ GE336.out) | exact HB.out))) : w.heap.size ≤ gb338)); have n7_ := Aside0.mk ((by rw [hg]; exact (below_size (by repeat (first | (with_reducible first | exact HB.out | apply below_alloc | apply pw_below_drewN | apply below_drew1 | refine below_set ?_ GE327.out | refine below_set ?_ GE336.out) | exact HB.out))) : w.heap.size ≤ gb338)); have n8_ := Aside0.mk ((by rw [hg]; exact Nat.ne_of_lt (blk_lt (g := gb327) (o := .cells #[.bool x328000_1, .slice none 0 0, .slice none 0 0] 36 (0, 0)) (by (with_reducible repeat (first | refine blk_drewN ?_ _ | refine blk_drew ?_ | refine blk_alloc ?_ _)); exact BK327.out)) : gb327 ≠ gb338)); have n9_ := Aside0.mk ((by rw [hg]; exact Nat.ne_of_gt (blk_lt (g := gb327) (o := .cells #[.bool x328000_1, .slice none 0 0, .slice none 0 0] 36 (0, 0)) (by (with_reducible repeat (first | refine blk_drewN ?_ _ | refine blk_drew ?_ | refine blk_alloc ?_ _)); exact BK327.out)) : gb338 ≠ gb327)); have n10_ := Aside0.mk ((by rw [hg]; exact Nat.ne_of_lt (blk_lt (g := gb336) (o := .cells #[.bool x337000_1, u337001, u337002] 36 (0, 0)) (by (with_reducible repeat (first | refine blk_drewN ?_ _ | refine blk_drew ?_ | refine blk_alloc ?_ _)); exact BK336.out)) : gb336 ≠ gb338)); have n11_ := Aside0.mk ((by rw [hg]; exact Nat.ne_of_gt (blk_lt (g := gb336) (o := .cells #[.bool x337000_1, u337001, u337002] 36 (0, 0)) (by (with_reducible repeat (first | refine blk_drewN ?_ _ | refine blk_drew ?_ | refine blk_alloc ?_ _)); exact BK336.out)) : gb338 ≠ gb336)); clear HO_337001; clear HO_337002; clear BK327; clear BK336; clear HB; have HO_337001 := n0_; have HO_337002 := n1_; have BK327 := n2_; have BK336 := n3_; have HB := n4_; have BK338 := n5_; have GW338 := n6_; have GE338 := n7_; have NB327_338 := n8_; have NB338_327 := n9_; have NB336_338 := n10_; have NB338_336 := n11_; clear n0_ n1_ n2_ n3_ n4_ n5_ n6_ n7_ n8_ n9_ n10_ n11_; clear hb hbox hg; have hnb20 := NB338_327.out; have hnc20 := NB327_338.out; have hnb21 := NB338_336.out; have hnc21 := NB336_338.out; have hcz22_0 : w19.cell? ⟨gb338, 0, none⟩ = some (.int .i64 0) := (blk_cell BK338.out 0).trans rfl; have hcz22_1 : w19.cell? ⟨gb338, 1, none⟩ = some (.int .i64 0) := (blk_cell BK338.out 1).trans rfl; have hfz22_0 := blk_frozen BK338.out 0; have hfz22_1 := blk_frozen BK338.out 1))
                have n0_ : Aside0 (Kd.R (Kd.int .u32) 99 ((w19.setCell ⟨gb338, 0, none⟩ (.int .i64 ((rd_T68 l0 x15_1).f0))).setCell ⟨gb338, 1, none⟩ (.int .i64 ((rd_T68 l0 x15_1).f1))) w.heap.size (fun k_ => some k_ ≠ (u337002 : Value).ownBlock) u337001 x337001_1) := ⟨by (with_reducible repeat (first | apply Kd.R_alloc | apply Kd.R_drewN | apply Kd.R_drew)); exact Kd.R_mono (Kd.R_far (p := ⟨gb338, 1, none⟩) (Kd.R_far (p := ⟨gb338, 0, none⟩) (Kd.R_types HO_337001.out BK338.out (by decide)) (fun _ hk => hk.2) (.int .i64 ((rd_T68 l0 x15_1).f0))) (fun _ hk => hk.2) (.int .i64 ((rd_T68 l0 x15_1).f1))) (fun _ hk => hk.1)⟩
                have n1_ : Aside0 (Kd.R (Kd.int .u32) 99 ((w19.setCell ⟨gb338, 0, none⟩ (.int .i64 ((rd_T68 l0 x15_1).f0))).setCell ⟨gb338, 1, none⟩ (.int .i64 ((rd_T68 l0 x15_1).f1))) w.heap.size (fun k_ => some k_ ≠ (u337001 : Value).ownBlock) u337002 x337002_1) := ⟨by (with_reducible repeat (first | apply Kd.R_alloc | apply Kd.R_drewN | apply Kd.R_drew)); exact Kd.R_mono (Kd.R_far (p := ⟨gb338, 1, none⟩) (Kd.R_far (p := ⟨gb338, 0, none⟩) (Kd.R_types HO_337002.out BK338.out (by decide)) (fun _ hk => hk.2) (.int .i64 ((rd_T68 l0 x15_1).f0))) (fun _ hk => hk.2) (.int .i64 ((rd_T68 l0 x15_1).f1))) (fun _ hk => hk.1)⟩
                have n2_ : Aside0 (((w19.setCell ⟨gb338, 0, none⟩ (.int .i64 ((rd_T68 l0 x15_1).f0))).setCell ⟨gb338, 1, none⟩ (.int .i64 ((rd_T68 l0 x15_1).f1))).heap[gb327]? = some (.cells #[.bool x328000_1, .slice none 0 0, .slice none 0 0] 36 (0, 0))) := ⟨by (with_reducible repeat (first | refine blk_drewN ?_ _ | refine blk_drew ?_ | refine blk_alloc ?_ _)); refine blk_far ?_ NB327_338.out _; (with_reducible repeat (first | refine blk_drewN ?_ _ | refine blk_drew ?_ | refine blk_alloc ?_ _)); refine blk_far ?_ NB327_338.out _; (with_reducible repeat (first | refine blk_drewN ?_ _ | refine blk_drew ?_ | refine blk_alloc ?_ _)); exact BK327.out⟩
                have n3_ : Aside0 (((w19.setCell ⟨gb338, 0, none⟩ (.int .i64 ((rd_T68 l0 x15_1).f0))).setCell ⟨gb338, 1, none⟩ (.int .i64 ((rd_T68 l0 x15_1).f1))).heap[gb336]? = some (.cells #[.bool x337000_1, u337001, u337002] 36 (0, 0))) := ⟨by (with_reducible repeat (first | refine blk_drewN ?_ _ | refine blk_drew ?_ | refine blk_alloc ?_ _)); refine blk_far ?_ NB336_338.out _; (with_reducible repeat (first | refine blk_drewN ?_ _ | refine blk_drew ?_ | refine blk_alloc ?_ _)); refine blk_far ?_ NB336_338.out _; (with_reducible repeat (first | refine blk_drewN ?_ _ | refine blk_drew ?_ | refine blk_alloc ?_ _)); exact BK336.out⟩
                have n4_ : Aside0 (((w19.setCell ⟨gb338, 0, none⟩ (.int .i64 ((rd_T68 l0 x15_1).f0))).setCell ⟨gb338, 1, none⟩ (.int .i64 ((rd_T68 l0 x15_1).f1))).heap[gb338]? = some (.cells #[.int .i64 ((rd_T68 l0 x15_1).f0), .int .i64 ((rd_T68 l0 x15_1).f1)] 68 (0, 0))) := ⟨by (with_reducible repeat (first | refine blk_drewN ?_ _ | refine blk_drew ?_ | refine blk_alloc ?_ _)); refine blk_put (cs := #[.int .i64 ((rd_T68 l0 x15_1).f0), .int .i64 0]) ?_ 1 _ rfl; (with_reducible repeat (first | refine blk_drewN ?_ _ | refine blk_drew ?_ | refine blk_alloc ?_ _)); refine blk_put (cs := #[.int .i64 0, .int .i64 0]) ?_ 0 _ rfl; (with_reducible repeat (first | refine blk_drewN ?_ _ | refine blk_drew ?_ | refine blk_alloc ?_ _)); exact BK338.out⟩
                have n5_ : Aside0 (Below w.heap.size w ((w19.setCell ⟨gb338, 0, none⟩ (.int .i64 ((rd_T68 l0 x15_1).f0))).setCell ⟨gb338, 1, none⟩ (.int .i64 ((rd_T68 l0 x15_1).f1)))) := ⟨by repeat (first | (with_reducible first | exact HB.out | apply below_alloc | apply pw_below_drewN | apply below_drew1 | refine below_set ?_ GE327.out | refine below_set ?_ GE336.out | refine below_set ?_ GE338.out) | exact HB.out)⟩
                (try clear HO_337001)
                (try clear HO_337002)
                (try clear BK327)
                (try clear BK336)
                (try clear BK338)
                (try clear HB)
                generalize ((w19.setCell ⟨gb338, 0, none⟩ (.int .i64 ((rd_T68 l0 x15_1).f0))).setCell ⟨gb338, 1, none⟩ (.int .i64 ((rd_T68 l0 x15_1).f1))) = w23 at n0_ n1_ n2_ n3_ n4_ n5_ ⊢
                have HO_337001 := n0_
                have HO_337002 := n1_
                have BK327 := n2_
                have BK336 := n3_
                have BK338 := n4_
                have HB := n5_
                clear n0_ n1_ n2_ n3_ n4_ n5_
                have n0_ := Aside0.mk (Kd.R_drew HO_337001.out)
                have n1_ := Aside0.mk (Kd.R_drew HO_337002.out)
                have n2_ := Aside0.mk (blk_drew BK327.out)
                have n3_ := Aside0.mk (blk_drew BK336.out)
                have n4_ := Aside0.mk (blk_drew BK338.out)
                have n5_ := Aside0.mk (below_drew1 HB.out)
                clear HO_337001
                clear HO_337002
                clear BK327
                clear BK336
                clear BK338
                clear HB
                have HO_337001 := n0_
                have HO_337002 := n1_
                have BK327 := n2_
                have BK336 := n3_
                have BK338 := n4_
                have HB := n5_
                clear n0_ n1_ n2_ n3_ n4_ n5_
                refine start_ (n := 10) (S := fun w' => w'.cell? ⟨gb336, 0, none⟩ = some (.bool x337000_1) ∧ w'.cell? ⟨gb336, 1, none⟩ = some (u337001) ∧ w'.cell? ⟨gb336, 2, none⟩ = some (u337002) ∧ w'.cell? ⟨gb338, 0, none⟩ = some (.int .i64 ((rd_T68 l0 x15_1).f0)) ∧ w'.cell? ⟨gb338, 1, none⟩ = some (.int .i64 ((rd_T68 l0 x15_1).f1))) (ds := [8]) #[false, false, false, false, false, false, false, false, false, false] (by kernel_rfl) rfl rfl ⟨(blk_cell BK336.out 0).trans rfl, (blk_cell BK336.out 1).trans rfl, (blk_cell BK336.out 2).trans rfl, (blk_cell BK338.out 0).trans rfl, (blk_cell BK338.out 1).trans rfl⟩ (fun hHeld => ?_); refine with_tabW odds_Exact.tab8 odds_Exact.bits8 (fun HT_ HW_ => ?_)
                generalize w23.drew = w24 at HO_337001 HO_337002 BK327 BK336 BK338 HB hHeld ⊢
                refine pure_ (i := 1) (N := some 21) (v := ?_) (a' := ?_) #[false, true, false, false, false, false, false, false, false, false] rfl rfl (any_of HT_.out (by kernel_rfl)) (fun _ _ _ h => h) (Or.inl ⟨by rfl, ?_⟩) ?_ ?_
                rotate_left
                · intro w'
                  go_simp
                  with_reducible rfl
                rotate_left
                · simp only [Act.put, List.setIfInBounds_toArray, List.set_cons_zero, List.set_cons_succ, i64_w, i32_w]
                  rfl
                refine take_ (i := 0) (N := some 20) (v := ?_) (a' := ?_) #[true, true, false, false, false, false, false, false, false, false] rfl rfl (take_ofW HT_.out HW_.out (by kernel_rfl)) (fun _ _ _ h => h) (Or.inl ⟨by rfl, ?_⟩) hHeld ?_ ?_
                rotate_left
                · rintro w' ⟨s0, s1, s2, s3, s4⟩
                  go_simp
                  with_reducible rfl
                rotate_left
                · simp only [Act.put, List.setIfInBounds_toArray, List.set_cons_zero, List.set_cons_succ, i64_w, i32_w]
                  rfl
                refine take_ (i := 2) (N := some 22) (v := ?_) (a' := ?_) #[true, true, true, false, false, false, false, false, false, false] rfl rfl (take_ofW HT_.out HW_.out (by kernel_rfl)) (fun _ _ _ h => h) (Or.inl ⟨by rfl, ?_⟩) hHeld ?_ ?_
                rotate_left
                · rintro w' ⟨s0, s1, s2, s3, s4⟩
                  go_simp
                  with_reducible rfl
                rotate_left
                · simp only [Act.put, List.setIfInBounds_toArray, List.set_cons_zero, List.set_cons_succ, i64_w, i32_w]
                  rfl
                refine one_ (i := 3) (N := some 23) #[true, true, true, true, false, false, false, false, false, false] rfl rfl (one_of HT_.out (by kernel_rfl)) (by decide) (fun K hK => ?_)
                refine goes_ Try.func32 (by kernel_rfl) rfl #[.int .i64 ((rd_T68 l0 x15_1).f0)] (by rfl) rfl rfl (by (try simp only [List.map_toArray, List.map_cons, List.map_nil]); first | done | rfl | (simp only [List.length_drop, List.length_take]; rfl)) ?_
                with_reducible refine (ratio_Of.calls k1 ((rd_T68 l0 x15_1).f0) t339 t340 t343 _ A16.out).mono ?_
                rintro e w25 ⟨v341, v344, rfl, ho0, ho1, hb⟩
                refine ⟨_, rfl, ?_⟩
                have n0_ := Aside0.mk (Kd.R_mono (Kd.R_told (Kd.R_told (Kd.R_old (by (with_reducible repeat (first | apply Kd.R_alloc | apply Kd.R_drewN | apply Kd.R_drew)); exact HO_337001.out) hb) (Kd.R_base ho0)) (Kd.R_base ho1)) (fun _ h_ => h_.1))
                have n1_ := Aside0.mk (Kd.R_mono (Kd.R_told (Kd.R_told (Kd.R_old (by (with_reducible repeat (first | apply Kd.R_alloc | apply Kd.R_drewN | apply Kd.R_drew)); exact HO_337002.out) hb) (Kd.R_base ho0)) (Kd.R_base ho1)) (fun _ h_ => h_.1))
                have n2_ := Aside0.mk (Kd.R_lower (Kd.R_new' (Kd.R_new' ho0 (Kd.R_lt (by (with_reducible repeat (first | apply Kd.R_alloc | apply Kd.R_drewN | apply Kd.R_drew)); exact HO_337001.out))) (Kd.R_lt (by (with_reducible repeat (first | apply Kd.R_alloc | apply Kd.R_drewN | apply Kd.R_drew)); exact HO_337002.out))) (below_size (by repeat (first | (with_reducible first | exact HB.out | apply below_alloc | apply pw_below_drewN | apply below_drew1 | refine below_set ?_ GE327.out | refine below_set ?_ GE336.out | refine below_set ?_ GE338.out) | exact HB.out))))
                have n3_ := Aside0.mk (Kd.R_lower (Kd.R_new' (Kd.R_new' ho1 (Kd.R_lt (by (with_reducible repeat (first | apply Kd.R_alloc | apply Kd.R_drewN | apply Kd.R_drew)); exact HO_337001.out))) (Kd.R_lt (by (with_reducible repeat (first | apply Kd.R_alloc | apply Kd.R_drewN | apply Kd.R_drew)); exact HO_337002.out))) (below_size (by repeat (first | (with_reducible first | exact HB.out | apply below_alloc | apply pw_below_drewN | apply below_drew1 | refine below_set ?_ GE327.out | refine below_set ?_ GE336.out | refine below_set ?_ GE338.out) | exact HB.out))))
                have n4_ := Aside0.mk (blk_below (g := gb327) (o := .cells #[.bool x328000_1, .slice none 0 0, .slice none 0 0] 36 (0, 0)) (by (with_reducible repeat (first | refine blk_drewN ?_ _ | refine blk_drew ?_ | refine blk_alloc ?_ _)); exact BK327.out) hb)
                have n5_ := Aside0.mk (blk_below (g := gb336) (o := .cells #[.bool x337000_1, u337001, u337002] 36 (0, 0)) (by (with_reducible repeat (first | refine blk_drewN ?_ _ | refine blk_drew ?_ | refine blk_alloc ?_ _)); exact BK336.out) hb)
                have n6_ := Aside0.mk (blk_below (g := gb338) (o := .cells #[.int .i64 ((rd_T68 l0 x15_1).f0), .int .i64 ((rd_T68 l0 x15_1).f1)] 68 (0, 0)) (by (with_reducible repeat (first | refine blk_drewN ?_ _ | refine blk_drew ?_ | refine blk_alloc ?_ _)); exact BK338.out) hb)
                have n7_ := Aside0.mk (below_step (by repeat (first | (with_reducible first | exact HB.out | apply below_alloc | apply pw_below_drewN | apply below_drew1 | refine below_set ?_ GE327.out | refine below_set ?_ GE336.out | refine below_set ?_ GE338.out) | exact HB.out)) hb)
                clear HO_337001
                clear HO_337002
                clear BK327
                clear BK336
                clear BK338
                clear HB
                have HO_337001 := n0_
                have HO_337002 := n1_
                have HO342 := n2_
                have HO345 := n3_
                have BK327 := n4_
                have BK336 := n5_
                have BK338 := n6_
                have HB := n7_
                clear n0_ n1_ n2_ n3_ n4_ n5_ n6_ n7_
                (try clear hb)
                (try clear hb2)
                (try clear hk)
                (try clear hi)
                (try clear ho0)
                (try clear ho1)
                obtain ⟨Ao26, co26, eo26⟩ := Kd.R_slice HO_337001.out
                (first | subst eo26 | (injection eo26 with f1_ f2_ f3_; have f4_ := f1_.symm; have f5_ := f3_.symm; clear f1_ f2_ f3_; subst f4_; subst f5_))
                obtain ⟨Ao27, co27, eo27⟩ := Kd.R_slice HO_337002.out
                (first | subst eo27 | (injection eo27 with f1_ f2_ f3_; have f4_ := f1_.symm; have f5_ := f3_.symm; clear f1_ f2_ f3_; subst f4_; subst f5_))
                obtain ⟨Ao28, co28, eo28⟩ := Kd.R_slice HO342.out
                (first | subst eo28 | (injection eo28 with f1_ f2_ f3_; have f4_ := f1_.symm; have f5_ := f3_.symm; clear f1_ f2_ f3_; subst f4_; subst f5_))
                obtain ⟨Ao29, co29, eo29⟩ := Kd.R_slice HO345.out
                (first | subst eo29 | (injection eo29 with f1_ f2_ f3_; have f4_ := f1_.symm; have f5_ := f3_.symm; clear f1_ f2_ f3_; subst f4_; subst f5_))
                refine hK.out _ _ ⟨(blk_cell BK336.out 0).trans rfl, (blk_cell BK336.out 1).trans rfl, (blk_cell BK336.out 2).trans rfl, (blk_cell BK338.out 0).trans rfl, (blk_cell BK338.out 1).trans rfl⟩ (fun hHeld => ?_)
                clear hK K
                refine norm_ (a' := ?_) ?_ ?_
                rotate_left
                · show Act.put _ (some 23) _ = _
                  simp only [Act.put, List.setIfInBounds_toArray, List.set_cons_zero, List.set_cons_succ, i64_w, i32_w]
                  rfl
                refine one_ (i := 4) (N := some 24) #[true, true, true, true, true, false, false, false, false, false] rfl rfl (one_of HT_.out (by kernel_rfl)) (by decide) (fun K hK => ?_)
                refine goes_ Try.func33 (by kernel_rfl) rfl #[.agg #[.bool x337000_1, .slice Ao26 x337001_1.length co26, .slice Ao27 x337002_1.length co27], .agg #[.bool t339, .slice Ao28 t340.length co28, .slice Ao29 t343.length co29]] (by rfl) rfl rfl (by (try simp only [List.map_toArray, List.map_cons, List.map_nil]); first | done | rfl | (simp only [List.length_drop, List.length_take]; rfl)) ?_
                with_reducible refine (ratio_Div.calls k1 x337000_1 (fun k_ => some k_ = (.slice Ao26 x337001_1.length co26 : Value).ownBlock) _ _ x337001_1 (fun k_ => some k_ = (.slice Ao27 x337002_1.length co27 : Value).ownBlock) _ _ x337002_1 t339 (fun k_ => some k_ = (.slice Ao28 t340.length co28 : Value).ownBlock) _ _ t340 (fun k_ => some k_ = (.slice Ao29 t343.length co29 : Value).ownBlock) _ _ t343 t346 t347 t350 t353 _ ?side1 ?side2 ?side3 ?side4 A17.out).mono ?_
                (case side1 => exact Kd.R_V (Kd.R_tight rfl (Kd.R_types (Kd.R_types (Kd.R_types (HO_337001.out) BK327.out (by decide)) BK336.out (by decide)) BK338.out (by decide))))
                (case side2 => exact Kd.R_V (Kd.R_tight rfl (Kd.R_types (Kd.R_types (Kd.R_types (HO_337002.out) BK327.out (by decide)) BK336.out (by decide)) BK338.out (by decide))))
                (case side3 => exact Kd.R_V (Kd.R_tight rfl (Kd.R_types (Kd.R_types (Kd.R_types (HO342.out) BK327.out (by decide)) BK336.out (by decide)) BK338.out (by decide))))
                (case side4 => exact Kd.R_V (Kd.R_tight rfl (Kd.R_types (Kd.R_types (Kd.R_types (HO345.out) BK327.out (by decide)) BK336.out (by decide)) BK338.out (by decide))))
                rintro e w30 ⟨v348, v351, rfl, ho0, ho1, hb⟩
                refine ⟨_, rfl, ?_⟩
                have n0_ := Aside0.mk (Kd.R_mono (Kd.R_told (Kd.R_told (Kd.R_old (by (with_reducible repeat (first | apply Kd.R_alloc | apply Kd.R_drewN | apply Kd.R_drew)); exact HO_337001.out) hb) (Kd.R_base ho0)) (Kd.R_base ho1)) (fun _ h_ => h_.1))
                have n1_ := Aside0.mk (Kd.R_mono (Kd.R_told (Kd.R_told (Kd.R_old (by (with_reducible repeat (first | apply Kd.R_alloc | apply Kd.R_drewN | apply Kd.R_drew)); exact HO_337002.out) hb) (Kd.R_base ho0)) (Kd.R_base ho1)) (fun _ h_ => h_.1))
                have n2_ := Aside0.mk (Kd.R_mono (Kd.R_told (Kd.R_told (Kd.R_old (by (with_reducible repeat (first | apply Kd.R_alloc | apply Kd.R_drewN | apply Kd.R_drew)); exact HO342.out) hb) (Kd.R_base ho0)) (Kd.R_base ho1)) (fun _ h_ => h_.1))
                have n3_ := Aside0.mk (Kd.R_mono (Kd.R_told (Kd.R_told (Kd.R_old (by (with_reducible repeat (first | apply Kd.R_alloc | apply Kd.R_drewN | apply Kd.R_drew)); exact HO345.out) hb) (Kd.R_base ho0)) (Kd.R_base ho1)) (fun _ h_ => h_.1))
                have n4_ := Aside0.mk (Kd.R_lower (Kd.R_new' (Kd.R_new' (Kd.R_new' (Kd.R_new' (Kd.R_mono (ok' := fun k_ => some k_ ≠ (v351 : Value).ownBlock) ho0 (fun _ hk_ => hk_.2)) (Kd.R_lt (by (with_reducible repeat (first | apply Kd.R_alloc | apply Kd.R_drewN | apply Kd.R_drew)); exact HO_337001.out))) (Kd.R_lt (by (with_reducible repeat (first | apply Kd.R_alloc | apply Kd.R_drewN | apply Kd.R_drew)); exact HO_337002.out))) (Kd.R_lt (by (with_reducible repeat (first | apply Kd.R_alloc | apply Kd.R_drewN | apply Kd.R_drew)); exact HO342.out))) (Kd.R_lt (by (with_reducible repeat (first | apply Kd.R_alloc | apply Kd.R_drewN | apply Kd.R_drew)); exact HO345.out))) (below_size (by repeat (first | (with_reducible first | exact HB.out | apply below_alloc | apply pw_below_drewN | apply below_drew1 | refine below_set ?_ GE327.out | refine below_set ?_ GE336.out | refine below_set ?_ GE338.out) | exact HB.out))))
                have n5_ := Aside0.mk (Kd.R_lower (Kd.R_new' (Kd.R_new' (Kd.R_new' (Kd.R_new' (Kd.R_mono (ok' := fun k_ => some k_ ≠ (v348 : Value).ownBlock) ho1 (fun _ hk_ => hk_.2)) (Kd.R_lt (by (with_reducible repeat (first | apply Kd.R_alloc | apply Kd.R_drewN | apply Kd.R_drew)); exact HO_337001.out))) (Kd.R_lt (by (with_reducible repeat (first | apply Kd.R_alloc | apply Kd.R_drewN | apply Kd.R_drew)); exact HO_337002.out))) (Kd.R_lt (by (with_reducible repeat (first | apply Kd.R_alloc | apply Kd.R_drewN | apply Kd.R_drew)); exact HO342.out))) (Kd.R_lt (by (with_reducible repeat (first | apply Kd.R_alloc | apply Kd.R_drewN | apply Kd.R_drew)); exact HO345.out))) (below_size (by repeat (first | (with_reducible first | exact HB.out | apply below_alloc | apply pw_below_drewN | apply below_drew1 | refine below_set ?_ GE327.out | refine below_set ?_ GE336.out | refine below_set ?_ GE338.out) | exact HB.out))))
                have n6_ := Aside0.mk (blk_below (g := gb327) (o := .cells #[.bool x328000_1, .slice none 0 0, .slice none 0 0] 36 (0, 0)) (by (with_reducible repeat (first | refine blk_drewN ?_ _ | refine blk_drew ?_ | refine blk_alloc ?_ _)); exact BK327.out) hb)
                have n7_ := Aside0.mk (blk_below (g := gb336) (o := .cells #[.bool x337000_1, .slice Ao26 x337001_1.length co26, .slice Ao27 x337002_1.length co27] 36 (0, 0)) (by (with_reducible repeat (first | refine blk_drewN ?_ _ | refine blk_drew ?_ | refine blk_alloc ?_ _)); exact BK336.out) hb)
                have n8_ := Aside0.mk (blk_below (g := gb338) (o := .cells #[.int .i64 ((rd_T68 l0 x15_1).f0), .int .i64 ((rd_T68 l0 x15_1).f1)] 68 (0, 0)) (by (with_reducible repeat (first | refine blk_drewN ?_ _ | refine blk_drew ?_ | refine blk_alloc ?_ _)); exact BK338.out) hb)
                have n9_ := Aside0.mk (below_step (by repeat (first | (with_reducible first | exact HB.out | apply below_alloc | apply pw_below_drewN | apply below_drew1 | refine below_set ?_ GE327.out | refine below_set ?_ GE336.out | refine below_set ?_ GE338.out) | exact HB.out)) hb)
                clear HO_337001
                clear HO_337002
                clear HO342
                clear HO345
                clear BK327
                clear BK336
                clear BK338
                clear HB
                have HO_337001 := n0_
                have HO_337002 := n1_
                have HO342 := n2_
                have HO345 := n3_
                have HO349 := n4_
                have HO352 := n5_
                have BK327 := n6_
                have BK336 := n7_
                have BK338 := n8_
                have HB := n9_
                clear n0_ n1_ n2_ n3_ n4_ n5_ n6_ n7_ n8_ n9_
                (try clear hb)
                (try clear hb2)
                (try clear hk)
                (try clear hi)
                (try clear ho0)
                (try clear ho1)
                obtain ⟨Ao32, co32, eo32⟩ := Kd.R_slice HO349.out
                (first | subst eo32 | (injection eo32 with f1_ f2_ f3_; have f4_ := f1_.symm; have f5_ := f3_.symm; clear f1_ f2_ f3_; subst f4_; subst f5_))
                obtain ⟨Ao34, co34, eo34⟩ := Kd.R_slice HO352.out
                (first | subst eo34 | (injection eo34 with f1_ f2_ f3_; have f4_ := f1_.symm; have f5_ := f3_.symm; clear f1_ f2_ f3_; subst f4_; subst f5_))
                refine hK.out _ _ ⟨(blk_cell BK336.out 0).trans rfl, (blk_cell BK336.out 1).trans rfl, (blk_cell BK336.out 2).trans rfl, (blk_cell BK338.out 0).trans rfl, (blk_cell BK338.out 1).trans rfl⟩ (fun hHeld => ?_)
                clear hK K
                refine norm_ (a' := ?_) ?_ ?_
                rotate_left
                · show Act.put _ (some 24) _ = _
                  simp only [Act.put, List.setIfInBounds_toArray, List.set_cons_zero, List.set_cons_succ, i64_w, i32_w]
                  rfl
                refine pure_ (i := 5) (N := some 19) (v := ?_) (a' := ?_) #[true, true, true, true, true, true, false, false, false, false] rfl rfl (any_of HT_.out (by kernel_rfl)) (fun _ _ _ h => h) (Or.inl ⟨by rfl, ?_⟩) ?_ ?_
                rotate_left
                · intro w'
                  go_simp
                  with_reducible rfl
                rotate_left
                · simp only [Act.put, List.setIfInBounds_toArray, List.set_cons_zero, List.set_cons_succ, i64_w, i32_w]
                  rfl
                refine pure_ (i := 6) (N := some 25) (v := ?_) (a' := ?_) #[true, true, true, true, true, true, true, false, false, false] rfl rfl (any_of HT_.out (by kernel_rfl)) (fun _ _ _ h => h) (Or.inl ⟨by rfl, ?_⟩) ?_ ?_
                rotate_left
                · intro w'
                  go_simp
                  with_reducible rfl
                rotate_left
                · simp only [Act.put, List.setIfInBounds_toArray, List.set_cons_zero, List.set_cons_succ, i64_w, i32_w]
                  rfl
                refine pure_ (i := 7) (N := some 26) (v := ?_) (a' := ?_) #[true, true, true, true, true, true, true, true, false, false] rfl rfl (any_of HT_.out (by kernel_rfl)) (fun _ _ _ h => h) (Or.inl ⟨by rfl, ?_⟩) ?_ ?_
                rotate_left
                · intro w'
                  go_simp
                  with_reducible rfl
                rotate_left
                · simp only [Act.put, List.setIfInBounds_toArray, List.set_cons_zero, List.set_cons_succ, i64_w, i32_w]
                  rfl
                refine last_ (i := 8) (N := none) #[true, true, true, true, true, true, true, true, true, false] rfl rfl (one_of HT_.out (by kernel_rfl)) (by decide) (fun K hK => ?_)
                have hs31 : w30.cell? ⟨gb336, 0, none⟩ = some (.bool x337000_1) := (blk_cell BK336.out 0).trans rfl
                have hfs31 := blk_frozen BK336.out 0
                have hns31_0 := NB327_336.out
                have hns31_2 := NB338_336.out
                have hms31_0 := NB336_327.out
                have hms31_2 := NB336_338.out
                have hs33 : w30.cell? ⟨gb336, 1, none⟩ = some (.slice Ao26 x337001_1.length co26) := (blk_cell BK336.out 1).trans rfl
                have hfs33 := blk_frozen BK336.out 1
                have hns33_0 := NB327_336.out
                have hns33_2 := NB338_336.out
                have hms33_0 := NB336_327.out
                have hms33_2 := NB336_338.out
                have hs35 : w30.cell? ⟨gb336, 2, none⟩ = some (.slice Ao27 x337002_1.length co27) := (blk_cell BK336.out 2).trans rfl
                have hfs35 := blk_frozen BK336.out 2
                have hns35_0 := NB327_336.out
                have hns35_2 := NB338_336.out
                have hms35_0 := NB336_327.out
                have hms35_2 := NB336_338.out
                refine skip_ (w1 := ?_) (by rfl) rfl ?_ ?_
                rotate_left
                · go_simp
                  rfl
                refine hK.out _ _ ?_
                clear hK K
                refine pure_ (i := 9) (N := some 7) (v := ?_) (a' := ?_) #[true, true, true, true, true, true, true, true, true, true] rfl rfl (any_of HT_.out (by kernel_rfl)) (fun _ _ _ h => h) (Or.inl ⟨by rfl, ?_⟩) ?_ ?_
                rotate_left
                · intro w'
                  go_simp
                  with_reducible rfl
                rotate_left
                · simp only [Act.put, List.setIfInBounds_toArray, List.set_cons_zero, List.set_cons_succ, i64_w, i32_w]
                  rfl
                refine done_ (done_of HT_.out (by kernel_rfl)) ?_
                try go_wp2
                go_roundg k1
                case measure => have := HK1.out; omega
                case rel => exact ⟨(wrap64 (x15_1 + 1)), (x328000_1), (t346), (t347), (t350), (.slice Ao32 t347.length co32), (.slice Ao34 t350.length co34), (by first | rfl | (simp; done) | (simp [*]; done)), H', ⟨by have := HK1.out; omega⟩, ⟨by (with_reducible repeat (first | apply Kd.R_alloc | apply Kd.R_drewN | apply Kd.R_drew)); exact Kd.R_mono (Kd.R_far (p := ⟨gb336, 2, none⟩) (Kd.R_far (p := ⟨gb336, 1, none⟩) (Kd.R_far (p := ⟨gb336, 0, none⟩) (Kd.R_types HO349.out BK336.out (by decide)) (fun _ hk => hk.2) (.bool t346)) (fun _ hk => hk.2) (.slice Ao32 t347.length co32)) (fun _ hk => hk.2) (.slice Ao34 t350.length co34)) (fun _ hk => hk.1.1.1.1.1)⟩, ⟨by (with_reducible repeat (first | apply Kd.R_alloc | apply Kd.R_drewN | apply Kd.R_drew)); exact Kd.R_mono (Kd.R_far (p := ⟨gb336, 2, none⟩) (Kd.R_far (p := ⟨gb336, 1, none⟩) (Kd.R_far (p := ⟨gb336, 0, none⟩) (Kd.R_types HO352.out BK336.out (by decide)) (fun _ hk => hk.2) (.bool t346)) (fun _ hk => hk.2) (.slice Ao32 t347.length co32)) (fun _ hk => hk.2) (.slice Ao34 t350.length co34)) (fun _ hk => hk.1.1.1.1.1)⟩, ⟨by (with_reducible repeat (first | refine blk_drewN ?_ _ | refine blk_drew ?_ | refine blk_alloc ?_ _)); refine blk_far ?_ NB327_336.out _; (with_reducible repeat (first | refine blk_drewN ?_ _ | refine blk_drew ?_ | refine blk_alloc ?_ _)); refine blk_far ?_ NB327_336.out _; (with_reducible repeat (first | refine blk_drewN ?_ _ | refine blk_drew ?_ | refine blk_alloc ?_ _)); refine blk_far ?_ NB327_336.out _; (with_reducible repeat (first | refine blk_drewN ?_ _ | refine blk_drew ?_ | refine blk_alloc ?_ _)); exact BK327.out⟩, ⟨by (with_reducible repeat (first | refine blk_drewN ?_ _ | refine blk_drew ?_ | refine blk_alloc ?_ _)); refine blk_put (cs := #[.bool t346, .slice Ao32 t347.length co32, .slice Ao27 x337002_1.length co27]) ?_ 2 _ rfl; (with_reducible repeat (first | refine blk_drewN ?_ _ | refine blk_drew ?_ | refine blk_alloc ?_ _)); refine blk_put (cs := #[.bool t346, .slice Ao26 x337001_1.length co26, .slice Ao27 x337002_1.length co27]) ?_ 1 _ rfl; (with_reducible repeat (first | refine blk_drewN ?_ _ | refine blk_drew ?_ | refine blk_alloc ?_ _)); refine blk_put (cs := #[.bool x337000_1, .slice Ao26 x337001_1.length co26, .slice Ao27 x337002_1.length co27]) ?_ 0 _ rfl; (with_reducible repeat (first | refine blk_drewN ?_ _ | refine blk_drew ?_ | refine blk_alloc ?_ _)); exact BK336.out⟩, ⟨by repeat (first | (with_reducible first | exact HB.out | apply below_alloc | apply pw_below_drewN | apply below_drew1 | refine below_set ?_ GE327.out | refine below_set ?_ GE336.out | refine below_set ?_ GE338.out) | exact HB.out)⟩⟩
              · rw [if_neg c18] at H
                have c18b0 : (t353 == 0) = false := beq_eq_false_iff_ne.mpr c18
                have c18b1 : (t353 != 0) = true := bne_iff_ne.mpr c18
                simp only [Option.some.injEq, Prod.mk.injEq] at H
                obtain ⟨rfl, rfl, rfl, rfl⟩ := H
                have p337 : 0 ≤ (x15_1 : Int) := of_decide_eq_true (by first | (with_reducible assumption) | assumption)
                have q337 : x15_1 < (l0.length : Int) := of_decide_eq_true (by first | (with_reducible assumption) | assumption)
                obtain ⟨ad337, e337, hx337_0, hx337_1⟩ := at_T68 HR0.out x15_1 p337 q337
                cases e337
                replace hx337_0 := (HB.out.cell (World.block_lt_of_cell? w _ hx337_0)).trans hx337_0
                replace hx337_1 := (HB.out.cell (World.block_lt_of_cell? w _ hx337_1)).trans hx337_1
                replace p337 := eq_true p337
                replace q337 := eq_true q337
                try go_wp2_with (first | ((with_reducible refine gate_dst (N := 6) rfl ?_); refine box_event ?hg (N := 6) ?hd (cs := #[.int .i64 0, .int .i64 0]) (t := 68) ?hr ?_; (case hd => rfl); (case hg => rfl); (case hr => first | (go_simp; done) | (go_simp; rfl)); intro gb338 hg w36 hbox hb; have n0_ := Aside0.mk (Kd.R_below (by (with_reducible repeat (first | apply Kd.R_alloc | apply Kd.R_drewN | apply Kd.R_drew)); exact HO_337001.out) hb); have n1_ := Aside0.mk (Kd.R_below (by (with_reducible repeat (first | apply Kd.R_alloc | apply Kd.R_drewN | apply Kd.R_drew)); exact HO_337002.out) hb); have n2_ := Aside0.mk (blk_below (g := gb327) (o := .cells #[.bool x328000_1, .slice none 0 0, .slice none 0 0] 36 (0, 0)) (by (with_reducible repeat (first | refine blk_drewN ?_ _ | refine blk_drew ?_ | refine blk_alloc ?_ _)); exact BK327.out) hb); have n3_ := Aside0.mk (blk_below (g := gb336) (o := .cells #[.bool x337000_1, u337001, u337002] 36 (0, 0)) (by (with_reducible repeat (first | refine blk_drewN ?_ _ | refine blk_drew ?_ | refine blk_alloc ?_ _)); exact BK336.out) hb); have n4_ := Aside0.mk (below_step (by repeat (first | (with_reducible first | exact HB.out | apply below_alloc | apply pw_below_drewN | apply below_drew1 | refine below_set ?_ GE327.out | refine below_set ?_ GE336.out) | exact HB.out)) hb); have n5_ := Aside0.mk (hbox); have n6_ := Aside0.mk ((by rw [hg]; exact (below_size (by repeat (first | (with_reducible first | exact HB.out | apply below_alloc | apply pw_below_drewN | apply below_drew1 | refine below_set ?_ GE327.out | refine below_set ?_ GE336.out) | exact HB.out))) : w.heap.size ≤ gb338)); have n7_ := Aside0.mk ((by rw [hg]; exact (below_size (by repeat (first | (with_reducible first | exact HB.out | apply below_alloc | apply pw_below_drewN | apply below_drew1 | refine below_set ?_ GE327.out | refine below_set ?_ GE336.out) | exact HB.out))) : w.heap.size ≤ gb338)); have n8_ := Aside0.mk ((by rw [hg]; exact Nat.ne_of_lt (blk_lt (g := gb327) (o := .cells #[.bool x328000_1, .slice none 0 0, .slice none 0 0] 36 (0, 0)) (by (with_reducible repeat (first | refine blk_drewN ?_ _ | refine blk_drew ?_ | refine blk_alloc ?_ _)); exact BK327.out)) : gb327 ≠ gb338)); have n9_ := Aside0.mk ((by rw [hg]; exact Nat.ne_of_gt (blk_lt (g := gb327) (o := .cells #[.bool x328000_1, .slice none 0 0, .slice none 0 0] 36 (0, 0)) (by (with_reducible repeat (first | refine blk_drewN ?_ _ | refine blk_drew ?_ | refine blk_alloc ?_ _)); exact BK327.out)) : gb338 ≠ gb327)); have n10_ := Aside0.mk ((by rw [hg]; exact Nat.ne_of_lt (blk_lt (g := gb336) (o := .cells #[.bool x337000_1, u337001, u337002] 36 (0, 0)) (by (with_reducible repeat (first | refine blk_drewN ?_ _ | refine blk_drew ?_ | refine blk_alloc ?_ _)); exact BK336.out)) : gb336 ≠ gb338)); have n11_ := Aside0.mk ((by rw [hg]; exact Nat.ne_of_gt (blk_lt (g := gb336) (o := .cells #[.bool x337000_1, u337001, u337002] 36 (0, 0)) (by (with_reducible repeat (first | refine blk_drewN ?_ _ | refine blk_drew ?_ | refine blk_alloc ?_ _)); exact BK336.out)) : gb338 ≠ gb336)); clear HO_337001; clear HO_337002; clear BK327; clear BK336; clear HB; have HO_337001 := n0_; have HO_337002 := n1_; have BK327 := n2_; have BK336 := n3_; have HB := n4_; have BK338 := n5_; have GW338 := n6_; have GE338 := n7_; have NB327_338 := n8_; have NB338_327 := n9_; have NB336_338 := n10_; have NB338_336 := n11_; clear n0_ n1_ n2_ n3_ n4_ n5_ n6_ n7_ n8_ n9_ n10_ n11_; clear hb hbox hg; have hnb37 := NB338_327.out; have hnc37 := NB327_338.out; have hnb38 := NB338_336.out; have hnc38 := NB336_338.out; have hcz39_0 : w36.cell? ⟨gb338, 0, none⟩ = some (.int .i64 0) := (blk_cell BK338.out 0).trans rfl; have hcz39_1 : w36.cell? ⟨gb338, 1, none⟩ = some (.int .i64 0) := (blk_cell BK338.out 1).trans rfl; have hfz39_0 := blk_frozen BK338.out 0; have hfz39_1 := blk_frozen BK338.out 1))
                have n0_ : Aside0 (Kd.R (Kd.int .u32) 99 ((w36.setCell ⟨gb338, 0, none⟩ (.int .i64 ((rd_T68 l0 x15_1).f0))).setCell ⟨gb338, 1, none⟩ (.int .i64 ((rd_T68 l0 x15_1).f1))) w.heap.size (fun k_ => some k_ ≠ (u337002 : Value).ownBlock) u337001 x337001_1) := ⟨by (with_reducible repeat (first | apply Kd.R_alloc | apply Kd.R_drewN | apply Kd.R_drew)); exact Kd.R_mono (Kd.R_far (p := ⟨gb338, 1, none⟩) (Kd.R_far (p := ⟨gb338, 0, none⟩) (Kd.R_types HO_337001.out BK338.out (by decide)) (fun _ hk => hk.2) (.int .i64 ((rd_T68 l0 x15_1).f0))) (fun _ hk => hk.2) (.int .i64 ((rd_T68 l0 x15_1).f1))) (fun _ hk => hk.1)⟩
                have n1_ : Aside0 (Kd.R (Kd.int .u32) 99 ((w36.setCell ⟨gb338, 0, none⟩ (.int .i64 ((rd_T68 l0 x15_1).f0))).setCell ⟨gb338, 1, none⟩ (.int .i64 ((rd_T68 l0 x15_1).f1))) w.heap.size (fun k_ => some k_ ≠ (u337001 : Value).ownBlock) u337002 x337002_1) := ⟨by (with_reducible repeat (first | apply Kd.R_alloc | apply Kd.R_drewN | apply Kd.R_drew)); exact Kd.R_mono (Kd.R_far (p := ⟨gb338, 1, none⟩) (Kd.R_far (p := ⟨gb338, 0, none⟩) (Kd.R_types HO_337002.out BK338.out (by decide)) (fun _ hk => hk.2) (.int .i64 ((rd_T68 l0 x15_1).f0))) (fun _ hk => hk.2) (.int .i64 ((rd_T68 l0 x15_1).f1))) (fun _ hk => hk.1)⟩
                have n2_ : Aside0 (((w36.setCell ⟨gb338, 0, none⟩ (.int .i64 ((rd_T68 l0 x15_1).f0))).setCell ⟨gb338, 1, none⟩ (.int .i64 ((rd_T68 l0 x15_1).f1))).heap[gb327]? = some (.cells #[.bool x328000_1, .slice none 0 0, .slice none 0 0] 36 (0, 0))) := ⟨by (with_reducible repeat (first | refine blk_drewN ?_ _ | refine blk_drew ?_ | refine blk_alloc ?_ _)); refine blk_far ?_ NB327_338.out _; (with_reducible repeat (first | refine blk_drewN ?_ _ | refine blk_drew ?_ | refine blk_alloc ?_ _)); refine blk_far ?_ NB327_338.out _; (with_reducible repeat (first | refine blk_drewN ?_ _ | refine blk_drew ?_ | refine blk_alloc ?_ _)); exact BK327.out⟩
                have n3_ : Aside0 (((w36.setCell ⟨gb338, 0, none⟩ (.int .i64 ((rd_T68 l0 x15_1).f0))).setCell ⟨gb338, 1, none⟩ (.int .i64 ((rd_T68 l0 x15_1).f1))).heap[gb336]? = some (.cells #[.bool x337000_1, u337001, u337002] 36 (0, 0))) := ⟨by (with_reducible repeat (first | refine blk_drewN ?_ _ | refine blk_drew ?_ | refine blk_alloc ?_ _)); refine blk_far ?_ NB336_338.out _; (with_reducible repeat (first | refine blk_drewN ?_ _ | refine blk_drew ?_ | refine blk_alloc ?_ _)); refine blk_far ?_ NB336_338.out _; (with_reducible repeat (first | refine blk_drewN ?_ _ | refine blk_drew ?_ | refine blk_alloc ?_ _)); exact BK336.out⟩
                have n4_ : Aside0 (((w36.setCell ⟨gb338, 0, none⟩ (.int .i64 ((rd_T68 l0 x15_1).f0))).setCell ⟨gb338, 1, none⟩ (.int .i64 ((rd_T68 l0 x15_1).f1))).heap[gb338]? = some (.cells #[.int .i64 ((rd_T68 l0 x15_1).f0), .int .i64 ((rd_T68 l0 x15_1).f1)] 68 (0, 0))) := ⟨by (with_reducible repeat (first | refine blk_drewN ?_ _ | refine blk_drew ?_ | refine blk_alloc ?_ _)); refine blk_put (cs := #[.int .i64 ((rd_T68 l0 x15_1).f0), .int .i64 0]) ?_ 1 _ rfl; (with_reducible repeat (first | refine blk_drewN ?_ _ | refine blk_drew ?_ | refine blk_alloc ?_ _)); refine blk_put (cs := #[.int .i64 0, .int .i64 0]) ?_ 0 _ rfl; (with_reducible repeat (first | refine blk_drewN ?_ _ | refine blk_drew ?_ | refine blk_alloc ?_ _)); exact BK338.out⟩
                have n5_ : Aside0 (Below w.heap.size w ((w36.setCell ⟨gb338, 0, none⟩ (.int .i64 ((rd_T68 l0 x15_1).f0))).setCell ⟨gb338, 1, none⟩ (.int .i64 ((rd_T68 l0 x15_1).f1)))) := ⟨by repeat (first | (with_reducible first | exact HB.out | apply below_alloc | apply pw_below_drewN | apply below_drew1 | refine below_set ?_ GE327.out | refine below_set ?_ GE336.out | refine below_set ?_ GE338.out) | exact HB.out)⟩
                (try clear HO_337001)
                (try clear HO_337002)
                (try clear BK327)
                (try clear BK336)
                (try clear BK338)
                (try clear HB)
                generalize ((w36.setCell ⟨gb338, 0, none⟩ (.int .i64 ((rd_T68 l0 x15_1).f0))).setCell ⟨gb338, 1, none⟩ (.int .i64 ((rd_T68 l0 x15_1).f1))) = w40 at n0_ n1_ n2_ n3_ n4_ n5_ ⊢
                have HO_337001 := n0_
                have HO_337002 := n1_
                have BK327 := n2_
                have BK336 := n3_
                have BK338 := n4_
                have HB := n5_
                clear n0_ n1_ n2_ n3_ n4_ n5_
                have n0_ := Aside0.mk (Kd.R_drew HO_337001.out)
                have n1_ := Aside0.mk (Kd.R_drew HO_337002.out)
                have n2_ := Aside0.mk (blk_drew BK327.out)
                have n3_ := Aside0.mk (blk_drew BK336.out)
                have n4_ := Aside0.mk (blk_drew BK338.out)
                have n5_ := Aside0.mk (below_drew1 HB.out)
                clear HO_337001
                clear HO_337002
                clear BK327
                clear BK336
                clear BK338
                clear HB
                have HO_337001 := n0_
                have HO_337002 := n1_
                have BK327 := n2_
                have BK336 := n3_
                have BK338 := n4_
                have HB := n5_
                clear n0_ n1_ n2_ n3_ n4_ n5_
                refine start_ (n := 10) (S := fun w' => w'.cell? ⟨gb336, 0, none⟩ = some (.bool x337000_1) ∧ w'.cell? ⟨gb336, 1, none⟩ = some (u337001) ∧ w'.cell? ⟨gb336, 2, none⟩ = some (u337002) ∧ w'.cell? ⟨gb338, 0, none⟩ = some (.int .i64 ((rd_T68 l0 x15_1).f0)) ∧ w'.cell? ⟨gb338, 1, none⟩ = some (.int .i64 ((rd_T68 l0 x15_1).f1))) (ds := [8]) #[false, false, false, false, false, false, false, false, false, false] (by kernel_rfl) rfl rfl ⟨(blk_cell BK336.out 0).trans rfl, (blk_cell BK336.out 1).trans rfl, (blk_cell BK336.out 2).trans rfl, (blk_cell BK338.out 0).trans rfl, (blk_cell BK338.out 1).trans rfl⟩ (fun hHeld => ?_); refine with_tabW odds_Exact.tab8 odds_Exact.bits8 (fun HT_ HW_ => ?_)
                generalize w40.drew = w41 at HO_337001 HO_337002 BK327 BK336 BK338 HB hHeld ⊢
                refine pure_ (i := 1) (N := some 21) (v := ?_) (a' := ?_) #[false, true, false, false, false, false, false, false, false, false] rfl rfl (any_of HT_.out (by kernel_rfl)) (fun _ _ _ h => h) (Or.inl ⟨by rfl, ?_⟩) ?_ ?_
                rotate_left
                · intro w'
                  go_simp
                  with_reducible rfl
                rotate_left
                · simp only [Act.put, List.setIfInBounds_toArray, List.set_cons_zero, List.set_cons_succ, i64_w, i32_w]
                  rfl
                refine take_ (i := 0) (N := some 20) (v := ?_) (a' := ?_) #[true, true, false, false, false, false, false, false, false, false] rfl rfl (take_ofW HT_.out HW_.out (by kernel_rfl)) (fun _ _ _ h => h) (Or.inl ⟨by rfl, ?_⟩) hHeld ?_ ?_
                rotate_left
                · rintro w' ⟨s0, s1, s2, s3, s4⟩
                  go_simp
                  with_reducible rfl
                rotate_left
                · simp only [Act.put, List.setIfInBounds_toArray, List.set_cons_zero, List.set_cons_succ, i64_w, i32_w]
                  rfl
                refine take_ (i := 2) (N := some 22) (v := ?_) (a' := ?_) #[true, true, true, false, false, false, false, false, false, false] rfl rfl (take_ofW HT_.out HW_.out (by kernel_rfl)) (fun _ _ _ h => h) (Or.inl ⟨by rfl, ?_⟩) hHeld ?_ ?_
                rotate_left
                · rintro w' ⟨s0, s1, s2, s3, s4⟩
                  go_simp
                  with_reducible rfl
                rotate_left
                · simp only [Act.put, List.setIfInBounds_toArray, List.set_cons_zero, List.set_cons_succ, i64_w, i32_w]
                  rfl
                refine one_ (i := 3) (N := some 23) #[true, true, true, true, false, false, false, false, false, false] rfl rfl (one_of HT_.out (by kernel_rfl)) (by decide) (fun K hK => ?_)
                refine goes_ Try.func32 (by kernel_rfl) rfl #[.int .i64 ((rd_T68 l0 x15_1).f0)] (by rfl) rfl rfl (by (try simp only [List.map_toArray, List.map_cons, List.map_nil]); first | done | rfl | (simp only [List.length_drop, List.length_take]; rfl)) ?_
                with_reducible refine (ratio_Of.calls k1 ((rd_T68 l0 x15_1).f0) t339 t340 t343 _ A16.out).mono ?_
                rintro e w42 ⟨v341, v344, rfl, ho0, ho1, hb⟩
                refine ⟨_, rfl, ?_⟩
                have n0_ := Aside0.mk (Kd.R_mono (Kd.R_told (Kd.R_told (Kd.R_old (by (with_reducible repeat (first | apply Kd.R_alloc | apply Kd.R_drewN | apply Kd.R_drew)); exact HO_337001.out) hb) (Kd.R_base ho0)) (Kd.R_base ho1)) (fun _ h_ => h_.1))
                have n1_ := Aside0.mk (Kd.R_mono (Kd.R_told (Kd.R_told (Kd.R_old (by (with_reducible repeat (first | apply Kd.R_alloc | apply Kd.R_drewN | apply Kd.R_drew)); exact HO_337002.out) hb) (Kd.R_base ho0)) (Kd.R_base ho1)) (fun _ h_ => h_.1))
                have n2_ := Aside0.mk (Kd.R_lower (Kd.R_new' (Kd.R_new' ho0 (Kd.R_lt (by (with_reducible repeat (first | apply Kd.R_alloc | apply Kd.R_drewN | apply Kd.R_drew)); exact HO_337001.out))) (Kd.R_lt (by (with_reducible repeat (first | apply Kd.R_alloc | apply Kd.R_drewN | apply Kd.R_drew)); exact HO_337002.out))) (below_size (by repeat (first | (with_reducible first | exact HB.out | apply below_alloc | apply pw_below_drewN | apply below_drew1 | refine below_set ?_ GE327.out | refine below_set ?_ GE336.out | refine below_set ?_ GE338.out) | exact HB.out))))
                have n3_ := Aside0.mk (Kd.R_lower (Kd.R_new' (Kd.R_new' ho1 (Kd.R_lt (by (with_reducible repeat (first | apply Kd.R_alloc | apply Kd.R_drewN | apply Kd.R_drew)); exact HO_337001.out))) (Kd.R_lt (by (with_reducible repeat (first | apply Kd.R_alloc | apply Kd.R_drewN | apply Kd.R_drew)); exact HO_337002.out))) (below_size (by repeat (first | (with_reducible first | exact HB.out | apply below_alloc | apply pw_below_drewN | apply below_drew1 | refine below_set ?_ GE327.out | refine below_set ?_ GE336.out | refine below_set ?_ GE338.out) | exact HB.out))))
                have n4_ := Aside0.mk (blk_below (g := gb327) (o := .cells #[.bool x328000_1, .slice none 0 0, .slice none 0 0] 36 (0, 0)) (by (with_reducible repeat (first | refine blk_drewN ?_ _ | refine blk_drew ?_ | refine blk_alloc ?_ _)); exact BK327.out) hb)
                have n5_ := Aside0.mk (blk_below (g := gb336) (o := .cells #[.bool x337000_1, u337001, u337002] 36 (0, 0)) (by (with_reducible repeat (first | refine blk_drewN ?_ _ | refine blk_drew ?_ | refine blk_alloc ?_ _)); exact BK336.out) hb)
                have n6_ := Aside0.mk (blk_below (g := gb338) (o := .cells #[.int .i64 ((rd_T68 l0 x15_1).f0), .int .i64 ((rd_T68 l0 x15_1).f1)] 68 (0, 0)) (by (with_reducible repeat (first | refine blk_drewN ?_ _ | refine blk_drew ?_ | refine blk_alloc ?_ _)); exact BK338.out) hb)
                have n7_ := Aside0.mk (below_step (by repeat (first | (with_reducible first | exact HB.out | apply below_alloc | apply pw_below_drewN | apply below_drew1 | refine below_set ?_ GE327.out | refine below_set ?_ GE336.out | refine below_set ?_ GE338.out) | exact HB.out)) hb)
                clear HO_337001
                clear HO_337002
                clear BK327
                clear BK336
                clear BK338
                clear HB
                have HO_337001 := n0_
                have HO_337002 := n1_
                have HO342 := n2_
                have HO345 := n3_
                have BK327 := n4_
                have BK336 := n5_
                have BK338 := n6_
                have HB := n7_
                clear n0_ n1_ n2_ n3_ n4_ n5_ n6_ n7_
                (try clear hb)
                (try clear hb2)
                (try clear hk)
                (try clear hi)
                (try clear ho0)
                (try clear ho1)
                obtain ⟨Ao43, co43, eo43⟩ := Kd.R_slice HO_337001.out
                (first | subst eo43 | (injection eo43 with f1_ f2_ f3_; have f4_ := f1_.symm; have f5_ := f3_.symm; clear f1_ f2_ f3_; subst f4_; subst f5_))
                obtain ⟨Ao44, co44, eo44⟩ := Kd.R_slice HO_337002.out
                (first | subst eo44 | (injection eo44 with f1_ f2_ f3_; have f4_ := f1_.symm; have f5_ := f3_.symm; clear f1_ f2_ f3_; subst f4_; subst f5_))
                obtain ⟨Ao45, co45, eo45⟩ := Kd.R_slice HO342.out
                (first | subst eo45 | (injection eo45 with f1_ f2_ f3_; have f4_ := f1_.symm; have f5_ := f3_.symm; clear f1_ f2_ f3_; subst f4_; subst f5_))
                obtain ⟨Ao46, co46, eo46⟩ := Kd.R_slice HO345.out
                (first | subst eo46 | (injection eo46 with f1_ f2_ f3_; have f4_ := f1_.symm; have f5_ := f3_.symm; clear f1_ f2_ f3_; subst f4_; subst f5_))
                refine hK.out _ _ ⟨(blk_cell BK336.out 0).trans rfl, (blk_cell BK336.out 1).trans rfl, (blk_cell BK336.out 2).trans rfl, (blk_cell BK338.out 0).trans rfl, (blk_cell BK338.out 1).trans rfl⟩ (fun hHeld => ?_)
                clear hK K
                refine norm_ (a' := ?_) ?_ ?_
                rotate_left
                · show Act.put _ (some 23) _ = _
                  simp only [Act.put, List.setIfInBounds_toArray, List.set_cons_zero, List.set_cons_succ, i64_w, i32_w]
                  rfl
                refine one_ (i := 4) (N := some 24) #[true, true, true, true, true, false, false, false, false, false] rfl rfl (one_of HT_.out (by kernel_rfl)) (by decide) (fun K hK => ?_)
                refine goes_ Try.func33 (by kernel_rfl) rfl #[.agg #[.bool x337000_1, .slice Ao43 x337001_1.length co43, .slice Ao44 x337002_1.length co44], .agg #[.bool t339, .slice Ao45 t340.length co45, .slice Ao46 t343.length co46]] (by rfl) rfl rfl (by (try simp only [List.map_toArray, List.map_cons, List.map_nil]); first | done | rfl | (simp only [List.length_drop, List.length_take]; rfl)) ?_
                with_reducible refine (ratio_Div.calls k1 x337000_1 (fun k_ => some k_ = (.slice Ao43 x337001_1.length co43 : Value).ownBlock) _ _ x337001_1 (fun k_ => some k_ = (.slice Ao44 x337002_1.length co44 : Value).ownBlock) _ _ x337002_1 t339 (fun k_ => some k_ = (.slice Ao45 t340.length co45 : Value).ownBlock) _ _ t340 (fun k_ => some k_ = (.slice Ao46 t343.length co46 : Value).ownBlock) _ _ t343 t346 t347 t350 t353 _ ?side1 ?side2 ?side3 ?side4 A17.out).mono ?_
                (case side1 => exact Kd.R_V (Kd.R_tight rfl (Kd.R_types (Kd.R_types (Kd.R_types (HO_337001.out) BK327.out (by decide)) BK336.out (by decide)) BK338.out (by decide))))
                (case side2 => exact Kd.R_V (Kd.R_tight rfl (Kd.R_types (Kd.R_types (Kd.R_types (HO_337002.out) BK327.out (by decide)) BK336.out (by decide)) BK338.out (by decide))))
                (case side3 => exact Kd.R_V (Kd.R_tight rfl (Kd.R_types (Kd.R_types (Kd.R_types (HO342.out) BK327.out (by decide)) BK336.out (by decide)) BK338.out (by decide))))
                (case side4 => exact Kd.R_V (Kd.R_tight rfl (Kd.R_types (Kd.R_types (Kd.R_types (HO345.out) BK327.out (by decide)) BK336.out (by decide)) BK338.out (by decide))))
                rintro e w47 ⟨v348, v351, rfl, ho0, ho1, hb⟩
                refine ⟨_, rfl, ?_⟩
                have n0_ := Aside0.mk (Kd.R_mono (Kd.R_told (Kd.R_told (Kd.R_old (by (with_reducible repeat (first | apply Kd.R_alloc | apply Kd.R_drewN | apply Kd.R_drew)); exact HO_337001.out) hb) (Kd.R_base ho0)) (Kd.R_base ho1)) (fun _ h_ => h_.1))
                have n1_ := Aside0.mk (Kd.R_mono (Kd.R_told (Kd.R_told (Kd.R_old (by (with_reducible repeat (first | apply Kd.R_alloc | apply Kd.R_drewN | apply Kd.R_drew)); exact HO_337002.out) hb) (Kd.R_base ho0)) (Kd.R_base ho1)) (fun _ h_ => h_.1))
                have n2_ := Aside0.mk (Kd.R_mono (Kd.R_told (Kd.R_told (Kd.R_old (by (with_reducible repeat (first | apply Kd.R_alloc | apply Kd.R_drewN | apply Kd.R_drew)); exact HO342.out) hb) (Kd.R_base ho0)) (Kd.R_base ho1)) (fun _ h_ => h_.1))
                have n3_ := Aside0.mk (Kd.R_mono (Kd.R_told (Kd.R_told (Kd.R_old (by (with_reducible repeat (first | apply Kd.R_alloc | apply Kd.R_drewN | apply Kd.R_drew)); exact HO345.out) hb) (Kd.R_base ho0)) (Kd.R_base ho1)) (fun _ h_ => h_.1))
                have n4_ := Aside0.mk (Kd.R_lower (Kd.R_new' (Kd.R_new' (Kd.R_new' (Kd.R_new' (Kd.R_mono (ok' := fun k_ => some k_ ≠ (v351 : Value).ownBlock) ho0 (fun _ hk_ => hk_.2)) (Kd.R_lt (by (with_reducible repeat (first | apply Kd.R_alloc | apply Kd.R_drewN | apply Kd.R_drew)); exact HO_337001.out))) (Kd.R_lt (by (with_reducible repeat (first | apply Kd.R_alloc | apply Kd.R_drewN | apply Kd.R_drew)); exact HO_337002.out))) (Kd.R_lt (by (with_reducible repeat (first | apply Kd.R_alloc | apply Kd.R_drewN | apply Kd.R_drew)); exact HO342.out))) (Kd.R_lt (by (with_reducible repeat (first | apply Kd.R_alloc | apply Kd.R_drewN | apply Kd.R_drew)); exact HO345.out))) (below_size (by repeat (first | (with_reducible first | exact HB.out | apply below_alloc | apply pw_below_drewN | apply below_drew1 | refine below_set ?_ GE327.out | refine below_set ?_ GE336.out | refine below_set ?_ GE338.out) | exact HB.out))))
                have n5_ := Aside0.mk (Kd.R_lower (Kd.R_new' (Kd.R_new' (Kd.R_new' (Kd.R_new' (Kd.R_mono (ok' := fun k_ => some k_ ≠ (v348 : Value).ownBlock) ho1 (fun _ hk_ => hk_.2)) (Kd.R_lt (by (with_reducible repeat (first | apply Kd.R_alloc | apply Kd.R_drewN | apply Kd.R_drew)); exact HO_337001.out))) (Kd.R_lt (by (with_reducible repeat (first | apply Kd.R_alloc | apply Kd.R_drewN | apply Kd.R_drew)); exact HO_337002.out))) (Kd.R_lt (by (with_reducible repeat (first | apply Kd.R_alloc | apply Kd.R_drewN | apply Kd.R_drew)); exact HO342.out))) (Kd.R_lt (by (with_reducible repeat (first | apply Kd.R_alloc | apply Kd.R_drewN | apply Kd.R_drew)); exact HO345.out))) (below_size (by repeat (first | (with_reducible first | exact HB.out | apply below_alloc | apply pw_below_drewN | apply below_drew1 | refine below_set ?_ GE327.out | refine below_set ?_ GE336.out | refine below_set ?_ GE338.out) | exact HB.out))))
                have n6_ := Aside0.mk (blk_below (g := gb327) (o := .cells #[.bool x328000_1, .slice none 0 0, .slice none 0 0] 36 (0, 0)) (by (with_reducible repeat (first | refine blk_drewN ?_ _ | refine blk_drew ?_ | refine blk_alloc ?_ _)); exact BK327.out) hb)
                have n7_ := Aside0.mk (blk_below (g := gb336) (o := .cells #[.bool x337000_1, .slice Ao43 x337001_1.length co43, .slice Ao44 x337002_1.length co44] 36 (0, 0)) (by (with_reducible repeat (first | refine blk_drewN ?_ _ | refine blk_drew ?_ | refine blk_alloc ?_ _)); exact BK336.out) hb)
                have n8_ := Aside0.mk (blk_below (g := gb338) (o := .cells #[.int .i64 ((rd_T68 l0 x15_1).f0), .int .i64 ((rd_T68 l0 x15_1).f1)] 68 (0, 0)) (by (with_reducible repeat (first | refine blk_drewN ?_ _ | refine blk_drew ?_ | refine blk_alloc ?_ _)); exact BK338.out) hb)
                have n9_ := Aside0.mk (below_step (by repeat (first | (with_reducible first | exact HB.out | apply below_alloc | apply pw_below_drewN | apply below_drew1 | refine below_set ?_ GE327.out | refine below_set ?_ GE336.out | refine below_set ?_ GE338.out) | exact HB.out)) hb)
                clear HO_337001
                clear HO_337002
                clear HO342
                clear HO345
                clear BK327
                clear BK336
                clear BK338
                clear HB
                have HO_337001 := n0_
                have HO_337002 := n1_
                have HO342 := n2_
                have HO345 := n3_
                have HO349 := n4_
                have HO352 := n5_
                have BK327 := n6_
                have BK336 := n7_
                have BK338 := n8_
                have HB := n9_
                clear n0_ n1_ n2_ n3_ n4_ n5_ n6_ n7_ n8_ n9_
                (try clear hb)
                (try clear hb2)
                (try clear hk)
                (try clear hi)
                (try clear ho0)
                (try clear ho1)
                obtain ⟨Ao49, co49, eo49⟩ := Kd.R_slice HO349.out
                (first | subst eo49 | (injection eo49 with f1_ f2_ f3_; have f4_ := f1_.symm; have f5_ := f3_.symm; clear f1_ f2_ f3_; subst f4_; subst f5_))
                obtain ⟨Ao51, co51, eo51⟩ := Kd.R_slice HO352.out
                (first | subst eo51 | (injection eo51 with f1_ f2_ f3_; have f4_ := f1_.symm; have f5_ := f3_.symm; clear f1_ f2_ f3_; subst f4_; subst f5_))
                refine hK.out _ _ ⟨(blk_cell BK336.out 0).trans rfl, (blk_cell BK336.out 1).trans rfl, (blk_cell BK336.out 2).trans rfl, (blk_cell BK338.out 0).trans rfl, (blk_cell BK338.out 1).trans rfl⟩ (fun hHeld => ?_)
                clear hK K
                refine norm_ (a' := ?_) ?_ ?_
                rotate_left
                · show Act.put _ (some 24) _ = _
                  simp only [Act.put, List.setIfInBounds_toArray, List.set_cons_zero, List.set_cons_succ, i64_w, i32_w]
                  rfl
                refine pure_ (i := 5) (N := some 19) (v := ?_) (a' := ?_) #[true, true, true, true, true, true, false, false, false, false] rfl rfl (any_of HT_.out (by kernel_rfl)) (fun _ _ _ h => h) (Or.inl ⟨by rfl, ?_⟩) ?_ ?_
                rotate_left
                · intro w'
                  go_simp
                  with_reducible rfl
                rotate_left
                · simp only [Act.put, List.setIfInBounds_toArray, List.set_cons_zero, List.set_cons_succ, i64_w, i32_w]
                  rfl
                refine pure_ (i := 6) (N := some 25) (v := ?_) (a' := ?_) #[true, true, true, true, true, true, true, false, false, false] rfl rfl (any_of HT_.out (by kernel_rfl)) (fun _ _ _ h => h) (Or.inl ⟨by rfl, ?_⟩) ?_ ?_
                rotate_left
                · intro w'
                  go_simp
                  with_reducible rfl
                rotate_left
                · simp only [Act.put, List.setIfInBounds_toArray, List.set_cons_zero, List.set_cons_succ, i64_w, i32_w]
                  rfl
                refine pure_ (i := 7) (N := some 26) (v := ?_) (a' := ?_) #[true, true, true, true, true, true, true, true, false, false] rfl rfl (any_of HT_.out (by kernel_rfl)) (fun _ _ _ h => h) (Or.inl ⟨by rfl, ?_⟩) ?_ ?_
                rotate_left
                · intro w'
                  go_simp
                  with_reducible rfl
                rotate_left
                · simp only [Act.put, List.setIfInBounds_toArray, List.set_cons_zero, List.set_cons_succ, i64_w, i32_w]
                  rfl
                refine last_ (i := 8) (N := none) #[true, true, true, true, true, true, true, true, true, false] rfl rfl (one_of HT_.out (by kernel_rfl)) (by decide) (fun K hK => ?_)
                have hs48 : w47.cell? ⟨gb336, 0, none⟩ = some (.bool x337000_1) := (blk_cell BK336.out 0).trans rfl
                have hfs48 := blk_frozen BK336.out 0
                have hns48_0 := NB327_336.out
                have hns48_2 := NB338_336.out
                have hms48_0 := NB336_327.out
                have hms48_2 := NB336_338.out
                have hs50 : w47.cell? ⟨gb336, 1, none⟩ = some (.slice Ao43 x337001_1.length co43) := (blk_cell BK336.out 1).trans rfl
                have hfs50 := blk_frozen BK336.out 1
                have hns50_0 := NB327_336.out
                have hns50_2 := NB338_336.out
                have hms50_0 := NB336_327.out
                have hms50_2 := NB336_338.out
                have hs52 : w47.cell? ⟨gb336, 2, none⟩ = some (.slice Ao44 x337002_1.length co44) := (blk_cell BK336.out 2).trans rfl
                have hfs52 := blk_frozen BK336.out 2
                have hns52_0 := NB327_336.out
                have hns52_2 := NB338_336.out
                have hms52_0 := NB336_327.out
                have hms52_2 := NB336_338.out
                refine skip_ (w1 := ?_) (by rfl) rfl ?_ ?_
                rotate_left
                · go_simp
                  rfl
                refine hK.out _ _ ?_
                clear hK K
                refine pure_ (i := 9) (N := some 7) (v := ?_) (a' := ?_) #[true, true, true, true, true, true, true, true, true, true] rfl rfl (any_of HT_.out (by kernel_rfl)) (fun _ _ _ h => h) (Or.inl ⟨by rfl, ?_⟩) ?_ ?_
                rotate_left
                · intro w'
                  go_simp
                  with_reducible rfl
                rotate_left
                · simp only [Act.put, List.setIfInBounds_toArray, List.set_cons_zero, List.set_cons_succ, i64_w, i32_w]
                  rfl
                refine done_ (done_of HT_.out (by kernel_rfl)) ?_
                have hnb53 := NB327_336.out
                have hnc53 := NB336_327.out
                have hcz54_0 : w47.cell? ⟨gb327, 0, none⟩ = some (.bool x328000_1) := (blk_cell BK327.out 0).trans rfl
                have hcz54_1 : w47.cell? ⟨gb327, 1, none⟩ = some (.slice none 0 0) := (blk_cell BK327.out 1).trans rfl
                have hcz54_2 : w47.cell? ⟨gb327, 2, none⟩ = some (.slice none 0 0) := (blk_cell BK327.out 2).trans rfl
                have hfz54_0 := blk_frozen BK327.out 0
                have hfz54_1 := blk_frozen BK327.out 1
                have hfz54_2 := blk_frozen BK327.out 2
                try go_wp2
                refine bodyPost_ret (results_ct rfl _ _ gb327 36 #[.bool false, .slice none 0 0, .slice none 0 0] (0, 0) _ rfl (by (with_reducible repeat (first | refine blk_drewN ?_ _ | refine blk_drew ?_ | refine blk_alloc ?_ _)); refine blk_put (cs := #[.bool false, .slice none 0 0, .slice none 0 0]) ?_ 2 _ rfl; (with_reducible repeat (first | refine blk_drewN ?_ _ | refine blk_drew ?_ | refine blk_alloc ?_ _)); refine blk_put (cs := #[.bool false, .slice none 0 0, .slice none 0 0]) ?_ 1 _ rfl; (with_reducible repeat (first | refine blk_drewN ?_ _ | refine blk_drew ?_ | refine blk_alloc ?_ _)); refine blk_put (cs := #[.bool x328000_1, .slice none 0 0, .slice none 0 0]) ?_ 0 _ rfl; (with_reducible repeat (first | refine blk_drewN ?_ _ | refine blk_drew ?_ | refine blk_alloc ?_ _)); refine blk_far ?_ NB327_336.out _; (with_reducible repeat (first | refine blk_drewN ?_ _ | refine blk_drew ?_ | refine blk_alloc ?_ _)); refine blk_far ?_ NB327_336.out _; (with_reducible repeat (first | refine blk_drewN ?_ _ | refine blk_drew ?_ | refine blk_alloc ?_ _)); refine blk_far ?_ NB327_336.out _; (with_reducible repeat (first | refine blk_drewN ?_ _ | refine blk_drew ?_ | refine blk_alloc ?_ _)); exact BK327.out) Try.underlying36 rfl (by kernel_rfl)) rfl ?_
                exact ⟨_, _, by first | rfl | (simp [errW_none, errW_some] <;> rfl) | (simp [*, errW_none, errW_some] <;> rfl), by first | exact Kd.R_nil _ _ _ _ _ | exact Kd.N_nil _ _ _ _ _ | exact Kd.V_nil _ _ _ _ _ | exact Kd.Q_nil _ _ _ _ _ | exact Kd.S_nil _ _ _ _ _, by first | exact Kd.R_nil _ _ _ _ _ | exact Kd.N_nil _ _ _ _ _ | exact Kd.V_nil _ _ _ _ _ | exact Kd.Q_nil _ _ _ _ _ | exact Kd.S_nil _ _ _ _ _, by repeat (first | (with_reducible first | exact HB.out | apply below_alloc | apply pw_below_drewN | apply below_drew1 | refine below_set ?_ GE327.out | refine below_set ?_ GE336.out | refine below_set ?_ GE338.out) | exact HB.out)⟩
            · rw [if_neg c15] at H
              exact absurd H (by simp)
          · rw [if_neg c14] at H
            exact absurd H (by simp)
        · rw [if_neg c13] at H
          have c13b0 : decide (x15_1 < (l0.length : Int)) = false := decide_eq_false c13
          clear c13
          simp only [Option.some.injEq, Prod.mk.injEq] at H
          obtain ⟨rfl, rfl, rfl, rfl⟩ := H
          have hnb55 := NB336_327.out
          have hnc55 := NB327_336.out
          have hcz56_0 : wr.cell? ⟨gb336, 0, none⟩ = some (.bool x337000_1) := (blk_cell BK336.out 0).trans rfl
          have hcz56_1 : wr.cell? ⟨gb336, 1, none⟩ = some (u337001) := (blk_cell BK336.out 1).trans rfl
          have hcz56_2 : wr.cell? ⟨gb336, 2, none⟩ = some (u337002) := (blk_cell BK336.out 2).trans rfl
          have hfz56_0 := blk_frozen BK336.out 0
          have hfz56_1 := blk_frozen BK336.out 1
          have hfz56_2 := blk_frozen BK336.out 2
          have hcz57_0 : wr.cell? ⟨gb327, 0, none⟩ = some (.bool x328000_1) := (blk_cell BK327.out 0).trans rfl
          have hcz57_1 : wr.cell? ⟨gb327, 1, none⟩ = some (.slice none 0 0) := (blk_cell BK327.out 1).trans rfl
          have hcz57_2 : wr.cell? ⟨gb327, 2, none⟩ = some (.slice none 0 0) := (blk_cell BK327.out 2).trans rfl
          have hfz57_0 := blk_frozen BK327.out 0
          have hfz57_1 := blk_frozen BK327.out 1
          have hfz57_2 := blk_frozen BK327.out 2
          obtain ⟨Ao58, co58, eo58⟩ := Kd.R_slice HO_337001.out
          subst eo58
          obtain ⟨Ao59, co59, eo59⟩ := Kd.R_slice HO_337002.out
          subst eo59
          go_wp2
          refine bodyPost_ret (results_ct rfl _ _ gb327 36 #[.bool x337000_1, .slice Ao58 x337001_1.length co58, .slice Ao59 x337002_1.length co59] (0, 0) _ rfl (by (with_reducible repeat (first | refine blk_drewN ?_ _ | refine blk_drew ?_ | refine blk_alloc ?_ _)); refine blk_put (cs := #[.bool x337000_1, .slice Ao58 x337001_1.length co58, .slice none 0 0]) ?_ 2 _ rfl; (with_reducible repeat (first | refine blk_drewN ?_ _ | refine blk_drew ?_ | refine blk_alloc ?_ _)); refine blk_put (cs := #[.bool x337000_1, .slice none 0 0, .slice none 0 0]) ?_ 1 _ rfl; (with_reducible repeat (first | refine blk_drewN ?_ _ | refine blk_drew ?_ | refine blk_alloc ?_ _)); refine blk_put (cs := #[.bool x328000_1, .slice none 0 0, .slice none 0 0]) ?_ 0 _ rfl; (with_reducible repeat (first | refine blk_drewN ?_ _ | refine blk_drew ?_ | refine blk_alloc ?_ _)); exact BK327.out) Try.underlying36 rfl (by kernel_rfl)) rfl ?_
          exact ⟨_, _, by first | rfl | (simp [errW_none, errW_some] <;> rfl) | (simp [*, errW_none, errW_some] <;> rfl), by (with_reducible repeat (first | apply Kd.R_alloc | apply Kd.R_drewN | apply Kd.R_drew)); exact Kd.R_mono (Kd.R_far (p := ⟨gb327, 2, none⟩) (Kd.R_far (p := ⟨gb327, 1, none⟩) (Kd.R_far (p := ⟨gb327, 0, none⟩) (Kd.R_types HO_337001.out BK327.out (by decide)) (fun _ hk => hk.2) (.bool x337000_1)) (fun _ hk => hk.2) (.slice Ao58 x337001_1.length co58)) (fun _ hk => hk.2) (.slice Ao59 x337002_1.length co59)) (fun _ hk => hk.1), by (with_reducible repeat (first | apply Kd.R_alloc | apply Kd.R_drewN | apply Kd.R_drew)); exact Kd.R_mono (Kd.R_far (p := ⟨gb327, 2, none⟩) (Kd.R_far (p := ⟨gb327, 1, none⟩) (Kd.R_far (p := ⟨gb327, 0, none⟩) (Kd.R_types HO_337002.out BK327.out (by decide)) (fun _ hk => hk.2) (.bool x337000_1)) (fun _ hk => hk.2) (.slice Ao58 x337001_1.length co58)) (fun _ hk => hk.2) (.slice Ao59 x337002_1.length co59)) (fun _ hk => hk.1), by repeat (first | (with_reducible first | exact HB.out | apply below_alloc | apply pw_below_drewN | apply below_drew1 | refine below_set ?_ GE327.out | refine below_set ?_ GE336.out) | exact HB.out)⟩
  · replace c3 := Bool.eq_false_iff.mpr c3
    subst c3
    have H1 : (some (false, ([] : List Int), ([] : List Int), 2)) = some (r1, r2, r3, r4) := by rw [if_neg (show ¬ (false = true) by decide)] at H; exact H
    clear H
    have H := H1
    clear H1
    simp only [Option.some.injEq, Prod.mk.injEq] at H
    obtain ⟨rfl, rfl, rfl, rfl⟩ := H
    go_enter Try.func11, Try.ntmps11
    go_wp2_with (first | ((with_reducible refine gate_dst (N := 2) rfl ?_); refine box_event ?hg (N := 2) ?hd (cs := #[.bool false, .slice none 0 0, .slice none 0 0]) (t := 36) ?hr ?_; (case hd => rfl); (case hg => rfl); (case hr => first | (go_simp; done) | (go_simp; rfl)); intro gb327 hg w60 hbox hb; have n0_ := Aside0.mk (below_step (by repeat (first | (with_reducible first | exact HB.out | apply below_alloc | apply pw_below_drewN | apply below_drew1) | exact HB.out)) hb); have n1_ := Aside0.mk (hbox); have n2_ := Aside0.mk ((by rw [hg]; exact (below_size (by repeat (first | (with_reducible first | exact HB.out | apply below_alloc | apply pw_below_drewN | apply below_drew1) | exact HB.out))) : w.heap.size ≤ gb327)); have n3_ := Aside0.mk ((by rw [hg]; exact (below_size (by repeat (first | (with_reducible first | exact HB.out | apply below_alloc | apply pw_below_drewN | apply below_drew1) | exact HB.out))) : w.heap.size ≤ gb327)); clear HB; have HB := n0_; have BK327 := n1_; have GW327 := n2_; have GE327 := n3_; clear n0_ n1_ n2_ n3_; clear hb hbox hg) | ((with_reducible refine gate_callee (f := 27) rfl ?_); refine goesL_ (some 9) rfl rfl Try.func27 (by kernel_rfl) rfl #[.slice A0 l0.length c0] rfl (by (try simp only [List.map_toArray, List.map_cons, List.map_nil]); first | done | rfl | (simp only [List.length_drop, List.length_take]; rfl)) ?_; (with_reducible refine (odds_good.calls k _ _ l0 false _ ?side1 ?side2 A2.out).mono ?_); (case side1 => repeat (first | exact (Kd.C_below HR0.out HB.out) | (with_reducible refine Kd.C_alloc ?_ _) | (with_reducible refine Kd.C_drewN ?_ _) | (with_reducible refine Kd.C_drew ?_))); (case side2 => exact HC0.out); rintro e w61 ⟨rfl, hb⟩; refine ⟨_, rfl, ?_⟩; have n0_ := Aside0.mk (blk_below (g := gb327) (o := .cells #[.bool false, .slice none 0 0, .slice none 0 0] 36 (0, 0)) (by (with_reducible repeat (first | refine blk_drewN ?_ _ | refine blk_drew ?_ | refine blk_alloc ?_ _)); exact BK327.out) hb); have n1_ := Aside0.mk (below_step (by repeat (first | (with_reducible first | exact HB.out | apply below_alloc | apply pw_below_drewN | apply below_drew1 | refine below_set ?_ GE327.out) | exact HB.out)) hb); clear BK327; clear HB; have BK327 := n0_; have HB := n1_; clear n0_ n1_; (try clear hb); (try clear hb2); (try clear hk); (try clear hi); have hcz62_0 : w61.cell? ⟨gb327, 0, none⟩ = some (.bool false) := (blk_cell BK327.out 0).trans rfl; have hcz62_1 : w61.cell? ⟨gb327, 1, none⟩ = some (.slice none 0 0) := (blk_cell BK327.out 1).trans rfl; have hcz62_2 : w61.cell? ⟨gb327, 2, none⟩ = some (.slice none 0 0) := (blk_cell BK327.out 2).trans rfl; have hfz62_0 := blk_frozen BK327.out 0; have hfz62_1 := blk_frozen BK327.out 1; have hfz62_2 := blk_frozen BK327.out 2))
    refine bodyPost_ret (results_ct rfl _ _ gb327 36 #[.bool false, .slice none 0 0, .slice none 0 0] (0, 0) _ rfl (by (with_reducible repeat (first | refine blk_drewN ?_ _ | refine blk_drew ?_ | refine blk_alloc ?_ _)); refine blk_put (cs := #[.bool false, .slice none 0 0, .slice none 0 0]) ?_ 2 _ rfl; (with_reducible repeat (first | refine blk_drewN ?_ _ | refine blk_drew ?_ | refine blk_alloc ?_ _)); refine blk_put (cs := #[.bool false, .slice none 0 0, .slice none 0 0]) ?_ 1 _ rfl; (with_reducible repeat (first | refine blk_drewN ?_ _ | refine blk_drew ?_ | refine blk_alloc ?_ _)); refine blk_put (cs := #[.bool false, .slice none 0 0, .slice none 0 0]) ?_ 0 _ rfl; (with_reducible repeat (first | refine blk_drewN ?_ _ | refine blk_drew ?_ | refine blk_alloc ?_ _)); exact BK327.out) Try.underlying36 rfl (by kernel_rfl)) rfl ?_
    exact ⟨_, _, by first | rfl | (simp [errW_none, errW_some] <;> rfl) | (simp [*, errW_none, errW_some] <;> rfl), by first | exact Kd.R_nil _ _ _ _ _ | exact Kd.N_nil _ _ _ _ _ | exact Kd.V_nil _ _ _ _ _ | exact Kd.Q_nil _ _ _ _ _ | exact Kd.S_nil _ _ _ _ _, by first | exact Kd.R_nil _ _ _ _ _ | exact Kd.N_nil _ _ _ _ _ | exact Kd.V_nil _ _ _ _ _ | exact Kd.Q_nil _ _ _ _ _ | exact Kd.S_nil _ _ _ _ _, by repeat (first | (with_reducible first | exact HB.out | apply below_alloc | apply pw_below_drewN | apply below_drew1 | refine below_set ?_ GE327.out) | exact HB.out)⟩

end Go.Proofs.Ytjppanekddljbaa.Pr
