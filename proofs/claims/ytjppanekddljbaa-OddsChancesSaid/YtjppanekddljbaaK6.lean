/- OddsChances returns true whatever the input, and the input reads as it did. Conditions: none but those of the given row (part 6) -/
import Derived.Laws.BitsAllLaws
import Derived.DataShut
import Derived.SizedLaws
import Derived.ChangeSlices
import Derived.Test.YtjppanekddljbaaRows
import Derived.WalkKit
import Derived.ProofKit
import Derived.OpenShut
import Derived.ShutString
import Derived.ChangeOld
import Derived.Below
import Derived.Deep.SlicePairs
import Derived.Test.YtjppanekddljbaaK5
set_option linter.unusedVariables false
set_option linter.unusedSimpArgs false
/- What the kit's print wrote for these functions, taken together by wip/pick.py: each function's Lean function and that the Go code comes to it. -/
namespace Go.Proofs.Ytjppanekddljbaa.Pr
open Go.RowKit Go.Proofs.YtjppanekddljbaaW.PrintWords Go.Proofs.YtjppanekddljbaaW.PrintLast Go.Proofs.YtjppanekddljbaaW.PrintMore
attribute [local go_sem] max2_int min2_int max_two min_two max_three min_three max_four min_four
def sibylref02_Make.f (k : Nat) (a0 : Bool) (l1 : List Int) (l2 : List Int) : Option (Bool × List Int × List Int × Int) := (sibylref01_Trim.f k l1).bind fun t557 => ((sibylref01_Trim.f k l2).bind fun t560 => (if (t560.length : Int) = 0 then (some (false, ([] : List Int), ([] : List Int), 10)) else (if (t557.length : Int) = 0 then (some (false, ([] : List Int), (([1] : List Int)), 0)) else ((sibylref01_Common.f k t557 t560).bind fun t566 => ((sibylref01_Divide.f k t557 t566).bind fun bt569 => ((sibylref01_Divide.f k t560 t566).bind fun bt575 => (if (bt569.1.length : Int) > 16 then (some (false, ([] : List Int), ([] : List Int), 4)) else (if (bt575.1.length : Int) > 16 then (some (false, ([] : List Int), ([] : List Int), 4)) else (some (a0, bt569.1, bt575.1, 0))))))))))
set_option maxHeartbeats 8000000 in
set_option maxRecDepth 100000 in
theorem sibylref02_Make.calls (k : Nat) (a0 : Bool) (A1 : Option Addr) (c1 : Nat) (l1 : List Int) (A2 : Option Addr) (c2 : Nat) (l2 : List Int) (r1 : Bool) (r2 : List Int) (r3 : List Int) (r4 : Int) (w : World) (hr1 : Kd.C (Kd.int .u32) w A1 l1.length l1) (hc1 : l1.length ≤ c1) (hr2 : Kd.C (Kd.int .u32) w A2 l2.length l2) (hc2 : l2.length ≤ c2) (h : sibylref02_Make.f k a0 l1 l2 = some (r1, r2, r3, r4)) :
  Calls Try.prog 68 #[.bool a0, .slice A1 l1.length c1, .slice A2 l2.length c2] w fun e w' => ∃ v1_ v2_ : Value, e = .returned (.tuple #[.agg #[.bool r1, v1_, v2_], .int .i64 r4]) ∧ Kd.R (Kd.int .u32) 99 w' w.heap.size (fun k_ => some k_ ≠ (v2_ : Value).ownBlock) v1_ r2 ∧ Kd.R (Kd.int .u32) 99 w' w.heap.size (fun k_ => some k_ ≠ (v1_ : Value).ownBlock) v2_ r3 ∧ Below w.heap.size w w' := by
 have hu36 := Try.underlying36
 have HR1 := Aside0.mk hr1
 have HC1 := Aside0.mk hc1
 clear hr1 hc1
 have HR2 := Aside0.mk hr2
 have HC2 := Aside0.mk hc2
 clear hr2 hc2
 have HB := Aside0.mk (Below.refl w.heap.size w)
 have H : ((sibylref01_Trim.f k l1).bind fun t557 => ((sibylref01_Trim.f k l2).bind fun t560 => (if (t560.length : Int) = 0 then (some (false, ([] : List Int), ([] : List Int), 10)) else (if (t557.length : Int) = 0 then (some (false, ([] : List Int), (([1] : List Int)), 0)) else ((sibylref01_Common.f k t557 t560).bind fun t566 => ((sibylref01_Divide.f k t557 t566).bind fun bt569 => ((sibylref01_Divide.f k t560 t566).bind fun bt575 => (if (bt569.1.length : Int) > 16 then (some (false, ([] : List Int), ([] : List Int), 4)) else (if (bt575.1.length : Int) > 16 then (some (false, ([] : List Int), ([] : List Int), 4)) else (some (a0, bt569.1, bt575.1, 0))))))))))) = some (r1, r2, r3, r4) := h
 clear h
 obtain ⟨t557, A4, H⟩ := bindA H
 obtain ⟨t560, A5, H⟩ := bindA H
 by_cases c6 : (t560.length : Int) = 0
 ·rw [if_pos c6] at H
  have c6b0 : ((t560.length : Int) == 0) = true := beq_iff_eq.mpr c6
  have c6b1 : ((t560.length : Int) != 0) = false := bne_eq_false_iff_eq.mpr c6
  clear c6
  simp only [Option.some.injEq, Prod.mk.injEq] at H
  obtain ⟨rfl, rfl, rfl, rfl⟩ := H
  go_enter Try.func68, Try.ntmps68
  go_wp2_with (first | ((with_reducible refine gate_dst (N := 6) rfl ?_); (try (refine gate_guard (by rfl) ?_; dsimp only)); refine box_event ?hg (N := 6) ?hd (cs := #[.bool false, .slice none 0 0, .slice none 0 0]) (t := 36) ?hr ?_; (case hd => rfl); (case hg => rfl); (case hr => first | (go_simp; done) | (go_simp; rfl)); intro gb556 hg w7 hbox hb; have n_ := mk4 (below_step (bl HB) hb) (hbox) ((by rw [hg]; exact (below_size (bl HB)) : w.heap.size ≤ gb556)) ((by rw [hg]; exact (below_size (bl HB)) : w.heap.size ≤ gb556)); clear HB; obtain ⟨HB, BK556, GW556, GE556⟩ := n_; clear hb hbox hg) | ((with_reducible refine gate_callee (f := 83) rfl ?_); refine goesM (some 12) rfl rfl Try.func83 (by kernel_rfl) rfl #[.slice A1 l1.length c1] rfl (by rfl) ?_; (with_reducible refine (sibylref01_Trim.calls k _ _ l1 t557 _ ?side1 ?side2 A4.out).mono ?_); (case side1 => exact ca (Kd.C_below HR1.out HB.out)); (case side2 => exact HC1.out); rintro e w8 ⟨v558, rfl, ho0, hb⟩; refine ⟨_, rfl, ?_⟩; have n_ := mk3 (Kd.R_lower ho0 (below_size (bl1 HB GE556))) (blk_below (ba BK556.out) hb) (below_step (bl1 HB GE556) hb); clear BK556 HB; obtain ⟨HO559, BK556, HB⟩ := n_; (try clear hb); (try clear hb2); (try clear hk); (try clear hi); (try clear ho0)) | ((with_reducible refine gate_callee (f := 83) rfl ?_); refine goesM (some 14) rfl rfl Try.func83 (by kernel_rfl) rfl #[.slice A2 l2.length c2] rfl (by rfl) ?_; (with_reducible refine (sibylref01_Trim.calls k _ _ l2 t560 _ ?side1 ?side2 A5.out).mono ?_); (case side1 => exact ca (Kd.C_below HR2.out HB.out)); (case side2 => exact HC2.out); rintro e w9 ⟨v561, rfl, ho0, hb⟩; refine ⟨_, rfl, ?_⟩; have n_ := mk4 (Kd.R_elder' (ra HO559.out) (Kd.R_base ho0) hb) (Kd.R_lower (Kd.R_new' ho0 (Kd.R_lt (ra HO559.out))) (below_size (bl1 HB GE556))) (blk_below (ba BK556.out) hb) (below_step (bl1 HB GE556) hb); clear HO559 BK556 HB; obtain ⟨HO559, HO562, BK556, HB⟩ := n_; (try clear hb); (try clear hb2); (try clear hk); (try clear hi); (try clear ho0); obtain ⟨Ao10, co10, eo10⟩ := Kd.R_slice HO562.out; subst eo10; obtain ⟨hcz11_0, hcz11_1, hcz11_2, hfz11_0, hfz11_1, hfz11_2⟩ := blk3 BK556.out))
  refine bodyPost_ret (results_ct rfl _ _ gb556 36 #[.bool false, .slice none 0 0, .slice none 0 0] (0, 0) _ rfl (by exact bp BK556.out rfl) Try.underlying36 rfl (by kernel_rfl)) rfl ?_
  exact ⟨_, _, by first | rfl | simp [*], by first | exact Kd.R_nil _ _ _ _ _ | exact Kd.V_nil _ _ _ _ _, by first | exact Kd.R_nil _ _ _ _ _ | exact Kd.V_nil _ _ _ _ _, bl1 HB GE556⟩
 ·rw [if_neg c6] at H
  have c6b0 : ((t560.length : Int) == 0) = false := beq_eq_false_iff_ne.mpr c6
  have c6b1 : ((t560.length : Int) != 0) = true := bne_iff_ne.mpr c6
  have c6b2 : ¬ (t560 = []) := fun h_ => c6 (by rw [h_]; rfl)
  by_cases c12 : (t557.length : Int) = 0
  ·rw [if_pos c12] at H
   have c12b0 : ((t557.length : Int) == 0) = true := beq_iff_eq.mpr c12
   have c12b1 : ((t557.length : Int) != 0) = false := bne_eq_false_iff_eq.mpr c12
   clear c12
   obtain ⟨y563, hy563⟩ : ∃ y_ : List Int, y_ = (([1] : List Int)) := ⟨_, rfl⟩
   replace H : (some (false, ([] : List Int), y563, 0)) = some (r1, r2, r3, r4) := by rw [hy563]; exact H
   have Ny563 := Aside0.mk hy563
   clear hy563
   simp only [Option.some.injEq, Prod.mk.injEq] at H
   obtain ⟨rfl, rfl, rfl, rfl⟩ := H
   go_enter Try.func68, Try.ntmps68
   go_wp2_with (first | ((with_reducible refine gate_dst (N := 6) rfl ?_); (try (refine gate_guard (by rfl) ?_; dsimp only)); refine box_event ?hg (N := 6) ?hd (cs := #[.bool false, .slice none 0 0, .slice none 0 0]) (t := 36) ?hr ?_; (case hd => rfl); (case hg => rfl); (case hr => first | (go_simp; done) | (go_simp; rfl)); intro gb556 hg w13 hbox hb; have n_ := mk4 (below_step (bl HB) hb) (hbox) ((by rw [hg]; exact (below_size (bl HB)) : w.heap.size ≤ gb556)) ((by rw [hg]; exact (below_size (bl HB)) : w.heap.size ≤ gb556)); clear HB; obtain ⟨HB, BK556, GW556, GE556⟩ := n_; clear hb hbox hg) | ((with_reducible refine gate_callee (f := 83) rfl ?_); refine goesM (some 12) rfl rfl Try.func83 (by kernel_rfl) rfl #[.slice A1 l1.length c1] rfl (by rfl) ?_; (with_reducible refine (sibylref01_Trim.calls k _ _ l1 t557 _ ?side1 ?side2 A4.out).mono ?_); (case side1 => exact ca (Kd.C_below HR1.out HB.out)); (case side2 => exact HC1.out); rintro e w14 ⟨v558, rfl, ho0, hb⟩; refine ⟨_, rfl, ?_⟩; have n_ := mk3 (Kd.R_lower ho0 (below_size (bl1 HB GE556))) (blk_below (ba BK556.out) hb) (below_step (bl1 HB GE556) hb); clear BK556 HB; obtain ⟨HO559, BK556, HB⟩ := n_; (try clear hb); (try clear hb2); (try clear hk); (try clear hi); (try clear ho0)) | ((with_reducible refine gate_callee (f := 83) rfl ?_); refine goesM (some 14) rfl rfl Try.func83 (by kernel_rfl) rfl #[.slice A2 l2.length c2] rfl (by rfl) ?_; (with_reducible refine (sibylref01_Trim.calls k _ _ l2 t560 _ ?side1 ?side2 A5.out).mono ?_); (case side1 => exact ca (Kd.C_below HR2.out HB.out)); (case side2 => exact HC2.out); rintro e w15 ⟨v561, rfl, ho0, hb⟩; refine ⟨_, rfl, ?_⟩; have n_ := mk4 (Kd.R_elder' (ra HO559.out) (Kd.R_base ho0) hb) (Kd.R_lower (Kd.R_new' ho0 (Kd.R_lt (ra HO559.out))) (below_size (bl1 HB GE556))) (blk_below (ba BK556.out) hb) (below_step (bl1 HB GE556) hb); clear HO559 BK556 HB; obtain ⟨HO559, HO562, BK556, HB⟩ := n_; (try clear hb); (try clear hb2); (try clear hk); (try clear hi); (try clear ho0); obtain ⟨Ao16, co16, eo16⟩ := Kd.R_slice HO562.out; subst eo16; obtain ⟨Ao17, co17, eo17⟩ := Kd.R_slice HO559.out; subst eo17) | ((with_reducible refine gate_dst (N := 22) rfl ?_); (try (refine gate_guard (by rfl) ?_; dsimp only)); refine Kd.R_lit (Kd.int .u32) _ 99 ?hg (N := 22) ?hd (xs := ([1] : List Int)) (inner := [.int .u32 1]) (ok := fun _ => True) (okp := fun _ => True) ?hr ?hp (fun _ hk => hk) trivial (Below.refl _ _) (Nat.le_refl _) (by simp) ?_; (case hd => rfl); (case hg => rfl); (case hr => first | (go_simp; done) | (go_simp; rfl)); (case hp => exact (Reps.one (show Kd.M (Kd.int .u32) _ _ _ 1 [.int .u32 1] from rfl) (Reps.none _ _))); intro v564 w18 ho19 hb hg_ hnew_; clear hg_ hnew_; (first | rw [← Ny563.out] at ho19 | (simp only [Int.reduceToNat] at ho19; rw [← Ny563.out] at ho19)); have n_ := mk5 (Kd.R_elder' (ra HO559.out) (Kd.R_base ho19) hb) (Kd.R_elder' (ra HO562.out) (Kd.R_base ho19) hb) (Kd.R_lower (Kd.R_new' (Kd.R_new' ho19 (Kd.R_lt (ra HO559.out))) (Kd.R_lt (ra HO562.out))) (below_size (bl1 HB GE556))) (blk_below (ba BK556.out) hb) (below_step (bl1 HB GE556) hb); clear HO559 HO562 BK556 HB; obtain ⟨HO559, HO562, HO565, BK556, HB⟩ := n_; clear hb ho19; obtain ⟨Ao20, co20, eo20⟩ := Kd.R_slice HO565.out; subst eo20; obtain ⟨hcz21_0, hcz21_1, hcz21_2, hfz21_0, hfz21_1, hfz21_2⟩ := blk3 BK556.out))
   refine bodyPost_ret (results_ct rfl _ _ gb556 36 #[.bool false, .slice none 0 0, .slice Ao20 y563.length co20] (0, 0) _ rfl (by exact bp BK556.out rfl) Try.underlying36 rfl (by kernel_rfl)) rfl ?_
   exact ⟨_, _, by first | rfl | simp [*], by first | exact Kd.R_nil _ _ _ _ _ | exact Kd.V_nil _ _ _ _ _, ra (Kd.R_mono (Kd.R_far (p := ⟨gb556, 2, none⟩) (Kd.R_far (p := ⟨gb556, 1, none⟩) (Kd.R_far (p := ⟨gb556, 0, none⟩) (Kd.R_types HO565.out BK556.out (by decide)) (fun _ hk => hk.2) (.bool false)) (fun _ hk => hk.2) (.slice none 0 0)) (fun _ hk => hk.2) (.slice Ao20 y563.length co20)) (fun _ hk => (by simp [Value.ownBlock]))), bl1 HB GE556⟩
  ·rw [if_neg c12] at H
   have c12b0 : ((t557.length : Int) == 0) = false := beq_eq_false_iff_ne.mpr c12
   have c12b1 : ((t557.length : Int) != 0) = true := bne_iff_ne.mpr c12
   have c12b2 : ¬ (t557 = []) := fun h_ => c12 (by rw [h_]; rfl)
   obtain ⟨t566, A22, H⟩ := bindA H
   obtain ⟨⟨t569, t570⟩, A23, H⟩ := bindA H
   dsimp only at H
   obtain ⟨⟨t575, t576⟩, A24, H⟩ := bindA H
   dsimp only at H
   by_cases c25 : (t569.length : Int) > 16
   ·rw [if_pos c25] at H
    have c25b0 : decide (16 < (t569.length : Int)) = true := decide_eq_true c25
    have c25b1 : decide (16 < t569.length) = true := decide_eq_true (by omega)
    clear c25
    simp only [Option.some.injEq, Prod.mk.injEq] at H
    obtain ⟨rfl, rfl, rfl, rfl⟩ := H
    go_enter Try.func68, Try.ntmps68
    go_wp2_with (first | ((with_reducible refine gate_dst (N := 6) rfl ?_); (try (refine gate_guard (by rfl) ?_; dsimp only)); refine box_event ?hg (N := 6) ?hd (cs := #[.bool false, .slice none 0 0, .slice none 0 0]) (t := 36) ?hr ?_; (case hd => rfl); (case hg => rfl); (case hr => first | (go_simp; done) | (go_simp; rfl)); intro gb556 hg w26 hbox hb; have n_ := mk4 (below_step (bl HB) hb) (hbox) ((by rw [hg]; exact (below_size (bl HB)) : w.heap.size ≤ gb556)) ((by rw [hg]; exact (below_size (bl HB)) : w.heap.size ≤ gb556)); clear HB; obtain ⟨HB, BK556, GW556, GE556⟩ := n_; clear hb hbox hg) | ((with_reducible refine gate_callee (f := 83) rfl ?_); refine goesM (some 12) rfl rfl Try.func83 (by kernel_rfl) rfl #[.slice A1 l1.length c1] rfl (by rfl) ?_; (with_reducible refine (sibylref01_Trim.calls k _ _ l1 t557 _ ?side1 ?side2 A4.out).mono ?_); (case side1 => exact ca (Kd.C_below HR1.out HB.out)); (case side2 => exact HC1.out); rintro e w27 ⟨v558, rfl, ho0, hb⟩; refine ⟨_, rfl, ?_⟩; have n_ := mk3 (Kd.R_lower ho0 (below_size (bl1 HB GE556))) (blk_below (ba BK556.out) hb) (below_step (bl1 HB GE556) hb); clear BK556 HB; obtain ⟨HO559, BK556, HB⟩ := n_; (try clear hb); (try clear hb2); (try clear hk); (try clear hi); (try clear ho0)) | ((with_reducible refine gate_callee (f := 83) rfl ?_); refine goesM (some 14) rfl rfl Try.func83 (by kernel_rfl) rfl #[.slice A2 l2.length c2] rfl (by rfl) ?_; (with_reducible refine (sibylref01_Trim.calls k _ _ l2 t560 _ ?side1 ?side2 A5.out).mono ?_); (case side1 => exact ca (Kd.C_below HR2.out HB.out)); (case side2 => exact HC2.out); rintro e w28 ⟨v561, rfl, ho0, hb⟩; refine ⟨_, rfl, ?_⟩; have n_ := mk4 (Kd.R_elder' (ra HO559.out) (Kd.R_base ho0) hb) (Kd.R_lower (Kd.R_new' ho0 (Kd.R_lt (ra HO559.out))) (below_size (bl1 HB GE556))) (blk_below (ba BK556.out) hb) (below_step (bl1 HB GE556) hb); clear HO559 BK556 HB; obtain ⟨HO559, HO562, BK556, HB⟩ := n_; (try clear hb); (try clear hb2); (try clear hk); (try clear hi); (try clear ho0); obtain ⟨Ao29, co29, eo29⟩ := Kd.R_slice HO562.out; subst eo29; obtain ⟨Ao30, co30, eo30⟩ := Kd.R_slice HO559.out; subst eo30) | ((with_reducible refine gate_callee (f := 81) rfl ?_); refine goesM (some 26) rfl rfl Try.func81 (by kernel_rfl) rfl #[.slice Ao30 t557.length co30, .slice Ao29 t560.length co29] rfl (by rfl) ?_; (with_reducible refine (sibylref01_Common.calls k _ _ t557 _ _ t560 t566 _ ?side1 ?side2 ?side3 ?side4 A22.out).mono ?_); (case side1 => exact ca ((Kd.R_reads' HO559.out).2.2)); (case side2 => exact (Kd.R_reads' HO559.out).2.1); (case side3 => exact ca ((Kd.R_reads' HO562.out).2.2)); (case side4 => exact (Kd.R_reads' HO562.out).2.1); rintro e w31 ⟨v567, rfl, ho0, hb⟩; refine ⟨_, rfl, ?_⟩; have n_ := mk5 (Kd.R_elder' (ra HO559.out) (Kd.R_base ho0) hb) (Kd.R_elder' (ra HO562.out) (Kd.R_base ho0) hb) (Kd.R_lower (Kd.R_new' (Kd.R_new' ho0 (Kd.R_lt (ra HO559.out))) (Kd.R_lt (ra HO562.out))) (below_size (bl1 HB GE556))) (blk_below (ba BK556.out) hb) (below_step (bl1 HB GE556) hb); clear HO559 HO562 BK556 HB; obtain ⟨HO559, HO562, HO568, BK556, HB⟩ := n_; (try clear hb); (try clear hb2); (try clear hk); (try clear hi); (try clear ho0); obtain ⟨Ao32, co32, eo32⟩ := Kd.R_slice HO568.out; subst eo32) | ((with_reducible refine gate_callee (f := 79) rfl ?_); refine goesM (some 30) rfl rfl Try.func79 (by kernel_rfl) rfl #[.slice Ao30 t557.length co30, .slice Ao32 t566.length co32] rfl (by rfl) ?_; (with_reducible refine (sibylref01_Divide.calls k _ _ t557 _ _ t566 t569 t570 _ ?side1 ?side2 ?side3 ?side4 A23.out).mono ?_); (case side1 => exact ca ((Kd.R_reads' HO559.out).2.2)); (case side2 => exact (Kd.R_reads' HO559.out).2.1); (case side3 => exact ca ((Kd.R_reads' HO568.out).2.2)); (case side4 => exact (Kd.R_reads' HO568.out).2.1); rintro e w33 ⟨v571, v573, rfl, ho0, ho1, hb⟩; refine ⟨_, rfl, ?_⟩; have n0_ := Aside0.mk (Kd.R_mono (Kd.R_told (Kd.R_told (Kd.R_old (ra HO559.out) hb) (Kd.R_base ho0)) (Kd.R_base ho1)) (fun _ h_ => h_.1)); have n1_ := Aside0.mk (Kd.R_mono (Kd.R_told (Kd.R_told (Kd.R_old (ra HO562.out) hb) (Kd.R_base ho0)) (Kd.R_base ho1)) (fun _ h_ => h_.1)); have n2_ := Aside0.mk (Kd.R_mono (Kd.R_told (Kd.R_told (Kd.R_old (ra HO568.out) hb) (Kd.R_base ho0)) (Kd.R_base ho1)) (fun _ h_ => h_.1)); have n3_ := Aside0.mk (Kd.R_lower (Kd.R_new' (Kd.R_new' (Kd.R_new' ho0 (Kd.R_lt (ra HO559.out))) (Kd.R_lt (ra HO562.out))) (Kd.R_lt (ra HO568.out))) (below_size (bl1 HB GE556))); have n4_ := Aside0.mk (Kd.R_lower (Kd.R_new' (Kd.R_new' (Kd.R_new' ho1 (Kd.R_lt (ra HO559.out))) (Kd.R_lt (ra HO562.out))) (Kd.R_lt (ra HO568.out))) (below_size (bl1 HB GE556))); have n5_ := Aside0.mk (blk_below (ba BK556.out) hb); have n6_ := Aside0.mk (below_step (bl1 HB GE556) hb); clear HO559; clear HO562; clear HO568; clear BK556; clear HB; have HO559 := n0_; have HO562 := n1_; have HO568 := n2_; have HO572 := n3_; have HO574 := n4_; have BK556 := n5_; have HB := n6_; clear n0_ n1_ n2_ n3_ n4_ n5_ n6_; (try clear hb); (try clear hb2); (try clear hk); (try clear hi); (try clear ho0); (try clear ho1)) | ((with_reducible refine gate_callee (f := 79) rfl ?_); refine goesM (some 36) rfl rfl Try.func79 (by kernel_rfl) rfl #[.slice Ao29 t560.length co29, .slice Ao32 t566.length co32] rfl (by rfl) ?_; (with_reducible refine (sibylref01_Divide.calls k _ _ t560 _ _ t566 t575 t576 _ ?side1 ?side2 ?side3 ?side4 A24.out).mono ?_); (case side1 => exact ca ((Kd.R_reads' HO562.out).2.2)); (case side2 => exact (Kd.R_reads' HO562.out).2.1); (case side3 => exact ca ((Kd.R_reads' HO568.out).2.2)); (case side4 => exact (Kd.R_reads' HO568.out).2.1); rintro e w34 ⟨v577, v579, rfl, ho0, ho1, hb⟩; refine ⟨_, rfl, ?_⟩; have n0_ := Aside0.mk (Kd.R_mono (Kd.R_told (Kd.R_told (Kd.R_old (ra HO559.out) hb) (Kd.R_base ho0)) (Kd.R_base ho1)) (fun _ h_ => h_.1)); have n1_ := Aside0.mk (Kd.R_mono (Kd.R_told (Kd.R_told (Kd.R_old (ra HO562.out) hb) (Kd.R_base ho0)) (Kd.R_base ho1)) (fun _ h_ => h_.1)); have n2_ := Aside0.mk (Kd.R_mono (Kd.R_told (Kd.R_told (Kd.R_old (ra HO568.out) hb) (Kd.R_base ho0)) (Kd.R_base ho1)) (fun _ h_ => h_.1)); have n3_ := Aside0.mk (Kd.R_mono (Kd.R_told (Kd.R_told (Kd.R_old (ra HO572.out) hb) (Kd.R_base ho0)) (Kd.R_base ho1)) (fun _ h_ => h_.1)); have n4_ := Aside0.mk (Kd.R_mono (Kd.R_told (Kd.R_told (Kd.R_old (ra HO574.out) hb) (Kd.R_base ho0)) (Kd.R_base ho1)) (fun _ h_ => h_.1)); have n5_ := Aside0.mk (Kd.R_lower (Kd.R_new' (Kd.R_new' (Kd.R_new' (Kd.R_new' (Kd.R_new' ho0 (Kd.R_lt (ra HO559.out))) (Kd.R_lt (ra HO562.out))) (Kd.R_lt (ra HO568.out))) (Kd.R_lt (ra HO572.out))) (Kd.R_lt (ra HO574.out))) (below_size (bl1 HB GE556))); have n6_ := Aside0.mk (Kd.R_lower (Kd.R_new' (Kd.R_new' (Kd.R_new' (Kd.R_new' (Kd.R_new' ho1 (Kd.R_lt (ra HO559.out))) (Kd.R_lt (ra HO562.out))) (Kd.R_lt (ra HO568.out))) (Kd.R_lt (ra HO572.out))) (Kd.R_lt (ra HO574.out))) (below_size (bl1 HB GE556))); have n7_ := Aside0.mk (blk_below (ba BK556.out) hb); have n8_ := Aside0.mk (below_step (bl1 HB GE556) hb); clear HO559; clear HO562; clear HO568; clear HO572; clear HO574; clear BK556; clear HB; have HO559 := n0_; have HO562 := n1_; have HO568 := n2_; have HO572 := n3_; have HO574 := n4_; have HO578 := n5_; have HO580 := n6_; have BK556 := n7_; have HB := n8_; clear n0_ n1_ n2_ n3_ n4_ n5_ n6_ n7_ n8_; (try clear hb); (try clear hb2); (try clear hk); (try clear hi); (try clear ho0); (try clear ho1); obtain ⟨Ao35, co35, eo35⟩ := Kd.R_slice HO572.out; subst eo35; obtain ⟨hcz36_0, hcz36_1, hcz36_2, hfz36_0, hfz36_1, hfz36_2⟩ := blk3 BK556.out))
    refine bodyPost_ret (results_ct rfl _ _ gb556 36 #[.bool false, .slice none 0 0, .slice none 0 0] (0, 0) _ rfl (by exact bp BK556.out rfl) Try.underlying36 rfl (by kernel_rfl)) rfl ?_
    exact ⟨_, _, by first | rfl | simp [*], by first | exact Kd.R_nil _ _ _ _ _ | exact Kd.V_nil _ _ _ _ _, by first | exact Kd.R_nil _ _ _ _ _ | exact Kd.V_nil _ _ _ _ _, bl1 HB GE556⟩
   ·rw [if_neg c25] at H
    have c25b0 : decide (16 < (t569.length : Int)) = false := decide_eq_false c25
    have c25b1 : decide (16 < t569.length) = false := decide_eq_false (by omega)
    clear c25
    by_cases c37 : (t575.length : Int) > 16
    ·rw [if_pos c37] at H
     have c37b0 : decide (16 < (t575.length : Int)) = true := decide_eq_true c37
     have c37b1 : decide (16 < t575.length) = true := decide_eq_true (by omega)
     clear c37
     simp only [Option.some.injEq, Prod.mk.injEq] at H
     obtain ⟨rfl, rfl, rfl, rfl⟩ := H
     go_enter Try.func68, Try.ntmps68
     go_wp2_with (first | ((with_reducible refine gate_dst (N := 6) rfl ?_); (try (refine gate_guard (by rfl) ?_; dsimp only)); refine box_event ?hg (N := 6) ?hd (cs := #[.bool false, .slice none 0 0, .slice none 0 0]) (t := 36) ?hr ?_; (case hd => rfl); (case hg => rfl); (case hr => first | (go_simp; done) | (go_simp; rfl)); intro gb556 hg w38 hbox hb; have n_ := mk4 (below_step (bl HB) hb) (hbox) ((by rw [hg]; exact (below_size (bl HB)) : w.heap.size ≤ gb556)) ((by rw [hg]; exact (below_size (bl HB)) : w.heap.size ≤ gb556)); clear HB; obtain ⟨HB, BK556, GW556, GE556⟩ := n_; clear hb hbox hg) | ((with_reducible refine gate_callee (f := 83) rfl ?_); refine goesM (some 12) rfl rfl Try.func83 (by kernel_rfl) rfl #[.slice A1 l1.length c1] rfl (by rfl) ?_; (with_reducible refine (sibylref01_Trim.calls k _ _ l1 t557 _ ?side1 ?side2 A4.out).mono ?_); (case side1 => exact ca (Kd.C_below HR1.out HB.out)); (case side2 => exact HC1.out); rintro e w39 ⟨v558, rfl, ho0, hb⟩; refine ⟨_, rfl, ?_⟩; have n_ := mk3 (Kd.R_lower ho0 (below_size (bl1 HB GE556))) (blk_below (ba BK556.out) hb) (below_step (bl1 HB GE556) hb); clear BK556 HB; obtain ⟨HO559, BK556, HB⟩ := n_; (try clear hb); (try clear hb2); (try clear hk); (try clear hi); (try clear ho0)) | ((with_reducible refine gate_callee (f := 83) rfl ?_); refine goesM (some 14) rfl rfl Try.func83 (by kernel_rfl) rfl #[.slice A2 l2.length c2] rfl (by rfl) ?_; (with_reducible refine (sibylref01_Trim.calls k _ _ l2 t560 _ ?side1 ?side2 A5.out).mono ?_); (case side1 => exact ca (Kd.C_below HR2.out HB.out)); (case side2 => exact HC2.out); rintro e w40 ⟨v561, rfl, ho0, hb⟩; refine ⟨_, rfl, ?_⟩; have n_ := mk4 (Kd.R_elder' (ra HO559.out) (Kd.R_base ho0) hb) (Kd.R_lower (Kd.R_new' ho0 (Kd.R_lt (ra HO559.out))) (below_size (bl1 HB GE556))) (blk_below (ba BK556.out) hb) (below_step (bl1 HB GE556) hb); clear HO559 BK556 HB; obtain ⟨HO559, HO562, BK556, HB⟩ := n_; (try clear hb); (try clear hb2); (try clear hk); (try clear hi); (try clear ho0); obtain ⟨Ao41, co41, eo41⟩ := Kd.R_slice HO562.out; subst eo41; obtain ⟨Ao42, co42, eo42⟩ := Kd.R_slice HO559.out; subst eo42) | ((with_reducible refine gate_callee (f := 81) rfl ?_); refine goesM (some 26) rfl rfl Try.func81 (by kernel_rfl) rfl #[.slice Ao42 t557.length co42, .slice Ao41 t560.length co41] rfl (by rfl) ?_; (with_reducible refine (sibylref01_Common.calls k _ _ t557 _ _ t560 t566 _ ?side1 ?side2 ?side3 ?side4 A22.out).mono ?_); (case side1 => exact ca ((Kd.R_reads' HO559.out).2.2)); (case side2 => exact (Kd.R_reads' HO559.out).2.1); (case side3 => exact ca ((Kd.R_reads' HO562.out).2.2)); (case side4 => exact (Kd.R_reads' HO562.out).2.1); rintro e w43 ⟨v567, rfl, ho0, hb⟩; refine ⟨_, rfl, ?_⟩; have n_ := mk5 (Kd.R_elder' (ra HO559.out) (Kd.R_base ho0) hb) (Kd.R_elder' (ra HO562.out) (Kd.R_base ho0) hb) (Kd.R_lower (Kd.R_new' (Kd.R_new' ho0 (Kd.R_lt (ra HO559.out))) (Kd.R_lt (ra HO562.out))) (below_size (bl1 HB GE556))) (blk_below (ba BK556.out) hb) (below_step (bl1 HB GE556) hb); clear HO559 HO562 BK556 HB; obtain ⟨HO559, HO562, HO568, BK556, HB⟩ := n_; (try clear hb); (try clear hb2); (try clear hk); (try clear hi); (try clear ho0); obtain ⟨Ao44, co44, eo44⟩ := Kd.R_slice HO568.out; subst eo44) | ((with_reducible refine gate_callee (f := 79) rfl ?_); refine goesM (some 30) rfl rfl Try.func79 (by kernel_rfl) rfl #[.slice Ao42 t557.length co42, .slice Ao44 t566.length co44] rfl (by rfl) ?_; (with_reducible refine (sibylref01_Divide.calls k _ _ t557 _ _ t566 t569 t570 _ ?side1 ?side2 ?side3 ?side4 A23.out).mono ?_); (case side1 => exact ca ((Kd.R_reads' HO559.out).2.2)); (case side2 => exact (Kd.R_reads' HO559.out).2.1); (case side3 => exact ca ((Kd.R_reads' HO568.out).2.2)); (case side4 => exact (Kd.R_reads' HO568.out).2.1); rintro e w45 ⟨v571, v573, rfl, ho0, ho1, hb⟩; refine ⟨_, rfl, ?_⟩; have n0_ := Aside0.mk (Kd.R_mono (Kd.R_told (Kd.R_told (Kd.R_old (ra HO559.out) hb) (Kd.R_base ho0)) (Kd.R_base ho1)) (fun _ h_ => h_.1)); have n1_ := Aside0.mk (Kd.R_mono (Kd.R_told (Kd.R_told (Kd.R_old (ra HO562.out) hb) (Kd.R_base ho0)) (Kd.R_base ho1)) (fun _ h_ => h_.1)); have n2_ := Aside0.mk (Kd.R_mono (Kd.R_told (Kd.R_told (Kd.R_old (ra HO568.out) hb) (Kd.R_base ho0)) (Kd.R_base ho1)) (fun _ h_ => h_.1)); have n3_ := Aside0.mk (Kd.R_lower (Kd.R_new' (Kd.R_new' (Kd.R_new' ho0 (Kd.R_lt (ra HO559.out))) (Kd.R_lt (ra HO562.out))) (Kd.R_lt (ra HO568.out))) (below_size (bl1 HB GE556))); have n4_ := Aside0.mk (Kd.R_lower (Kd.R_new' (Kd.R_new' (Kd.R_new' ho1 (Kd.R_lt (ra HO559.out))) (Kd.R_lt (ra HO562.out))) (Kd.R_lt (ra HO568.out))) (below_size (bl1 HB GE556))); have n5_ := Aside0.mk (blk_below (ba BK556.out) hb); have n6_ := Aside0.mk (below_step (bl1 HB GE556) hb); clear HO559; clear HO562; clear HO568; clear BK556; clear HB; have HO559 := n0_; have HO562 := n1_; have HO568 := n2_; have HO572 := n3_; have HO574 := n4_; have BK556 := n5_; have HB := n6_; clear n0_ n1_ n2_ n3_ n4_ n5_ n6_; (try clear hb); (try clear hb2); (try clear hk); (try clear hi); (try clear ho0); (try clear ho1)) | ((with_reducible refine gate_callee (f := 79) rfl ?_); refine goesM (some 36) rfl rfl Try.func79 (by kernel_rfl) rfl #[.slice Ao41 t560.length co41, .slice Ao44 t566.length co44] rfl (by rfl) ?_; (with_reducible refine (sibylref01_Divide.calls k _ _ t560 _ _ t566 t575 t576 _ ?side1 ?side2 ?side3 ?side4 A24.out).mono ?_); (case side1 => exact ca ((Kd.R_reads' HO562.out).2.2)); (case side2 => exact (Kd.R_reads' HO562.out).2.1); (case side3 => exact ca ((Kd.R_reads' HO568.out).2.2)); (case side4 => exact (Kd.R_reads' HO568.out).2.1); rintro e w46 ⟨v577, v579, rfl, ho0, ho1, hb⟩; refine ⟨_, rfl, ?_⟩; have n0_ := Aside0.mk (Kd.R_mono (Kd.R_told (Kd.R_told (Kd.R_old (ra HO559.out) hb) (Kd.R_base ho0)) (Kd.R_base ho1)) (fun _ h_ => h_.1)); have n1_ := Aside0.mk (Kd.R_mono (Kd.R_told (Kd.R_told (Kd.R_old (ra HO562.out) hb) (Kd.R_base ho0)) (Kd.R_base ho1)) (fun _ h_ => h_.1)); have n2_ := Aside0.mk (Kd.R_mono (Kd.R_told (Kd.R_told (Kd.R_old (ra HO568.out) hb) (Kd.R_base ho0)) (Kd.R_base ho1)) (fun _ h_ => h_.1)); have n3_ := Aside0.mk (Kd.R_mono (Kd.R_told (Kd.R_told (Kd.R_old (ra HO572.out) hb) (Kd.R_base ho0)) (Kd.R_base ho1)) (fun _ h_ => h_.1)); have n4_ := Aside0.mk (Kd.R_mono (Kd.R_told (Kd.R_told (Kd.R_old (ra HO574.out) hb) (Kd.R_base ho0)) (Kd.R_base ho1)) (fun _ h_ => h_.1)); have n5_ := Aside0.mk (Kd.R_lower (Kd.R_new' (Kd.R_new' (Kd.R_new' (Kd.R_new' (Kd.R_new' ho0 (Kd.R_lt (ra HO559.out))) (Kd.R_lt (ra HO562.out))) (Kd.R_lt (ra HO568.out))) (Kd.R_lt (ra HO572.out))) (Kd.R_lt (ra HO574.out))) (below_size (bl1 HB GE556))); have n6_ := Aside0.mk (Kd.R_lower (Kd.R_new' (Kd.R_new' (Kd.R_new' (Kd.R_new' (Kd.R_new' ho1 (Kd.R_lt (ra HO559.out))) (Kd.R_lt (ra HO562.out))) (Kd.R_lt (ra HO568.out))) (Kd.R_lt (ra HO572.out))) (Kd.R_lt (ra HO574.out))) (below_size (bl1 HB GE556))); have n7_ := Aside0.mk (blk_below (ba BK556.out) hb); have n8_ := Aside0.mk (below_step (bl1 HB GE556) hb); clear HO559; clear HO562; clear HO568; clear HO572; clear HO574; clear BK556; clear HB; have HO559 := n0_; have HO562 := n1_; have HO568 := n2_; have HO572 := n3_; have HO574 := n4_; have HO578 := n5_; have HO580 := n6_; have BK556 := n7_; have HB := n8_; clear n0_ n1_ n2_ n3_ n4_ n5_ n6_ n7_ n8_; (try clear hb); (try clear hb2); (try clear hk); (try clear hi); (try clear ho0); (try clear ho1); obtain ⟨Ao47, co47, eo47⟩ := Kd.R_slice HO572.out; subst eo47; obtain ⟨Ao48, co48, eo48⟩ := Kd.R_slice HO578.out; subst eo48; obtain ⟨hcz49_0, hcz49_1, hcz49_2, hfz49_0, hfz49_1, hfz49_2⟩ := blk3 BK556.out))
     refine bodyPost_ret (results_ct rfl _ _ gb556 36 #[.bool false, .slice none 0 0, .slice none 0 0] (0, 0) _ rfl (by exact bp BK556.out rfl) Try.underlying36 rfl (by kernel_rfl)) rfl ?_
     exact ⟨_, _, by first | rfl | simp [*], by first | exact Kd.R_nil _ _ _ _ _ | exact Kd.V_nil _ _ _ _ _, by first | exact Kd.R_nil _ _ _ _ _ | exact Kd.V_nil _ _ _ _ _, bl1 HB GE556⟩
    ·rw [if_neg c37] at H
     have c37b0 : decide (16 < (t575.length : Int)) = false := decide_eq_false c37
     have c37b1 : decide (16 < t575.length) = false := decide_eq_false (by omega)
     clear c37
     simp only [Option.some.injEq, Prod.mk.injEq] at H
     obtain ⟨rfl, rfl, rfl, rfl⟩ := H
     go_enter Try.func68, Try.ntmps68
     go_wp2_with (first | ((with_reducible refine gate_dst (N := 6) rfl ?_); (try (refine gate_guard (by rfl) ?_; dsimp only)); refine box_event ?hg (N := 6) ?hd (cs := #[.bool false, .slice none 0 0, .slice none 0 0]) (t := 36) ?hr ?_; (case hd => rfl); (case hg => rfl); (case hr => first | (go_simp; done) | (go_simp; rfl)); intro gb556 hg w50 hbox hb; have n_ := mk4 (below_step (bl HB) hb) (hbox) ((by rw [hg]; exact (below_size (bl HB)) : w.heap.size ≤ gb556)) ((by rw [hg]; exact (below_size (bl HB)) : w.heap.size ≤ gb556)); clear HB; obtain ⟨HB, BK556, GW556, GE556⟩ := n_; clear hb hbox hg) | ((with_reducible refine gate_callee (f := 83) rfl ?_); refine goesM (some 12) rfl rfl Try.func83 (by kernel_rfl) rfl #[.slice A1 l1.length c1] rfl (by rfl) ?_; (with_reducible refine (sibylref01_Trim.calls k _ _ l1 t557 _ ?side1 ?side2 A4.out).mono ?_); (case side1 => exact ca (Kd.C_below HR1.out HB.out)); (case side2 => exact HC1.out); rintro e w51 ⟨v558, rfl, ho0, hb⟩; refine ⟨_, rfl, ?_⟩; have n_ := mk3 (Kd.R_lower ho0 (below_size (bl1 HB GE556))) (blk_below (ba BK556.out) hb) (below_step (bl1 HB GE556) hb); clear BK556 HB; obtain ⟨HO559, BK556, HB⟩ := n_; (try clear hb); (try clear hb2); (try clear hk); (try clear hi); (try clear ho0)) | ((with_reducible refine gate_callee (f := 83) rfl ?_); refine goesM (some 14) rfl rfl Try.func83 (by kernel_rfl) rfl #[.slice A2 l2.length c2] rfl (by rfl) ?_; (with_reducible refine (sibylref01_Trim.calls k _ _ l2 t560 _ ?side1 ?side2 A5.out).mono ?_); (case side1 => exact ca (Kd.C_below HR2.out HB.out)); (case side2 => exact HC2.out); rintro e w52 ⟨v561, rfl, ho0, hb⟩; refine ⟨_, rfl, ?_⟩; have n_ := mk4 (Kd.R_elder' (ra HO559.out) (Kd.R_base ho0) hb) (Kd.R_lower (Kd.R_new' ho0 (Kd.R_lt (ra HO559.out))) (below_size (bl1 HB GE556))) (blk_below (ba BK556.out) hb) (below_step (bl1 HB GE556) hb); clear HO559 BK556 HB; obtain ⟨HO559, HO562, BK556, HB⟩ := n_; (try clear hb); (try clear hb2); (try clear hk); (try clear hi); (try clear ho0); obtain ⟨Ao53, co53, eo53⟩ := Kd.R_slice HO562.out; subst eo53; obtain ⟨Ao54, co54, eo54⟩ := Kd.R_slice HO559.out; subst eo54) | ((with_reducible refine gate_callee (f := 81) rfl ?_); refine goesM (some 26) rfl rfl Try.func81 (by kernel_rfl) rfl #[.slice Ao54 t557.length co54, .slice Ao53 t560.length co53] rfl (by rfl) ?_; (with_reducible refine (sibylref01_Common.calls k _ _ t557 _ _ t560 t566 _ ?side1 ?side2 ?side3 ?side4 A22.out).mono ?_); (case side1 => exact ca ((Kd.R_reads' HO559.out).2.2)); (case side2 => exact (Kd.R_reads' HO559.out).2.1); (case side3 => exact ca ((Kd.R_reads' HO562.out).2.2)); (case side4 => exact (Kd.R_reads' HO562.out).2.1); rintro e w55 ⟨v567, rfl, ho0, hb⟩; refine ⟨_, rfl, ?_⟩; have n_ := mk5 (Kd.R_elder' (ra HO559.out) (Kd.R_base ho0) hb) (Kd.R_elder' (ra HO562.out) (Kd.R_base ho0) hb) (Kd.R_lower (Kd.R_new' (Kd.R_new' ho0 (Kd.R_lt (ra HO559.out))) (Kd.R_lt (ra HO562.out))) (below_size (bl1 HB GE556))) (blk_below (ba BK556.out) hb) (below_step (bl1 HB GE556) hb); clear HO559 HO562 BK556 HB; obtain ⟨HO559, HO562, HO568, BK556, HB⟩ := n_; (try clear hb); (try clear hb2); (try clear hk); (try clear hi); (try clear ho0); obtain ⟨Ao56, co56, eo56⟩ := Kd.R_slice HO568.out; subst eo56) | ((with_reducible refine gate_callee (f := 79) rfl ?_); refine goesM (some 30) rfl rfl Try.func79 (by kernel_rfl) rfl #[.slice Ao54 t557.length co54, .slice Ao56 t566.length co56] rfl (by rfl) ?_; (with_reducible refine (sibylref01_Divide.calls k _ _ t557 _ _ t566 t569 t570 _ ?side1 ?side2 ?side3 ?side4 A23.out).mono ?_); (case side1 => exact ca ((Kd.R_reads' HO559.out).2.2)); (case side2 => exact (Kd.R_reads' HO559.out).2.1); (case side3 => exact ca ((Kd.R_reads' HO568.out).2.2)); (case side4 => exact (Kd.R_reads' HO568.out).2.1); rintro e w57 ⟨v571, v573, rfl, ho0, ho1, hb⟩; refine ⟨_, rfl, ?_⟩; have n0_ := Aside0.mk (Kd.R_mono (Kd.R_told (Kd.R_told (Kd.R_old (ra HO559.out) hb) (Kd.R_base ho0)) (Kd.R_base ho1)) (fun _ h_ => h_.1)); have n1_ := Aside0.mk (Kd.R_mono (Kd.R_told (Kd.R_told (Kd.R_old (ra HO562.out) hb) (Kd.R_base ho0)) (Kd.R_base ho1)) (fun _ h_ => h_.1)); have n2_ := Aside0.mk (Kd.R_mono (Kd.R_told (Kd.R_told (Kd.R_old (ra HO568.out) hb) (Kd.R_base ho0)) (Kd.R_base ho1)) (fun _ h_ => h_.1)); have n3_ := Aside0.mk (Kd.R_lower (Kd.R_new' (Kd.R_new' (Kd.R_new' ho0 (Kd.R_lt (ra HO559.out))) (Kd.R_lt (ra HO562.out))) (Kd.R_lt (ra HO568.out))) (below_size (bl1 HB GE556))); have n4_ := Aside0.mk (Kd.R_lower (Kd.R_new' (Kd.R_new' (Kd.R_new' ho1 (Kd.R_lt (ra HO559.out))) (Kd.R_lt (ra HO562.out))) (Kd.R_lt (ra HO568.out))) (below_size (bl1 HB GE556))); have n5_ := Aside0.mk (blk_below (ba BK556.out) hb); have n6_ := Aside0.mk (below_step (bl1 HB GE556) hb); clear HO559; clear HO562; clear HO568; clear BK556; clear HB; have HO559 := n0_; have HO562 := n1_; have HO568 := n2_; have HO572 := n3_; have HO574 := n4_; have BK556 := n5_; have HB := n6_; clear n0_ n1_ n2_ n3_ n4_ n5_ n6_; (try clear hb); (try clear hb2); (try clear hk); (try clear hi); (try clear ho0); (try clear ho1)) | ((with_reducible refine gate_callee (f := 79) rfl ?_); refine goesM (some 36) rfl rfl Try.func79 (by kernel_rfl) rfl #[.slice Ao53 t560.length co53, .slice Ao56 t566.length co56] rfl (by rfl) ?_; (with_reducible refine (sibylref01_Divide.calls k _ _ t560 _ _ t566 t575 t576 _ ?side1 ?side2 ?side3 ?side4 A24.out).mono ?_); (case side1 => exact ca ((Kd.R_reads' HO562.out).2.2)); (case side2 => exact (Kd.R_reads' HO562.out).2.1); (case side3 => exact ca ((Kd.R_reads' HO568.out).2.2)); (case side4 => exact (Kd.R_reads' HO568.out).2.1); rintro e w58 ⟨v577, v579, rfl, ho0, ho1, hb⟩; refine ⟨_, rfl, ?_⟩; have n0_ := Aside0.mk (Kd.R_mono (Kd.R_told (Kd.R_told (Kd.R_old (ra HO559.out) hb) (Kd.R_base ho0)) (Kd.R_base ho1)) (fun _ h_ => h_.1)); have n1_ := Aside0.mk (Kd.R_mono (Kd.R_told (Kd.R_told (Kd.R_old (ra HO562.out) hb) (Kd.R_base ho0)) (Kd.R_base ho1)) (fun _ h_ => h_.1)); have n2_ := Aside0.mk (Kd.R_mono (Kd.R_told (Kd.R_told (Kd.R_old (ra HO568.out) hb) (Kd.R_base ho0)) (Kd.R_base ho1)) (fun _ h_ => h_.1)); have n3_ := Aside0.mk (Kd.R_mono (Kd.R_told (Kd.R_told (Kd.R_old (ra HO572.out) hb) (Kd.R_base ho0)) (Kd.R_base ho1)) (fun _ h_ => h_.1)); have n4_ := Aside0.mk (Kd.R_mono (Kd.R_told (Kd.R_told (Kd.R_old (ra HO574.out) hb) (Kd.R_base ho0)) (Kd.R_base ho1)) (fun _ h_ => h_.1)); have n5_ := Aside0.mk (Kd.R_lower (Kd.R_new' (Kd.R_new' (Kd.R_new' (Kd.R_new' (Kd.R_new' ho0 (Kd.R_lt (ra HO559.out))) (Kd.R_lt (ra HO562.out))) (Kd.R_lt (ra HO568.out))) (Kd.R_lt (ra HO572.out))) (Kd.R_lt (ra HO574.out))) (below_size (bl1 HB GE556))); have n6_ := Aside0.mk (Kd.R_lower (Kd.R_new' (Kd.R_new' (Kd.R_new' (Kd.R_new' (Kd.R_new' ho1 (Kd.R_lt (ra HO559.out))) (Kd.R_lt (ra HO562.out))) (Kd.R_lt (ra HO568.out))) (Kd.R_lt (ra HO572.out))) (Kd.R_lt (ra HO574.out))) (below_size (bl1 HB GE556))); have n7_ := Aside0.mk (blk_below (ba BK556.out) hb); have n8_ := Aside0.mk (below_step (bl1 HB GE556) hb); clear HO559; clear HO562; clear HO568; clear HO572; clear HO574; clear BK556; clear HB; have HO559 := n0_; have HO562 := n1_; have HO568 := n2_; have HO572 := n3_; have HO574 := n4_; have HO578 := n5_; have HO580 := n6_; have BK556 := n7_; have HB := n8_; clear n0_ n1_ n2_ n3_ n4_ n5_ n6_ n7_ n8_; (try clear hb); (try clear hb2); (try clear hk); (try clear hi); (try clear ho0); (try clear ho1); obtain ⟨Ao59, co59, eo59⟩ := Kd.R_slice HO572.out; subst eo59; obtain ⟨Ao60, co60, eo60⟩ := Kd.R_slice HO578.out; subst eo60; obtain ⟨hcz61_0, hcz61_1, hcz61_2, hfz61_0, hfz61_1, hfz61_2⟩ := blk3 BK556.out))
     refine bodyPost_ret (results_ct rfl _ _ gb556 36 #[.bool a0, .slice Ao59 t569.length co59, .slice Ao60 t575.length co60] (0, 0) _ rfl (by exact bp BK556.out rfl) Try.underlying36 rfl (by kernel_rfl)) rfl ?_
     exact ⟨_, _, by first | rfl | simp [*], ra (Kd.R_mono (Kd.R_far (p := ⟨gb556, 2, none⟩) (Kd.R_far (p := ⟨gb556, 1, none⟩) (Kd.R_far (p := ⟨gb556, 0, none⟩) (Kd.R_types HO572.out BK556.out (by decide)) (fun _ hk => hk.2) (.bool a0)) (fun _ hk => hk.2) (.slice Ao59 t569.length co59)) (fun _ hk => hk.2) (.slice Ao60 t575.length co60)) (fun _ hk => hk.1.1.2)), ra (Kd.R_mono (Kd.R_far (p := ⟨gb556, 2, none⟩) (Kd.R_far (p := ⟨gb556, 1, none⟩) (Kd.R_far (p := ⟨gb556, 0, none⟩) (Kd.R_types HO578.out BK556.out (by decide)) (fun _ hk => hk.2) (.bool a0)) (fun _ hk => hk.2) (.slice Ao59 t569.length co59)) (fun _ hk => hk.2) (.slice Ao60 t575.length co60)) (fun _ hk => hk.1.1.2)), bl1 HB GE556⟩
def sibylref02_Of.f (k : Nat) (a0 : Int) : Option (Bool × List Int × List Int) := if a0 < 0 then ((sibylref02_Make.f k (decide (a0 < 0)) (([(Int.tmod (IntKind.u64.wrap (-(IntKind.u64.wrap (a0)))) 4294967296) % 4294967296, (IntKind.u64.wrap (Int.tdiv (IntKind.u64.wrap (-(IntKind.u64.wrap (a0)))) 4294967296)) % 4294967296] : List Int)) (([1] : List Int))).bind fun bt588 => (some (bt588.1, bt588.2.1, bt588.2.2.1))) else ((sibylref02_Make.f k (decide (a0 < 0)) (([(Int.tmod (IntKind.u64.wrap (a0)) 4294967296) % 4294967296, (IntKind.u64.wrap (Int.tdiv (IntKind.u64.wrap (a0)) 4294967296)) % 4294967296] : List Int)) (([1] : List Int))).bind fun bt603 => (some (bt603.1, bt603.2.1, bt603.2.2.1)))
set_option maxHeartbeats 8000000 in
set_option maxRecDepth 100000 in
theorem sibylref02_Of.calls (k : Nat) (a0 : Int) (r1 : Bool) (r2 : List Int) (r3 : List Int) (w : World) (h : sibylref02_Of.f k a0 = some (r1, r2, r3)) :
  Calls Try.prog 34 #[.int .i64 a0] w fun e w' => ∃ v1_ v2_ : Value, e = .returned (.agg #[.bool r1, v1_, v2_]) ∧ Kd.R (Kd.int .u32) 99 w' w.heap.size (fun k_ => some k_ ≠ (v2_ : Value).ownBlock) v1_ r2 ∧ Kd.R (Kd.int .u32) 99 w' w.heap.size (fun k_ => some k_ ≠ (v1_ : Value).ownBlock) v2_ r3 ∧ Below w.heap.size w w' := by
 have hu36 := Try.underlying36
 have HB := Aside0.mk (Below.refl w.heap.size w)
 have H : (if a0 < 0 then ((sibylref02_Make.f k (decide (a0 < 0)) (([(Int.tmod (IntKind.u64.wrap (-(IntKind.u64.wrap (a0)))) 4294967296) % 4294967296, (IntKind.u64.wrap (Int.tdiv (IntKind.u64.wrap (-(IntKind.u64.wrap (a0)))) 4294967296)) % 4294967296] : List Int)) (([1] : List Int))).bind fun bt588 => (some (bt588.1, bt588.2.1, bt588.2.2.1))) else ((sibylref02_Make.f k (decide (a0 < 0)) (([(Int.tmod (IntKind.u64.wrap (a0)) 4294967296) % 4294967296, (IntKind.u64.wrap (Int.tdiv (IntKind.u64.wrap (a0)) 4294967296)) % 4294967296] : List Int)) (([1] : List Int))).bind fun bt603 => (some (bt603.1, bt603.2.1, bt603.2.2.1)))) = some (r1, r2, r3) := h
 clear h
 by_cases c2 : a0 < 0
 ·rw [if_pos c2] at H
  have c2b0 : decide (a0 < 0) = true := decide_eq_true c2
  clear c2
  obtain ⟨y582, hy582⟩ : ∃ y_ : List Int, y_ = (([(Int.tmod (IntKind.u64.wrap (-(IntKind.u64.wrap (a0)))) 4294967296) % 4294967296, (IntKind.u64.wrap (Int.tdiv (IntKind.u64.wrap (-(IntKind.u64.wrap (a0)))) 4294967296)) % 4294967296] : List Int)) := ⟨_, rfl⟩
  replace H : ((sibylref02_Make.f k (decide (a0 < 0)) y582 (([1] : List Int))).bind fun bt588 => (some (bt588.1, bt588.2.1, bt588.2.2.1))) = some (r1, r2, r3) := by rw [hy582]; exact H
  have Ny582 := Aside0.mk hy582
  clear hy582
  obtain ⟨y585, hy585⟩ : ∃ y_ : List Int, y_ = (([1] : List Int)) := ⟨_, rfl⟩
  replace H : ((sibylref02_Make.f k (decide (a0 < 0)) y582 y585).bind fun bt588 => (some (bt588.1, bt588.2.1, bt588.2.2.1))) = some (r1, r2, r3) := by rw [hy585]; exact H
  have Ny585 := Aside0.mk hy585
  clear hy585
  obtain ⟨⟨t588, t589, t592, t595⟩, A3, H⟩ := bindA H
  dsimp only at H
  simp only [Option.some.injEq, Prod.mk.injEq] at H
  obtain ⟨rfl, rfl, rfl⟩ := H
  go_enter Try.func34, Try.ntmps34
  rw [c2b0] at A3
  go_wp2_with (first | ((with_reducible refine gate_dst (N := 2) rfl ?_); refine box_event ?hg (N := 2) ?hd (cs := #[.bool false, .slice none 0 0, .slice none 0 0]) (t := 36) ?hr ?_; (case hd => rfl); (case hg => rfl); (case hr => first | (go_simp; done) | (go_simp; rfl)); intro gb581 hg w4 hbox hb; have n_ := mk4 (below_step (bl HB) hb) (hbox) ((by rw [hg]; exact (below_size (bl HB)) : w.heap.size ≤ gb581)) ((by rw [hg]; exact (below_size (bl HB)) : w.heap.size ≤ gb581)); clear HB; obtain ⟨HB, BK581, GW581, GE581⟩ := n_; clear hb hbox hg) | ((with_reducible refine gate_dst (N := 21) rfl ?_); refine Kd.R_lit (Kd.int .u32) _ 99 ?hg (N := 21) ?hd (xs := ([(Int.tmod (IntKind.u64.wrap (-(IntKind.u64.wrap (a0)))) 4294967296) % 4294967296, (IntKind.u64.wrap (Int.tdiv (IntKind.u64.wrap (-(IntKind.u64.wrap (a0)))) 4294967296)) % 4294967296] : List Int)) (inner := [.int .u32 ((Int.tmod (IntKind.u64.wrap (-(IntKind.u64.wrap (a0)))) 4294967296) % 4294967296), .int .u32 ((IntKind.u64.wrap (Int.tdiv (IntKind.u64.wrap (-(IntKind.u64.wrap (a0)))) 4294967296)) % 4294967296)]) (ok := fun _ => True) (okp := fun _ => True) ?hr ?hp (fun _ hk => hk) trivial (Below.refl _ _) (Nat.le_refl _) (by simp) ?_; (case hd => rfl); (case hg => rfl); (case hr => first | (go_simp; done) | (go_simp; rfl)); (case hp => exact (Reps.one (show Kd.M (Kd.int .u32) _ _ _ ((Int.tmod (IntKind.u64.wrap (-(IntKind.u64.wrap (a0)))) 4294967296) % 4294967296) [.int .u32 ((Int.tmod (IntKind.u64.wrap (-(IntKind.u64.wrap (a0)))) 4294967296) % 4294967296)] from rfl) (Reps.one (show Kd.M (Kd.int .u32) _ _ _ ((IntKind.u64.wrap (Int.tdiv (IntKind.u64.wrap (-(IntKind.u64.wrap (a0)))) 4294967296)) % 4294967296) [.int .u32 ((IntKind.u64.wrap (Int.tdiv (IntKind.u64.wrap (-(IntKind.u64.wrap (a0)))) 4294967296)) % 4294967296)] from rfl) (Reps.none _ _)))); intro v583 w5 ho6 hb hg_ hnew_; clear hg_ hnew_; (first | rw [← Ny582.out] at ho6 | (simp only [Int.reduceToNat] at ho6; rw [← Ny582.out] at ho6)); have n_ := mk3 (Kd.R_lower ho6 (below_size (bl1 HB GE581))) (blk_below (ba BK581.out) hb) (below_step (bl1 HB GE581) hb); clear BK581 HB; obtain ⟨HO584, BK581, HB⟩ := n_; clear hb ho6) | ((with_reducible refine gate_dst (N := 22) rfl ?_); refine Kd.R_lit (Kd.int .u32) _ 99 ?hg (N := 22) ?hd (xs := ([1] : List Int)) (inner := [.int .u32 1]) (ok := fun _ => True) (okp := fun _ => True) ?hr ?hp (fun _ hk => hk) trivial (Below.refl _ _) (Nat.le_refl _) (by simp) ?_; (case hd => rfl); (case hg => rfl); (case hr => first | (go_simp; done) | (go_simp; rfl)); (case hp => exact (Reps.one (show Kd.M (Kd.int .u32) _ _ _ 1 [.int .u32 1] from rfl) (Reps.none _ _))); intro v586 w7 ho8 hb hg_ hnew_; clear hg_ hnew_; (first | rw [← Ny585.out] at ho8 | (simp only [Int.reduceToNat] at ho8; rw [← Ny585.out] at ho8)); have n_ := mk4 (Kd.R_elder' (ra HO584.out) (Kd.R_base ho8) hb) (Kd.R_lower (Kd.R_new' ho8 (Kd.R_lt (ra HO584.out))) (below_size (bl1 HB GE581))) (blk_below (ba BK581.out) hb) (below_step (bl1 HB GE581) hb); clear HO584 BK581 HB; obtain ⟨HO584, HO587, BK581, HB⟩ := n_; clear hb ho8; obtain ⟨Ao9, co9, eo9⟩ := Kd.R_slice HO584.out; subst eo9; obtain ⟨Ao10, co10, eo10⟩ := Kd.R_slice HO587.out; subst eo10) | ((with_reducible refine gate_callee (f := 68) rfl ?_); refine goesM (some 23) rfl rfl Try.func68 (by kernel_rfl) rfl #[.bool (true), .slice Ao9 y582.length co9, .slice Ao10 y585.length co10] rfl (by rfl) ?_; (with_reducible refine (sibylref02_Make.calls k (true) _ _ y582 _ _ y585 t588 t589 t592 t595 _ ?side1 ?side2 ?side3 ?side4 A3.out).mono ?_); (case side1 => exact ca ((Kd.R_reads' HO584.out).2.2)); (case side2 => exact (Kd.R_reads' HO584.out).2.1); (case side3 => exact ca ((Kd.R_reads' HO587.out).2.2)); (case side4 => exact (Kd.R_reads' HO587.out).2.1); rintro e w11 ⟨v590, v593, rfl, ho0, ho1, hb⟩; refine ⟨_, rfl, ?_⟩; have n_ := mk6 (Kd.R_mono (Kd.R_told (Kd.R_told (Kd.R_old (ra HO584.out) hb) (Kd.R_base ho0)) (Kd.R_base ho1)) (fun _ h_ => h_.1)) (Kd.R_mono (Kd.R_told (Kd.R_told (Kd.R_old (ra HO587.out) hb) (Kd.R_base ho0)) (Kd.R_base ho1)) (fun _ h_ => h_.1)) (Kd.R_lower (Kd.R_new' (Kd.R_new' ho0 (Kd.R_lt (ra HO584.out))) (Kd.R_lt (ra HO587.out))) (below_size (bl1 HB GE581))) (Kd.R_lower (Kd.R_new' (Kd.R_new' ho1 (Kd.R_lt (ra HO584.out))) (Kd.R_lt (ra HO587.out))) (below_size (bl1 HB GE581))) (blk_below (ba BK581.out) hb) (below_step (bl1 HB GE581) hb); clear HO584 HO587 BK581 HB; obtain ⟨HO584, HO587, HO591, HO594, BK581, HB⟩ := n_; (try clear hb); (try clear hb2); (try clear hk); (try clear hi); (try clear ho0); (try clear ho1)) | ((with_reducible refine gate_dst (N := 4) rfl ?_); refine box_event ?hg (N := 4) ?hd (cs := #[.bool false, .slice none 0 0, .slice none 0 0]) (t := 36) ?hr ?_; (case hd => rfl); (case hg => rfl); (case hr => first | (go_simp; done) | (go_simp; rfl)); intro gb596 hg w12 hbox hb; have n0_ := Aside0.mk (Kd.R_below (ra HO584.out) hb); have n1_ := Aside0.mk (Kd.R_below (ra HO587.out) hb); have n2_ := Aside0.mk (Kd.R_below (ra HO591.out) hb); have n3_ := Aside0.mk (Kd.R_below (ra HO594.out) hb); have n4_ := Aside0.mk (blk_below (ba BK581.out) hb); have n5_ := Aside0.mk (below_step (bl1 HB GE581) hb); have n6_ := Aside0.mk (hbox); have n7_ := Aside0.mk ((by rw [hg]; exact (below_size (bl1 HB GE581)) : w.heap.size ≤ gb596)); have n8_ := Aside0.mk ((by rw [hg]; exact (below_size (bl1 HB GE581)) : w.heap.size ≤ gb596)); have n9_ := Aside0.mk ((by rw [hg]; exact Nat.ne_of_lt (blk_lt (g := gb581) (o := .cells #[.bool false, .slice none 0 0, .slice none 0 0] 36 (0, 0)) (ba BK581.out)) : gb581 ≠ gb596)); have n10_ := Aside0.mk ((by rw [hg]; exact Nat.ne_of_gt (blk_lt (g := gb581) (o := .cells #[.bool false, .slice none 0 0, .slice none 0 0] 36 (0, 0)) (ba BK581.out)) : gb596 ≠ gb581)); clear HO584; clear HO587; clear HO591; clear HO594; clear BK581; clear HB; have HO584 := n0_; have HO587 := n1_; have HO591 := n2_; have HO594 := n3_; have BK581 := n4_; have HB := n5_; have BK596 := n6_; have GW596 := n7_; have GE596 := n8_; have NB581_596 := n9_; have NB596_581 := n10_; clear n0_ n1_ n2_ n3_ n4_ n5_ n6_ n7_ n8_ n9_ n10_; clear hb hbox hg; have hnb13 := NB596_581.out; have hnc13 := NB581_596.out; obtain ⟨hcz14_0, hcz14_1, hcz14_2, hfz14_0, hfz14_1, hfz14_2⟩ := blk3 BK596.out; obtain ⟨Ao15, co15, eo15⟩ := Kd.R_slice HO591.out; subst eo15; obtain ⟨Ao16, co16, eo16⟩ := Kd.R_slice HO594.out; subst eo16; obtain ⟨hcz17_0, hcz17_1, hcz17_2, hfz17_0, hfz17_1, hfz17_2⟩ := blk3 BK581.out))
  refine bodyPost_ret (results_cell_row rfl _ _ gb581 36 #[.bool t588, .slice Ao15 t589.length co15, .slice Ao16 t592.length co16] (0, 0) _ rfl (by (with_reducible repeat (first | refine blk_drewN ?_ _ | refine blk_drew ?_ | refine blk_alloc ?_ _)); refine blk_put (cs := #[.bool t588, .slice Ao15 t589.length co15, .slice none 0 0]) ?_ 2 _ rfl; (with_reducible repeat (first | refine blk_drewN ?_ _ | refine blk_drew ?_ | refine blk_alloc ?_ _)); refine blk_put (cs := #[.bool t588, .slice none 0 0, .slice none 0 0]) ?_ 1 _ rfl; (with_reducible repeat (first | refine blk_drewN ?_ _ | refine blk_drew ?_ | refine blk_alloc ?_ _)); refine blk_put (cs := #[.bool false, .slice none 0 0, .slice none 0 0]) ?_ 0 _ rfl; (with_reducible repeat (first | refine blk_drewN ?_ _ | refine blk_drew ?_ | refine blk_alloc ?_ _)); refine blk_far ?_ NB581_596.out _; (with_reducible repeat (first | refine blk_drewN ?_ _ | refine blk_drew ?_ | refine blk_alloc ?_ _)); refine blk_far ?_ NB581_596.out _; (with_reducible repeat (first | refine blk_drewN ?_ _ | refine blk_drew ?_ | refine blk_alloc ?_ _)); refine blk_far ?_ NB581_596.out _; (with_reducible repeat (first | refine blk_drewN ?_ _ | refine blk_drew ?_ | refine blk_alloc ?_ _)); exact BK581.out) Try.underlying36 rfl (by kernel_rfl)) rfl ?_
  exact ⟨_, _, by first | rfl | simp [*], ra (Kd.R_mono (Kd.R_far (p := ⟨gb581, 2, none⟩) (Kd.R_far (p := ⟨gb581, 1, none⟩) (Kd.R_far (p := ⟨gb581, 0, none⟩) (Kd.R_far (p := ⟨gb596, 2, none⟩) (Kd.R_far (p := ⟨gb596, 1, none⟩) (Kd.R_far (p := ⟨gb596, 0, none⟩) (Kd.R_types (Kd.R_types HO591.out BK596.out (by decide)) BK581.out (by decide)) (fun _ hk => hk.1.2) (.bool t588)) (fun _ hk => hk.1.2) (.slice Ao15 t589.length co15)) (fun _ hk => hk.1.2) (.slice Ao16 t592.length co16)) (fun _ hk => hk.2) (.bool t588)) (fun _ hk => hk.2) (.slice Ao15 t589.length co15)) (fun _ hk => hk.2) (.slice Ao16 t592.length co16)) (fun _ hk => hk.1.1.1.1)), ra (Kd.R_mono (Kd.R_far (p := ⟨gb581, 2, none⟩) (Kd.R_far (p := ⟨gb581, 1, none⟩) (Kd.R_far (p := ⟨gb581, 0, none⟩) (Kd.R_far (p := ⟨gb596, 2, none⟩) (Kd.R_far (p := ⟨gb596, 1, none⟩) (Kd.R_far (p := ⟨gb596, 0, none⟩) (Kd.R_types (Kd.R_types HO594.out BK596.out (by decide)) BK581.out (by decide)) (fun _ hk => hk.1.2) (.bool t588)) (fun _ hk => hk.1.2) (.slice Ao15 t589.length co15)) (fun _ hk => hk.1.2) (.slice Ao16 t592.length co16)) (fun _ hk => hk.2) (.bool t588)) (fun _ hk => hk.2) (.slice Ao15 t589.length co15)) (fun _ hk => hk.2) (.slice Ao16 t592.length co16)) (fun _ hk => hk.1.1.1.1)), bl2 HB GE581 GE596⟩
 ·rw [if_neg c2] at H
  have c2b0 : decide (a0 < 0) = false := decide_eq_false c2
  clear c2
  obtain ⟨y597, hy597⟩ : ∃ y_ : List Int, y_ = (([(Int.tmod (IntKind.u64.wrap (a0)) 4294967296) % 4294967296, (IntKind.u64.wrap (Int.tdiv (IntKind.u64.wrap (a0)) 4294967296)) % 4294967296] : List Int)) := ⟨_, rfl⟩
  replace H : ((sibylref02_Make.f k (decide (a0 < 0)) y597 (([1] : List Int))).bind fun bt603 => (some (bt603.1, bt603.2.1, bt603.2.2.1))) = some (r1, r2, r3) := by rw [hy597]; exact H
  have Ny597 := Aside0.mk hy597
  clear hy597
  obtain ⟨y600, hy600⟩ : ∃ y_ : List Int, y_ = (([1] : List Int)) := ⟨_, rfl⟩
  replace H : ((sibylref02_Make.f k (decide (a0 < 0)) y597 y600).bind fun bt603 => (some (bt603.1, bt603.2.1, bt603.2.2.1))) = some (r1, r2, r3) := by rw [hy600]; exact H
  have Ny600 := Aside0.mk hy600
  clear hy600
  obtain ⟨⟨t603, t604, t607, t610⟩, A18, H⟩ := bindA H
  dsimp only at H
  simp only [Option.some.injEq, Prod.mk.injEq] at H
  obtain ⟨rfl, rfl, rfl⟩ := H
  go_enter Try.func34, Try.ntmps34
  rw [c2b0] at A18
  go_wp2_with (first | ((with_reducible refine gate_dst (N := 2) rfl ?_); refine box_event ?hg (N := 2) ?hd (cs := #[.bool false, .slice none 0 0, .slice none 0 0]) (t := 36) ?hr ?_; (case hd => rfl); (case hg => rfl); (case hr => first | (go_simp; done) | (go_simp; rfl)); intro gb581 hg w19 hbox hb; have n_ := mk4 (below_step (bl HB) hb) (hbox) ((by rw [hg]; exact (below_size (bl HB)) : w.heap.size ≤ gb581)) ((by rw [hg]; exact (below_size (bl HB)) : w.heap.size ≤ gb581)); clear HB; obtain ⟨HB, BK581, GW581, GE581⟩ := n_; clear hb hbox hg) | ((with_reducible refine gate_dst (N := 21) rfl ?_); refine Kd.R_lit (Kd.int .u32) _ 99 ?hg (N := 21) ?hd (xs := ([(Int.tmod (IntKind.u64.wrap (a0)) 4294967296) % 4294967296, (IntKind.u64.wrap (Int.tdiv (IntKind.u64.wrap (a0)) 4294967296)) % 4294967296] : List Int)) (inner := [.int .u32 ((Int.tmod (IntKind.u64.wrap (a0)) 4294967296) % 4294967296), .int .u32 ((IntKind.u64.wrap (Int.tdiv (IntKind.u64.wrap (a0)) 4294967296)) % 4294967296)]) (ok := fun _ => True) (okp := fun _ => True) ?hr ?hp (fun _ hk => hk) trivial (Below.refl _ _) (Nat.le_refl _) (by simp) ?_; (case hd => rfl); (case hg => rfl); (case hr => first | (go_simp; done) | (go_simp; rfl)); (case hp => exact (Reps.one (show Kd.M (Kd.int .u32) _ _ _ ((Int.tmod (IntKind.u64.wrap (a0)) 4294967296) % 4294967296) [.int .u32 ((Int.tmod (IntKind.u64.wrap (a0)) 4294967296) % 4294967296)] from rfl) (Reps.one (show Kd.M (Kd.int .u32) _ _ _ ((IntKind.u64.wrap (Int.tdiv (IntKind.u64.wrap (a0)) 4294967296)) % 4294967296) [.int .u32 ((IntKind.u64.wrap (Int.tdiv (IntKind.u64.wrap (a0)) 4294967296)) % 4294967296)] from rfl) (Reps.none _ _)))); intro v598 w20 ho21 hb hg_ hnew_; clear hg_ hnew_; (first | rw [← Ny597.out] at ho21 | (simp only [Int.reduceToNat] at ho21; rw [← Ny597.out] at ho21)); have n_ := mk3 (Kd.R_lower ho21 (below_size (bl1 HB GE581))) (blk_below (ba BK581.out) hb) (below_step (bl1 HB GE581) hb); clear BK581 HB; obtain ⟨HO599, BK581, HB⟩ := n_; clear hb ho21) | ((with_reducible refine gate_dst (N := 22) rfl ?_); refine Kd.R_lit (Kd.int .u32) _ 99 ?hg (N := 22) ?hd (xs := ([1] : List Int)) (inner := [.int .u32 1]) (ok := fun _ => True) (okp := fun _ => True) ?hr ?hp (fun _ hk => hk) trivial (Below.refl _ _) (Nat.le_refl _) (by simp) ?_; (case hd => rfl); (case hg => rfl); (case hr => first | (go_simp; done) | (go_simp; rfl)); (case hp => exact (Reps.one (show Kd.M (Kd.int .u32) _ _ _ 1 [.int .u32 1] from rfl) (Reps.none _ _))); intro v601 w22 ho23 hb hg_ hnew_; clear hg_ hnew_; (first | rw [← Ny600.out] at ho23 | (simp only [Int.reduceToNat] at ho23; rw [← Ny600.out] at ho23)); have n_ := mk4 (Kd.R_elder' (ra HO599.out) (Kd.R_base ho23) hb) (Kd.R_lower (Kd.R_new' ho23 (Kd.R_lt (ra HO599.out))) (below_size (bl1 HB GE581))) (blk_below (ba BK581.out) hb) (below_step (bl1 HB GE581) hb); clear HO599 BK581 HB; obtain ⟨HO599, HO602, BK581, HB⟩ := n_; clear hb ho23; obtain ⟨Ao24, co24, eo24⟩ := Kd.R_slice HO599.out; subst eo24; obtain ⟨Ao25, co25, eo25⟩ := Kd.R_slice HO602.out; subst eo25) | ((with_reducible refine gate_callee (f := 68) rfl ?_); refine goesM (some 23) rfl rfl Try.func68 (by kernel_rfl) rfl #[.bool (false), .slice Ao24 y597.length co24, .slice Ao25 y600.length co25] rfl (by rfl) ?_; (with_reducible refine (sibylref02_Make.calls k (false) _ _ y597 _ _ y600 t603 t604 t607 t610 _ ?side1 ?side2 ?side3 ?side4 A18.out).mono ?_); (case side1 => exact ca ((Kd.R_reads' HO599.out).2.2)); (case side2 => exact (Kd.R_reads' HO599.out).2.1); (case side3 => exact ca ((Kd.R_reads' HO602.out).2.2)); (case side4 => exact (Kd.R_reads' HO602.out).2.1); rintro e w26 ⟨v605, v608, rfl, ho0, ho1, hb⟩; refine ⟨_, rfl, ?_⟩; have n_ := mk6 (Kd.R_mono (Kd.R_told (Kd.R_told (Kd.R_old (ra HO599.out) hb) (Kd.R_base ho0)) (Kd.R_base ho1)) (fun _ h_ => h_.1)) (Kd.R_mono (Kd.R_told (Kd.R_told (Kd.R_old (ra HO602.out) hb) (Kd.R_base ho0)) (Kd.R_base ho1)) (fun _ h_ => h_.1)) (Kd.R_lower (Kd.R_new' (Kd.R_new' ho0 (Kd.R_lt (ra HO599.out))) (Kd.R_lt (ra HO602.out))) (below_size (bl1 HB GE581))) (Kd.R_lower (Kd.R_new' (Kd.R_new' ho1 (Kd.R_lt (ra HO599.out))) (Kd.R_lt (ra HO602.out))) (below_size (bl1 HB GE581))) (blk_below (ba BK581.out) hb) (below_step (bl1 HB GE581) hb); clear HO599 HO602 BK581 HB; obtain ⟨HO599, HO602, HO606, HO609, BK581, HB⟩ := n_; (try clear hb); (try clear hb2); (try clear hk); (try clear hi); (try clear ho0); (try clear ho1)) | ((with_reducible refine gate_dst (N := 4) rfl ?_); refine box_event ?hg (N := 4) ?hd (cs := #[.bool false, .slice none 0 0, .slice none 0 0]) (t := 36) ?hr ?_; (case hd => rfl); (case hg => rfl); (case hr => first | (go_simp; done) | (go_simp; rfl)); intro gb611 hg w27 hbox hb; have n0_ := Aside0.mk (Kd.R_below (ra HO599.out) hb); have n1_ := Aside0.mk (Kd.R_below (ra HO602.out) hb); have n2_ := Aside0.mk (Kd.R_below (ra HO606.out) hb); have n3_ := Aside0.mk (Kd.R_below (ra HO609.out) hb); have n4_ := Aside0.mk (blk_below (ba BK581.out) hb); have n5_ := Aside0.mk (below_step (bl1 HB GE581) hb); have n6_ := Aside0.mk (hbox); have n7_ := Aside0.mk ((by rw [hg]; exact (below_size (bl1 HB GE581)) : w.heap.size ≤ gb611)); have n8_ := Aside0.mk ((by rw [hg]; exact (below_size (bl1 HB GE581)) : w.heap.size ≤ gb611)); have n9_ := Aside0.mk ((by rw [hg]; exact Nat.ne_of_lt (blk_lt (g := gb581) (o := .cells #[.bool false, .slice none 0 0, .slice none 0 0] 36 (0, 0)) (ba BK581.out)) : gb581 ≠ gb611)); have n10_ := Aside0.mk ((by rw [hg]; exact Nat.ne_of_gt (blk_lt (g := gb581) (o := .cells #[.bool false, .slice none 0 0, .slice none 0 0] 36 (0, 0)) (ba BK581.out)) : gb611 ≠ gb581)); clear HO599; clear HO602; clear HO606; clear HO609; clear BK581; clear HB; have HO599 := n0_; have HO602 := n1_; have HO606 := n2_; have HO609 := n3_; have BK581 := n4_; have HB := n5_; have BK611 := n6_; have GW611 := n7_; have GE611 := n8_; have NB581_611 := n9_; have NB611_581 := n10_; clear n0_ n1_ n2_ n3_ n4_ n5_ n6_ n7_ n8_ n9_ n10_; clear hb hbox hg; have hnb28 := NB611_581.out; have hnc28 := NB581_611.out; obtain ⟨hcz29_0, hcz29_1, hcz29_2, hfz29_0, hfz29_1, hfz29_2⟩ := blk3 BK611.out; obtain ⟨Ao30, co30, eo30⟩ := Kd.R_slice HO606.out; subst eo30; obtain ⟨Ao31, co31, eo31⟩ := Kd.R_slice HO609.out; subst eo31; obtain ⟨hcz32_0, hcz32_1, hcz32_2, hfz32_0, hfz32_1, hfz32_2⟩ := blk3 BK581.out))
  refine bodyPost_ret (results_cell_row rfl _ _ gb581 36 #[.bool t603, .slice Ao30 t604.length co30, .slice Ao31 t607.length co31] (0, 0) _ rfl (by (with_reducible repeat (first | refine blk_drewN ?_ _ | refine blk_drew ?_ | refine blk_alloc ?_ _)); refine blk_put (cs := #[.bool t603, .slice Ao30 t604.length co30, .slice none 0 0]) ?_ 2 _ rfl; (with_reducible repeat (first | refine blk_drewN ?_ _ | refine blk_drew ?_ | refine blk_alloc ?_ _)); refine blk_put (cs := #[.bool t603, .slice none 0 0, .slice none 0 0]) ?_ 1 _ rfl; (with_reducible repeat (first | refine blk_drewN ?_ _ | refine blk_drew ?_ | refine blk_alloc ?_ _)); refine blk_put (cs := #[.bool false, .slice none 0 0, .slice none 0 0]) ?_ 0 _ rfl; (with_reducible repeat (first | refine blk_drewN ?_ _ | refine blk_drew ?_ | refine blk_alloc ?_ _)); refine blk_far ?_ NB581_611.out _; (with_reducible repeat (first | refine blk_drewN ?_ _ | refine blk_drew ?_ | refine blk_alloc ?_ _)); refine blk_far ?_ NB581_611.out _; (with_reducible repeat (first | refine blk_drewN ?_ _ | refine blk_drew ?_ | refine blk_alloc ?_ _)); refine blk_far ?_ NB581_611.out _; (with_reducible repeat (first | refine blk_drewN ?_ _ | refine blk_drew ?_ | refine blk_alloc ?_ _)); exact BK581.out) Try.underlying36 rfl (by kernel_rfl)) rfl ?_
  exact ⟨_, _, by first | rfl | simp [*], ra (Kd.R_mono (Kd.R_far (p := ⟨gb581, 2, none⟩) (Kd.R_far (p := ⟨gb581, 1, none⟩) (Kd.R_far (p := ⟨gb581, 0, none⟩) (Kd.R_far (p := ⟨gb611, 2, none⟩) (Kd.R_far (p := ⟨gb611, 1, none⟩) (Kd.R_far (p := ⟨gb611, 0, none⟩) (Kd.R_types (Kd.R_types HO606.out BK611.out (by decide)) BK581.out (by decide)) (fun _ hk => hk.1.2) (.bool t603)) (fun _ hk => hk.1.2) (.slice Ao30 t604.length co30)) (fun _ hk => hk.1.2) (.slice Ao31 t607.length co31)) (fun _ hk => hk.2) (.bool t603)) (fun _ hk => hk.2) (.slice Ao30 t604.length co30)) (fun _ hk => hk.2) (.slice Ao31 t607.length co31)) (fun _ hk => hk.1.1.1.1)), ra (Kd.R_mono (Kd.R_far (p := ⟨gb581, 2, none⟩) (Kd.R_far (p := ⟨gb581, 1, none⟩) (Kd.R_far (p := ⟨gb581, 0, none⟩) (Kd.R_far (p := ⟨gb611, 2, none⟩) (Kd.R_far (p := ⟨gb611, 1, none⟩) (Kd.R_far (p := ⟨gb611, 0, none⟩) (Kd.R_types (Kd.R_types HO609.out BK611.out (by decide)) BK581.out (by decide)) (fun _ hk => hk.1.2) (.bool t603)) (fun _ hk => hk.1.2) (.slice Ao30 t604.length co30)) (fun _ hk => hk.1.2) (.slice Ao31 t607.length co31)) (fun _ hk => hk.2) (.bool t603)) (fun _ hk => hk.2) (.slice Ao30 t604.length co30)) (fun _ hk => hk.2) (.slice Ao31 t607.length co31)) (fun _ hk => hk.1.1.1.1)), bl2 HB GE581 GE611⟩
def sibylref02_Div.j0 : Nat → Bool → Bool → List Int → List Int → Bool → List Int → List Int → Option (Bool × List Int × List Int × Int)
 | 0, _, _, _, _, _, _, _ => none
 | k + 1, x13, x613000, x613001, x613002, x614000, x614001, x614002 => if x13 = true then (some (false, ([] : List Int), ([] : List Int), 20)) else (if (x614001.length : Int) = 0 then (some (false, ([] : List Int), ([] : List Int), 10)) else ((sibylref01_Times.f k x613001 x614002).bind fun t617 => ((sibylref01_Times.f k x613002 x614001).bind fun t620 => ((sibylref02_Make.f k (x613000 != x614000) t617 t620).bind fun bt623 => (some (bt623.1, bt623.2.1, bt623.2.2.1, bt623.2.2.2))))))
def sibylref02_Div.f (k : Nat) (a0_0 : Bool) (l0_1 : List Int) (l0_2 : List Int) (a1_0 : Bool) (l1_1 : List Int) (l1_2 : List Int) : Option (Bool × List Int × List Int × Int) := (sibylref02_Form.f k a0_0 l0_1 l0_2).bind fun t615 => (if t615 = true then ((sibylref02_Form.f k a1_0 l1_1 l1_2).bind fun t616 => (sibylref02_Div.j0 k (!t616) a0_0 l0_1 l0_2 a1_0 l1_1 l1_2)) else (sibylref02_Div.j0 k true a0_0 l0_1 l0_2 a1_0 l1_1 l1_2))
def sibylref02_Div.T5 : Bool × List (List Nat × List Nat) := (true, [([], []), ([0], [0]), ([], []), ([2], [2]), ([1, 3], [1, 3]), ([], []), ([5], [5]), ([], []), ([7], [7]), ([6, 8], [6, 8]), ([], []), ([10], [10]), ([], []), ([12], [12]), ([11, 13, 9], [11, 13]), ([4, 9, 14, 14], [4, 9, 14]), ([15], [15]), ([15], [15]), ([16, 15, 0, 1, 2, 3, 4, 5, 6, 7, 8, 9, 10, 11, 12, 13, 14, 15, 16, 17], [16]), ([17, 18, 0, 1, 2, 3, 4, 5, 6, 7, 8, 9, 10, 11, 12, 13, 14, 15, 16, 17, 18], [17])])
def sibylref02_Div.B5 : List Nat := [0, 1, 0, 4, 15, 0, 32, 0, 128, 480, 0, 1024, 0, 4096, 16352, 32767, 65535, 65535, 262143, 524287]
theorem sibylref02_Div.tab5 : rtab .any (opsOf Try.f35 5) = sibylref02_Div.T5 := by kernel_rfl
theorem sibylref02_Div.bits5 : waitsOk sibylref02_Div.T5.2 sibylref02_Div.B5 = true := by kernel_rfl
set_option maxHeartbeats 8000000 in
set_option maxRecDepth 100000 in
theorem sibylref02_Div.calls (k : Nat) (a0_0 : Bool) (A0_1 : Option Addr) (c0_1 : Nat) (l0_1 : List Int) (A0_2 : Option Addr) (c0_2 : Nat) (l0_2 : List Int) (a1_0 : Bool) (A1_1 : Option Addr) (c1_1 : Nat) (l1_1 : List Int) (A1_2 : Option Addr) (c1_2 : Nat) (l1_2 : List Int) (r1 : Bool) (r2 : List Int) (r3 : List Int) (r4 : Int) (w : World) (hr0_1 : Kd.C (Kd.int .u32) w A0_1 l0_1.length l0_1) (hc0_1 : l0_1.length ≤ c0_1) (hr0_2 : Kd.C (Kd.int .u32) w A0_2 l0_2.length l0_2) (hc0_2 : l0_2.length ≤ c0_2) (hr1_1 : Kd.C (Kd.int .u32) w A1_1 l1_1.length l1_1) (hc1_1 : l1_1.length ≤ c1_1) (hr1_2 : Kd.C (Kd.int .u32) w A1_2 l1_2.length l1_2) (hc1_2 : l1_2.length ≤ c1_2) (h : sibylref02_Div.f k a0_0 l0_1 l0_2 a1_0 l1_1 l1_2 = some (r1, r2, r3, r4)) :
  Calls Try.prog 35 #[.agg #[.bool a0_0, .slice A0_1 l0_1.length c0_1, .slice A0_2 l0_2.length c0_2], .agg #[.bool a1_0, .slice A1_1 l1_1.length c1_1, .slice A1_2 l1_2.length c1_2]] w fun e w' => ∃ v1_ v2_ : Value, e = .returned (.tuple #[.agg #[.bool r1, v1_, v2_], .int .i64 r4]) ∧ Kd.R (Kd.int .u32) 99 w' w.heap.size (fun k_ => some k_ ≠ (v2_ : Value).ownBlock) v1_ r2 ∧ Kd.R (Kd.int .u32) 99 w' w.heap.size (fun k_ => some k_ ≠ (v1_ : Value).ownBlock) v2_ r3 ∧ Below w.heap.size w w' := by
 have hu36 := Try.underlying36
 have HR0_1 := Aside0.mk hr0_1
 have HC0_1 := Aside0.mk hc0_1
 clear hr0_1 hc0_1
 have HR0_2 := Aside0.mk hr0_2
 have HC0_2 := Aside0.mk hc0_2
 clear hr0_2 hc0_2
 have HR1_1 := Aside0.mk hr1_1
 have HC1_1 := Aside0.mk hc1_1
 clear hr1_1 hc1_1
 have HR1_2 := Aside0.mk hr1_2
 have HC1_2 := Aside0.mk hc1_2
 clear hr1_2 hc1_2
 have HB := Aside0.mk (Below.refl w.heap.size w)
 have H : ((sibylref02_Form.f k a0_0 l0_1 l0_2).bind fun t615 => (if t615 = true then ((sibylref02_Form.f k a1_0 l1_1 l1_2).bind fun t616 => (sibylref02_Div.j0 k (!t616) a0_0 l0_1 l0_2 a1_0 l1_1 l1_2)) else (sibylref02_Div.j0 k true a0_0 l0_1 l0_2 a1_0 l1_1 l1_2))) = some (r1, r2, r3, r4) := h
 clear h
 have HC3 := Aside0.mk H
 clear H
 go_enter Try.func35, Try.ntmps35
 go_upto_region 1 with (first | ((with_reducible refine gate_dst (N := 2) rfl ?_); refine box_event ?hg (N := 2) ?hd (cs := #[.bool a0_0, .slice A0_1 l0_1.length c0_1, .slice A0_2 l0_2.length c0_2]) (t := 36) ?hr ?_; (case hd => rfl); (case hg => rfl); (case hr => first | (go_simp; done) | (go_simp; rfl)); intro gb612 hg w4 hbox hb; have n_ := mk4 (below_step (bl HB) hb) (hbox) ((by rw [hg]; exact (below_size (bl HB)) : w.heap.size ≤ gb612)) ((by rw [hg]; exact (below_size (bl HB)) : w.heap.size ≤ gb612)); clear HB; obtain ⟨HB, BK612, GW612, GE612⟩ := n_; clear hb hbox hg) | ((with_reducible refine gate_dst (N := 3) rfl ?_); refine box_event ?hg (N := 3) ?hd (cs := #[.bool a1_0, .slice A1_1 l1_1.length c1_1, .slice A1_2 l1_2.length c1_2]) (t := 36) ?hr ?_; (case hd => rfl); (case hg => rfl); (case hr => first | (go_simp; done) | (go_simp; rfl)); intro gb613 hg w5 hbox hb; have n0_ := Aside0.mk (blk_below (ba BK612.out) hb); have n1_ := Aside0.mk (below_step (bl1 HB GE612) hb); have n2_ := Aside0.mk (hbox); have n3_ := Aside0.mk ((by rw [hg]; exact (below_size (bl1 HB GE612)) : w.heap.size ≤ gb613)); have n4_ := Aside0.mk ((by rw [hg]; exact (below_size (bl1 HB GE612)) : w.heap.size ≤ gb613)); have n5_ := Aside0.mk ((by rw [hg]; exact Nat.ne_of_lt (blk_lt (g := gb612) (o := .cells #[.bool a0_0, .slice A0_1 l0_1.length c0_1, .slice A0_2 l0_2.length c0_2] 36 (0, 0)) (ba BK612.out)) : gb612 ≠ gb613)); have n6_ := Aside0.mk ((by rw [hg]; exact Nat.ne_of_gt (blk_lt (g := gb612) (o := .cells #[.bool a0_0, .slice A0_1 l0_1.length c0_1, .slice A0_2 l0_2.length c0_2] 36 (0, 0)) (ba BK612.out)) : gb613 ≠ gb612)); clear BK612; clear HB; have BK612 := n0_; have HB := n1_; have BK613 := n2_; have GW613 := n3_; have GE613 := n4_; have NB612_613 := n5_; have NB613_612 := n6_; clear n0_ n1_ n2_ n3_ n4_ n5_ n6_; clear hb hbox hg) | ((with_reducible refine gate_dst (N := 4) rfl ?_); refine box_event ?hg (N := 4) ?hd (cs := #[.bool false, .slice none 0 0, .slice none 0 0]) (t := 36) ?hr ?_; (case hd => rfl); (case hg => rfl); (case hr => first | (go_simp; done) | (go_simp; rfl)); intro gb614 hg w6 hbox hb; have n0_ := Aside0.mk (blk_below (ba BK612.out) hb); have n1_ := Aside0.mk (blk_below (ba BK613.out) hb); have n2_ := Aside0.mk (below_step (bl2 HB GE612 GE613) hb); have n3_ := Aside0.mk (hbox); have n4_ := Aside0.mk ((by rw [hg]; exact (below_size (bl2 HB GE612 GE613)) : w.heap.size ≤ gb614)); have n5_ := Aside0.mk ((by rw [hg]; exact (below_size (bl2 HB GE612 GE613)) : w.heap.size ≤ gb614)); have n6_ := Aside0.mk ((by rw [hg]; exact Nat.ne_of_lt (blk_lt (g := gb612) (o := .cells #[.bool a0_0, .slice A0_1 l0_1.length c0_1, .slice A0_2 l0_2.length c0_2] 36 (0, 0)) (ba BK612.out)) : gb612 ≠ gb614)); have n7_ := Aside0.mk ((by rw [hg]; exact Nat.ne_of_gt (blk_lt (g := gb612) (o := .cells #[.bool a0_0, .slice A0_1 l0_1.length c0_1, .slice A0_2 l0_2.length c0_2] 36 (0, 0)) (ba BK612.out)) : gb614 ≠ gb612)); have n8_ := Aside0.mk ((by rw [hg]; exact Nat.ne_of_lt (blk_lt (g := gb613) (o := .cells #[.bool a1_0, .slice A1_1 l1_1.length c1_1, .slice A1_2 l1_2.length c1_2] 36 (0, 0)) (ba BK613.out)) : gb613 ≠ gb614)); have n9_ := Aside0.mk ((by rw [hg]; exact Nat.ne_of_gt (blk_lt (g := gb613) (o := .cells #[.bool a1_0, .slice A1_1 l1_1.length c1_1, .slice A1_2 l1_2.length c1_2] 36 (0, 0)) (ba BK613.out)) : gb614 ≠ gb613)); clear BK612; clear BK613; clear HB; have BK612 := n0_; have BK613 := n1_; have HB := n2_; have BK614 := n3_; have GW614 := n4_; have GE614 := n5_; have NB612_614 := n6_; have NB614_612 := n7_; have NB613_614 := n8_; have NB614_613 := n9_; clear n0_ n1_ n2_ n3_ n4_ n5_ n6_ n7_ n8_ n9_; clear hb hbox hg))
 (try simp only [Act.put, List.setIfInBounds_toArray, List.set_cons_zero, List.set_cons_succ])
 go_cut [13] (fun v13 wc => ∃ (kq : Nat) (x13_2 : Bool), v13 = .bool x13_2 ∧ Aside0 (sibylref02_Div.j0 kq x13_2 a0_0 l0_1 l0_2 a1_0 l1_1 l1_2 = some (r1, r2, r3, r4)) ∧ Aside0 (kq ≤ k) ∧ Aside0 (wc.heap[gb612]? = some (.cells #[.bool a0_0, (.slice A0_1 l0_1.length c0_1), (.slice A0_2 l0_2.length c0_2)] 36 (0, 0))) ∧ Aside0 (wc.heap[gb613]? = some (.cells #[.bool a1_0, (.slice A1_1 l1_1.length c1_1), (.slice A1_2 l1_2.length c1_2)] 36 (0, 0))) ∧ Aside0 (wc.heap[gb614]? = some (.cells #[.bool false, (.slice none 0 0), (.slice none 0 0)] 36 (0, 0))) ∧ Aside0 (Below w.heap.size w wc))
 case first =>
  have H := HC3.out
  clear HC3
  obtain ⟨t615, A7, H⟩ := bindA H
  by_cases c8 : t615 = true
  ·subst c8
   have H1 : ((sibylref02_Form.f k a1_0 l1_1 l1_2).bind fun t616 => (sibylref02_Div.j0 k (!t616) a0_0 l0_1 l0_2 a1_0 l1_1 l1_2)) = some (r1, r2, r3, r4) := by rw [if_pos rfl] at H; exact H
   clear H
   have H := H1
   clear H1
   obtain ⟨t616, A9, H⟩ := bindA H
   have H' := Aside0.mk H
   clear H
   have hnb10 := NB612_613.out
   have hnc10 := NB613_612.out
   have hnb11 := NB612_614.out
   have hnc11 := NB614_612.out
   have hcz12_0 : w6.cell? ⟨gb612, 0, none⟩ = some (.bool a0_0) := (blk_cell BK612.out 0).trans rfl
   have hcz12_1 : w6.cell? ⟨gb612, 1, none⟩ = some (.slice A0_1 l0_1.length c0_1) := (blk_cell BK612.out 1).trans rfl
   have hcz12_2 : w6.cell? ⟨gb612, 2, none⟩ = some (.slice A0_2 l0_2.length c0_2) := (blk_cell BK612.out 2).trans rfl
   have hfz12_0 := blk_frozen BK612.out 0
   have hfz12_1 := blk_frozen BK612.out 1
   have hfz12_2 := blk_frozen BK612.out 2
   go_wp2_with (first | ((with_reducible refine gate_callee (f := 53) rfl ?_); refine goesM (some 7) rfl rfl Try.func53 (by kernel_rfl) rfl #[.agg #[.bool a0_0, .slice A0_1 l0_1.length c0_1, .slice A0_2 l0_2.length c0_2]] rfl (by rfl) ?_; (with_reducible refine (sibylref02_Form.calls k a0_0 _ _ l0_1 _ _ l0_2 true _ ?side1 ?side2 ?side3 ?side4 A7.out).mono ?_); (case side1 => exact ca (Kd.C_below HR0_1.out HB.out)); (case side2 => exact HC0_1.out); (case side3 => exact ca (Kd.C_below HR0_2.out HB.out)); (case side4 => exact HC0_2.out); rintro e w13 ⟨rfl, hb⟩; refine ⟨_, rfl, ?_⟩; have n_ := mk4 (blk_below (ba BK612.out) hb) (blk_below (ba BK613.out) hb) (blk_below (ba BK614.out) hb) (below_step (bl3 HB GE612 GE613 GE614) hb); clear BK612 BK613 BK614 HB; obtain ⟨BK612, BK613, BK614, HB⟩ := n_; (try clear hb); (try clear hb2); (try clear hk); (try clear hi); have hnb14 := NB613_614.out; have hnc14 := NB614_613.out; obtain ⟨hcz15_0, hcz15_1, hcz15_2, hfz15_0, hfz15_1, hfz15_2⟩ := blk3 BK613.out) | (go_at_call 53; (with_reducible refine (sibylref02_Form.calls k a1_0 _ _ l1_1 _ _ l1_2 t616 _ ?side1 ?side2 ?side3 ?side4 A9.out).mono ?_); (case side1 => exact ca (Kd.C_below HR1_1.out HB.out)); (case side2 => exact HC1_1.out); (case side3 => exact ca (Kd.C_below HR1_2.out HB.out)); (case side4 => exact HC1_2.out); rintro e w16 ⟨rfl, hb⟩; have n_ := mk4 (blk_below (ba BK612.out) hb) (blk_below (ba BK613.out) hb) (blk_below (ba BK614.out) hb) (below_step (bl3 HB GE612 GE613 GE614) hb); clear BK612 BK613 BK614 HB; obtain ⟨BK612, BK613, BK614, HB⟩ := n_; (try clear hb); (try clear hb2); (try clear hk); (try clear hi)))
   go_meet
   case rel => exact ⟨_, (!t616), (by first | rfl | (simp; done) | (simp [*]; done)), H', ⟨by first | omega | exact Nat.le_refl _⟩, ⟨ba BK612.out⟩, ⟨ba BK613.out⟩, ⟨ba BK614.out⟩, ⟨bl3 HB GE612 GE613 GE614⟩⟩
  ·replace c8 := Bool.eq_false_iff.mpr c8
   subst c8
   have H1 : (sibylref02_Div.j0 k true a0_0 l0_1 l0_2 a1_0 l1_1 l1_2) = some (r1, r2, r3, r4) := by rw [if_neg (show ¬ (false = true) by decide)] at H; exact H
   clear H
   have H := H1
   clear H1
   have H' := Aside0.mk H
   clear H
   have hnb17 := NB612_613.out
   have hnc17 := NB613_612.out
   have hnb18 := NB612_614.out
   have hnc18 := NB614_612.out
   have hcz19_0 : w6.cell? ⟨gb612, 0, none⟩ = some (.bool a0_0) := (blk_cell BK612.out 0).trans rfl
   have hcz19_1 : w6.cell? ⟨gb612, 1, none⟩ = some (.slice A0_1 l0_1.length c0_1) := (blk_cell BK612.out 1).trans rfl
   have hcz19_2 : w6.cell? ⟨gb612, 2, none⟩ = some (.slice A0_2 l0_2.length c0_2) := (blk_cell BK612.out 2).trans rfl
   have hfz19_0 := blk_frozen BK612.out 0
   have hfz19_1 := blk_frozen BK612.out 1
   have hfz19_2 := blk_frozen BK612.out 2
   go_wp2_with (first | ((with_reducible refine gate_callee (f := 53) rfl ?_); refine goesM (some 7) rfl rfl Try.func53 (by kernel_rfl) rfl #[.agg #[.bool a0_0, .slice A0_1 l0_1.length c0_1, .slice A0_2 l0_2.length c0_2]] rfl (by rfl) ?_; (with_reducible refine (sibylref02_Form.calls k a0_0 _ _ l0_1 _ _ l0_2 false _ ?side1 ?side2 ?side3 ?side4 A7.out).mono ?_); (case side1 => exact ca (Kd.C_below HR0_1.out HB.out)); (case side2 => exact HC0_1.out); (case side3 => exact ca (Kd.C_below HR0_2.out HB.out)); (case side4 => exact HC0_2.out); rintro e w20 ⟨rfl, hb⟩; refine ⟨_, rfl, ?_⟩; have n_ := mk4 (blk_below (ba BK612.out) hb) (blk_below (ba BK613.out) hb) (blk_below (ba BK614.out) hb) (below_step (bl3 HB GE612 GE613 GE614) hb); clear BK612 BK613 BK614 HB; obtain ⟨BK612, BK613, BK614, HB⟩ := n_; (try clear hb); (try clear hb2); (try clear hk); (try clear hi)))
   go_meet
   case rel => exact ⟨_, (true), (by first | rfl | (simp; done) | (simp [*]; done)), H', ⟨by first | omega | exact Nat.le_refl _⟩, ⟨ba BK612.out⟩, ⟨ba BK613.out⟩, ⟨ba BK614.out⟩, ⟨bl3 HB GE612 GE613 GE614⟩⟩
 case rest =>
  clear HC3
  try clear c1
  try clear p2
  try clear c3
  try clear c5
  try clear c8
  try clear c10
  try clear c11
  try clear c14
  try clear c17
  try clear c18
  try clear hcz12_0
  try clear hcz12_1
  try clear hcz12_2
  try clear hcz15_0
  try clear hcz15_1
  try clear hcz15_2
  try clear hcz19_0
  try clear hcz19_1
  try clear hcz19_2
  try clear hfz12_0
  try clear hfz12_1
  try clear hfz12_2
  try clear hfz15_0
  try clear hfz15_1
  try clear hfz15_2
  try clear hfz19_0
  try clear hfz19_1
  try clear hfz19_2
  obtain ⟨kq, x13_2, rfl, HA, HJ2, BK612, BK613, BK614, HB⟩ := hcut
  cases kq with
  | zero => exact absurd HA.out (by simp [sibylref02_Div.j0])
  | succ kj2 =>
   have H := HA.out
   clear HA
   simp only [sibylref02_Div.j0] at H
   by_cases c21 : x13_2 = true
   ·subst c21
    have H1 : (some (false, ([] : List Int), ([] : List Int), 20)) = some (r1, r2, r3, r4) := by rw [if_pos rfl] at H; exact H
    clear H
    have H := H1
    clear H1
    simp only [Option.some.injEq, Prod.mk.injEq] at H
    obtain ⟨rfl, rfl, rfl, rfl⟩ := H
    have hnb22 := NB614_612.out
    have hnc22 := NB612_614.out
    have hnb23 := NB614_613.out
    have hnc23 := NB613_614.out
    have hcz24_0 : wc.cell? ⟨gb614, 0, none⟩ = some (.bool false) := (blk_cell BK614.out 0).trans rfl
    have hcz24_1 : wc.cell? ⟨gb614, 1, none⟩ = some (.slice none 0 0) := (blk_cell BK614.out 1).trans rfl
    have hcz24_2 : wc.cell? ⟨gb614, 2, none⟩ = some (.slice none 0 0) := (blk_cell BK614.out 2).trans rfl
    have hfz24_0 := blk_frozen BK614.out 0
    have hfz24_1 := blk_frozen BK614.out 1
    have hfz24_2 := blk_frozen BK614.out 2
    go_wp2
    refine bodyPost_ret (results_ct rfl _ _ gb614 36 #[.bool false, .slice none 0 0, .slice none 0 0] (0, 0) _ rfl (by exact bp BK614.out rfl) Try.underlying36 rfl (by kernel_rfl)) rfl ?_
    exact ⟨_, _, by first | rfl | simp [*], by first | exact Kd.R_nil _ _ _ _ _ | exact Kd.V_nil _ _ _ _ _, by first | exact Kd.R_nil _ _ _ _ _ | exact Kd.V_nil _ _ _ _ _, bl3 HB GE612 GE613 GE614⟩
   ·replace c21 := Bool.eq_false_iff.mpr c21
    subst c21
    have H1 : (if (l1_1.length : Int) = 0 then (some (false, ([] : List Int), ([] : List Int), 10)) else ((sibylref01_Times.f kj2 l0_1 l1_2).bind fun t617 => ((sibylref01_Times.f kj2 l0_2 l1_1).bind fun t620 => ((sibylref02_Make.f kj2 (a0_0 != a1_0) t617 t620).bind fun bt623 => (some (bt623.1, bt623.2.1, bt623.2.2.1, bt623.2.2.2)))))) = some (r1, r2, r3, r4) := by rw [if_neg (show ¬ (false = true) by decide)] at H; exact H
    clear H
    have H := H1
    clear H1
    by_cases c25 : (l1_1.length : Int) = 0
    ·rw [if_pos c25] at H
     have c25b0 : ((l1_1.length : Int) == 0) = true := beq_iff_eq.mpr c25
     have c25b1 : ((l1_1.length : Int) != 0) = false := bne_eq_false_iff_eq.mpr c25
     clear c25
     simp only [Option.some.injEq, Prod.mk.injEq] at H
     obtain ⟨rfl, rfl, rfl, rfl⟩ := H
     have hnb26 := NB613_612.out
     have hnc26 := NB612_613.out
     have hnb27 := NB613_614.out
     have hnc27 := NB614_613.out
     have hcz28_0 : wc.cell? ⟨gb613, 0, none⟩ = some (.bool a1_0) := (blk_cell BK613.out 0).trans rfl
     have hcz28_1 : wc.cell? ⟨gb613, 1, none⟩ = some (.slice A1_1 l1_1.length c1_1) := (blk_cell BK613.out 1).trans rfl
     have hcz28_2 : wc.cell? ⟨gb613, 2, none⟩ = some (.slice A1_2 l1_2.length c1_2) := (blk_cell BK613.out 2).trans rfl
     have hfz28_0 := blk_frozen BK613.out 0
     have hfz28_1 := blk_frozen BK613.out 1
     have hfz28_2 := blk_frozen BK613.out 2
     have hnb29 := NB614_612.out
     have hnc29 := NB612_614.out
     have hcz30_0 : wc.cell? ⟨gb614, 0, none⟩ = some (.bool false) := (blk_cell BK614.out 0).trans rfl
     have hcz30_1 : wc.cell? ⟨gb614, 1, none⟩ = some (.slice none 0 0) := (blk_cell BK614.out 1).trans rfl
     have hcz30_2 : wc.cell? ⟨gb614, 2, none⟩ = some (.slice none 0 0) := (blk_cell BK614.out 2).trans rfl
     have hfz30_0 := blk_frozen BK614.out 0
     have hfz30_1 := blk_frozen BK614.out 1
     have hfz30_2 := blk_frozen BK614.out 2
     go_wp2
     refine bodyPost_ret (results_ct rfl _ _ gb614 36 #[.bool false, .slice none 0 0, .slice none 0 0] (0, 0) _ rfl (by exact bp BK614.out rfl) Try.underlying36 rfl (by kernel_rfl)) rfl ?_
     exact ⟨_, _, by first | rfl | simp [*], by first | exact Kd.R_nil _ _ _ _ _ | exact Kd.V_nil _ _ _ _ _, by first | exact Kd.R_nil _ _ _ _ _ | exact Kd.V_nil _ _ _ _ _, bl3 HB GE612 GE613 GE614⟩
    ·rw [if_neg c25] at H
     have c25b0 : ((l1_1.length : Int) == 0) = false := beq_eq_false_iff_ne.mpr c25
     have c25b1 : ((l1_1.length : Int) != 0) = true := bne_iff_ne.mpr c25
     have c25b2 : ¬ (l1_1 = []) := fun h_ => c25 (by rw [h_]; rfl)
     obtain ⟨t617, A31, H⟩ := bindA H
     obtain ⟨t620, A32, H⟩ := bindA H
     obtain ⟨⟨t623, t624, t627, t630⟩, A33, H⟩ := bindA H
     dsimp only at H
     simp only [Option.some.injEq, Prod.mk.injEq] at H
     obtain ⟨rfl, rfl, rfl, rfl⟩ := H
     have hnb34 := NB613_612.out
     have hnc34 := NB612_613.out
     have hnb35 := NB613_614.out
     have hnc35 := NB614_613.out
     have hcz36_0 : wc.cell? ⟨gb613, 0, none⟩ = some (.bool a1_0) := (blk_cell BK613.out 0).trans rfl
     have hcz36_1 : wc.cell? ⟨gb613, 1, none⟩ = some (.slice A1_1 l1_1.length c1_1) := (blk_cell BK613.out 1).trans rfl
     have hcz36_2 : wc.cell? ⟨gb613, 2, none⟩ = some (.slice A1_2 l1_2.length c1_2) := (blk_cell BK613.out 2).trans rfl
     have hfz36_0 := blk_frozen BK613.out 0
     have hfz36_1 := blk_frozen BK613.out 1
     have hfz36_2 := blk_frozen BK613.out 2
     try go_wp2
     have n0_ := Aside0.mk (blk_drew BK612.out)
     have n1_ := Aside0.mk (blk_drew BK613.out)
     have n2_ := Aside0.mk (blk_drew BK614.out)
     have n3_ := Aside0.mk (below_drew1 HB.out)
     clear BK612
     clear BK613
     clear BK614
     clear HB
     have BK612 := n0_
     have BK613 := n1_
     have BK614 := n2_
     have HB := n3_
     clear n0_ n1_ n2_ n3_
     refine start_ (n := 20) (S := fun w' => w'.cell? ⟨gb612, 0, none⟩ = some (.bool a0_0) ∧ w'.cell? ⟨gb612, 1, none⟩ = some (.slice A0_1 l0_1.length c0_1) ∧ w'.cell? ⟨gb612, 2, none⟩ = some (.slice A0_2 l0_2.length c0_2) ∧ w'.cell? ⟨gb613, 0, none⟩ = some (.bool a1_0) ∧ w'.cell? ⟨gb613, 1, none⟩ = some (.slice A1_1 l1_1.length c1_1) ∧ w'.cell? ⟨gb613, 2, none⟩ = some (.slice A1_2 l1_2.length c1_2)) (ds := []) #[false, false, false, false, false, false, false, false, false, false, false, false, false, false, false, false, false, false, false, false] (by kernel_rfl) rfl rfl ⟨(blk_cell BK612.out 0).trans rfl, (blk_cell BK612.out 1).trans rfl, (blk_cell BK612.out 2).trans rfl, (blk_cell BK613.out 0).trans rfl, (blk_cell BK613.out 1).trans rfl, (blk_cell BK613.out 2).trans rfl⟩ (fun hHeld => ?_); refine with_tabW sibylref02_Div.tab5 sibylref02_Div.bits5 (fun HT_ HW_ => ?_)
     generalize wc.drew = w37 at BK612 BK613 BK614 HB hHeld ⊢
     refine pure_ (i := 0) (N := some 20) (v := ?_) (a' := ?_) #[true, false, false, false, false, false, false, false, false, false, false, false, false, false, false, false, false, false, false, false] rfl rfl (any_of HT_.out (by kernel_rfl)) (fun _ _ _ h => h) (Or.inl ⟨by rfl, ?_⟩) ?_ ?_
     rotate_left
     ·intro w'
      go_simp
      with_reducible rfl
     rotate_left
     ·simp only [Act.put, List.setIfInBounds_toArray, List.set_cons_zero, List.set_cons_succ, i64_w, i32_w]
      rfl
     refine pure_ (i := 2) (N := some 22) (v := ?_) (a' := ?_) #[true, false, true, false, false, false, false, false, false, false, false, false, false, false, false, false, false, false, false, false] rfl rfl (any_of HT_.out (by kernel_rfl)) (fun _ _ _ h => h) (Or.inl ⟨by rfl, ?_⟩) ?_ ?_
     rotate_left
     ·intro w'
      go_simp
      with_reducible rfl
     rotate_left
     ·simp only [Act.put, List.setIfInBounds_toArray, List.set_cons_zero, List.set_cons_succ, i64_w, i32_w]
      rfl
     refine pure_ (i := 5) (N := some 25) (v := ?_) (a' := ?_) #[true, false, true, false, false, true, false, false, false, false, false, false, false, false, false, false, false, false, false, false] rfl rfl (any_of HT_.out (by kernel_rfl)) (fun _ _ _ h => h) (Or.inl ⟨by rfl, ?_⟩) ?_ ?_
     rotate_left
     ·intro w'
      go_simp
      with_reducible rfl
     rotate_left
     ·simp only [Act.put, List.setIfInBounds_toArray, List.set_cons_zero, List.set_cons_succ, i64_w, i32_w]
      rfl
     refine pure_ (i := 7) (N := some 27) (v := ?_) (a' := ?_) #[true, false, true, false, false, true, false, true, false, false, false, false, false, false, false, false, false, false, false, false] rfl rfl (any_of HT_.out (by kernel_rfl)) (fun _ _ _ h => h) (Or.inl ⟨by rfl, ?_⟩) ?_ ?_
     rotate_left
     ·intro w'
      go_simp
      with_reducible rfl
     rotate_left
     ·simp only [Act.put, List.setIfInBounds_toArray, List.set_cons_zero, List.set_cons_succ, i64_w, i32_w]
      rfl
     refine pure_ (i := 10) (N := some 30) (v := ?_) (a' := ?_) #[true, false, true, false, false, true, false, true, false, false, true, false, false, false, false, false, false, false, false, false] rfl rfl (any_of HT_.out (by kernel_rfl)) (fun _ _ _ h => h) (Or.inl ⟨by rfl, ?_⟩) ?_ ?_
     rotate_left
     ·intro w'
      go_simp
      with_reducible rfl
     rotate_left
     ·simp only [Act.put, List.setIfInBounds_toArray, List.set_cons_zero, List.set_cons_succ, i64_w, i32_w]
      rfl
     refine pure_ (i := 12) (N := some 32) (v := ?_) (a' := ?_) #[true, false, true, false, false, true, false, true, false, false, true, false, true, false, false, false, false, false, false, false] rfl rfl (any_of HT_.out (by kernel_rfl)) (fun _ _ _ h => h) (Or.inl ⟨by rfl, ?_⟩) ?_ ?_
     rotate_left
     ·intro w'
      go_simp
      with_reducible rfl
     rotate_left
     ·simp only [Act.put, List.setIfInBounds_toArray, List.set_cons_zero, List.set_cons_succ, i64_w, i32_w]
      rfl
     refine take_ (i := 1) (N := some 21) (v := ?_) (a' := ?_) #[true, true, true, false, false, true, false, true, false, false, true, false, true, false, false, false, false, false, false, false] rfl rfl (take_ofW HT_.out HW_.out (by kernel_rfl)) (fun _ _ _ h => h) (Or.inl ⟨by rfl, ?_⟩) hHeld ?_ ?_
     rotate_left
     ·rintro w' ⟨s0, s1, s2, s3, s4, s5⟩
      go_simp
      with_reducible rfl
     rotate_left
     ·simp only [Act.put, List.setIfInBounds_toArray, List.set_cons_zero, List.set_cons_succ, i64_w, i32_w]
      rfl
     refine take_ (i := 3) (N := some 23) (v := ?_) (a' := ?_) #[true, true, true, true, false, true, false, true, false, false, true, false, true, false, false, false, false, false, false, false] rfl rfl (take_ofW HT_.out HW_.out (by kernel_rfl)) (fun _ _ _ h => h) (Or.inl ⟨by rfl, ?_⟩) hHeld ?_ ?_
     rotate_left
     ·rintro w' ⟨s0, s1, s2, s3, s4, s5⟩
      go_simp
      with_reducible rfl
     rotate_left
     ·simp only [Act.put, List.setIfInBounds_toArray, List.set_cons_zero, List.set_cons_succ, i64_w, i32_w]
      rfl
     refine pure_ (i := 4) (N := some 24) (v := ?_) (a' := ?_) #[true, true, true, true, true, true, false, true, false, false, true, false, true, false, false, false, false, false, false, false] rfl rfl (any_of HT_.out (by kernel_rfl)) (fun _ _ _ h => h) (Or.inl ⟨by rfl, ?_⟩) ?_ ?_
     rotate_left
     ·intro w'
      go_simp
      with_reducible rfl
     rotate_left
     ·simp only [Act.put, List.setIfInBounds_toArray, List.set_cons_zero, List.set_cons_succ, i64_w, i32_w]
      rfl
     refine take_ (i := 6) (N := some 26) (v := ?_) (a' := ?_) #[true, true, true, true, true, true, true, true, false, false, true, false, true, false, false, false, false, false, false, false] rfl rfl (take_ofW HT_.out HW_.out (by kernel_rfl)) (fun _ _ _ h => h) (Or.inl ⟨by rfl, ?_⟩) hHeld ?_ ?_
     rotate_left
     ·rintro w' ⟨s0, s1, s2, s3, s4, s5⟩
      go_simp
      with_reducible rfl
     rotate_left
     ·simp only [Act.put, List.setIfInBounds_toArray, List.set_cons_zero, List.set_cons_succ, i64_w, i32_w]
      rfl
     refine take_ (i := 8) (N := some 28) (v := ?_) (a' := ?_) #[true, true, true, true, true, true, true, true, true, false, true, false, true, false, false, false, false, false, false, false] rfl rfl (take_ofW HT_.out HW_.out (by kernel_rfl)) (fun _ _ _ h => h) (Or.inl ⟨by rfl, ?_⟩) hHeld ?_ ?_
     rotate_left
     ·rintro w' ⟨s0, s1, s2, s3, s4, s5⟩
      go_simp
      with_reducible rfl
     rotate_left
     ·simp only [Act.put, List.setIfInBounds_toArray, List.set_cons_zero, List.set_cons_succ, i64_w, i32_w]
      rfl
     refine take_ (i := 11) (N := some 31) (v := ?_) (a' := ?_) #[true, true, true, true, true, true, true, true, true, false, true, true, true, false, false, false, false, false, false, false] rfl rfl (take_ofW HT_.out HW_.out (by kernel_rfl)) (fun _ _ _ h => h) (Or.inl ⟨by rfl, ?_⟩) hHeld ?_ ?_
     rotate_left
     ·rintro w' ⟨s0, s1, s2, s3, s4, s5⟩
      go_simp
      with_reducible rfl
     rotate_left
     ·simp only [Act.put, List.setIfInBounds_toArray, List.set_cons_zero, List.set_cons_succ, i64_w, i32_w]
      rfl
     refine take_ (i := 13) (N := some 33) (v := ?_) (a' := ?_) #[true, true, true, true, true, true, true, true, true, false, true, true, true, true, false, false, false, false, false, false] rfl rfl (take_ofW HT_.out HW_.out (by kernel_rfl)) (fun _ _ _ h => h) (Or.inl ⟨by rfl, ?_⟩) hHeld ?_ ?_
     rotate_left
     ·rintro w' ⟨s0, s1, s2, s3, s4, s5⟩
      go_simp
      with_reducible rfl
     rotate_left
     ·simp only [Act.put, List.setIfInBounds_toArray, List.set_cons_zero, List.set_cons_succ, i64_w, i32_w]
      rfl
     refine one_ (i := 9) (N := some 29) #[true, true, true, true, true, true, true, true, true, true, true, true, true, true, false, false, false, false, false, false] rfl rfl (one_of HT_.out (by kernel_rfl)) (by decide) (fun K hK => ?_)
     refine goes_ Try.func62 (by kernel_rfl) rfl #[.slice A0_1 l0_1.length c0_1, .slice A1_2 l1_2.length c1_2] (by rfl) rfl rfl (by (try simp only [List.map_toArray, List.map_cons, List.map_nil]); first | done | rfl | (simp only [List.length_drop, List.length_take]; rfl)) ?_
     with_reducible refine (sibylref01_Times.calls kj2 _ _ l0_1 _ _ l1_2 t617 _ ?side1 ?side2 ?side3 ?side4 A31.out).mono ?_
     (case side1 => exact ca (Kd.C_below HR0_1.out HB.out))
     (case side2 => exact HC0_1.out)
     (case side3 => exact ca (Kd.C_below HR1_2.out HB.out))
     (case side4 => exact HC1_2.out)
     rintro e w38 ⟨v618, rfl, ho0, hb⟩
     refine ⟨_, rfl, ?_⟩
     have n0_ := Aside0.mk (Kd.R_lower ho0 (below_size (bl3 HB GE612 GE613 GE614)))
     have n1_ := Aside0.mk (blk_below (ba BK612.out) hb)
     have n2_ := Aside0.mk (blk_below (ba BK613.out) hb)
     have n3_ := Aside0.mk (blk_below (ba BK614.out) hb)
     have n4_ := Aside0.mk (below_step (bl3 HB GE612 GE613 GE614) hb)
     clear BK612
     clear BK613
     clear BK614
     clear HB
     have HO619 := n0_
     have BK612 := n1_
     have BK613 := n2_
     have BK614 := n3_
     have HB := n4_
     clear n0_ n1_ n2_ n3_ n4_
     (try clear hb)
     (try clear hb2)
     (try clear hk)
     (try clear hi)
     (try clear ho0)
     refine hK.out _ _ ⟨(blk_cell BK612.out 0).trans rfl, (blk_cell BK612.out 1).trans rfl, (blk_cell BK612.out 2).trans rfl, (blk_cell BK613.out 0).trans rfl, (blk_cell BK613.out 1).trans rfl, (blk_cell BK613.out 2).trans rfl⟩ (fun hHeld => ?_)
     clear hK K
     refine norm_ (a' := ?_) ?_ ?_
     rotate_left
     ·show Act.put _ (some 29) _ = _
      simp only [Act.put, List.setIfInBounds_toArray, List.set_cons_zero, List.set_cons_succ, i64_w, i32_w]
      rfl
     refine one_ (i := 14) (N := some 34) #[true, true, true, true, true, true, true, true, true, true, true, true, true, true, true, false, false, false, false, false] rfl rfl (one_of HT_.out (by kernel_rfl)) (by decide) (fun K hK => ?_)
     refine goes_ Try.func62 (by kernel_rfl) rfl #[.slice A0_2 l0_2.length c0_2, .slice A1_1 l1_1.length c1_1] (by rfl) rfl rfl (by (try simp only [List.map_toArray, List.map_cons, List.map_nil]); first | done | rfl | (simp only [List.length_drop, List.length_take]; rfl)) ?_
     with_reducible refine (sibylref01_Times.calls kj2 _ _ l0_2 _ _ l1_1 t620 _ ?side1 ?side2 ?side3 ?side4 A32.out).mono ?_
     (case side1 => exact ca (Kd.C_below HR0_2.out HB.out))
     (case side2 => exact HC0_2.out)
     (case side3 => exact ca (Kd.C_below HR1_1.out HB.out))
     (case side4 => exact HC1_1.out)
     rintro e w39 ⟨v621, rfl, ho0, hb⟩
     refine ⟨_, rfl, ?_⟩
     have n0_ := Aside0.mk (Kd.R_elder' (ra HO619.out) (Kd.R_base ho0) hb)
     have n1_ := Aside0.mk (Kd.R_lower (Kd.R_new' ho0 (Kd.R_lt (ra HO619.out))) (below_size (bl3 HB GE612 GE613 GE614)))
     have n2_ := Aside0.mk (blk_below (ba BK612.out) hb)
     have n3_ := Aside0.mk (blk_below (ba BK613.out) hb)
     have n4_ := Aside0.mk (blk_below (ba BK614.out) hb)
     have n5_ := Aside0.mk (below_step (bl3 HB GE612 GE613 GE614) hb)
     clear HO619
     clear BK612
     clear BK613
     clear BK614
     clear HB
     have HO619 := n0_
     have HO622 := n1_
     have BK612 := n2_
     have BK613 := n3_
     have BK614 := n4_
     have HB := n5_
     clear n0_ n1_ n2_ n3_ n4_ n5_
     (try clear hb)
     (try clear hb2)
     (try clear hk)
     (try clear hi)
     (try clear ho0)
     obtain ⟨Ao40, co40, eo40⟩ := Kd.R_slice HO619.out
     (first | subst eo40 | (injection eo40 with f1_ f2_ f3_; have f4_ := f1_.symm; have f5_ := f3_.symm; clear f1_ f2_ f3_; subst f4_; subst f5_))
     obtain ⟨Ao41, co41, eo41⟩ := Kd.R_slice HO622.out
     (first | subst eo41 | (injection eo41 with f1_ f2_ f3_; have f4_ := f1_.symm; have f5_ := f3_.symm; clear f1_ f2_ f3_; subst f4_; subst f5_))
     refine hK.out _ _ ⟨(blk_cell BK612.out 0).trans rfl, (blk_cell BK612.out 1).trans rfl, (blk_cell BK612.out 2).trans rfl, (blk_cell BK613.out 0).trans rfl, (blk_cell BK613.out 1).trans rfl, (blk_cell BK613.out 2).trans rfl⟩ (fun hHeld => ?_)
     clear hK K
     refine norm_ (a' := ?_) ?_ ?_
     rotate_left
     ·show Act.put _ (some 34) _ = _
      simp only [Act.put, List.setIfInBounds_toArray, List.set_cons_zero, List.set_cons_succ, i64_w, i32_w]
      rfl
     refine one_ (i := 15) (N := some 35) #[true, true, true, true, true, true, true, true, true, true, true, true, true, true, true, true, false, false, false, false] rfl rfl (one_of HT_.out (by kernel_rfl)) (by decide) (fun K hK => ?_)
     refine goes_ Try.func68 (by kernel_rfl) rfl #[.bool (a0_0 != a1_0), .slice Ao40 t617.length co40, .slice Ao41 t620.length co41] (by rfl) rfl rfl (by (try simp only [List.map_toArray, List.map_cons, List.map_nil]); first | done | rfl | (simp only [List.length_drop, List.length_take]; rfl)) ?_
     with_reducible refine (sibylref02_Make.calls kj2 (a0_0 != a1_0) _ _ t617 _ _ t620 t623 t624 t627 t630 _ ?side1 ?side2 ?side3 ?side4 A33.out).mono ?_
     (case side1 => exact ca ((Kd.R_reads' HO619.out).2.2))
     (case side2 => exact (Kd.R_reads' HO619.out).2.1)
     (case side3 => exact ca ((Kd.R_reads' HO622.out).2.2))
     (case side4 => exact (Kd.R_reads' HO622.out).2.1)
     rintro e w42 ⟨v625, v628, rfl, ho0, ho1, hb⟩
     refine ⟨_, rfl, ?_⟩
     have n0_ := Aside0.mk (Kd.R_mono (Kd.R_told (Kd.R_told (Kd.R_old (ra HO619.out) hb) (Kd.R_base ho0)) (Kd.R_base ho1)) (fun _ h_ => h_.1))
     have n1_ := Aside0.mk (Kd.R_mono (Kd.R_told (Kd.R_told (Kd.R_old (ra HO622.out) hb) (Kd.R_base ho0)) (Kd.R_base ho1)) (fun _ h_ => h_.1))
     have n2_ := Aside0.mk (Kd.R_lower (Kd.R_new' (Kd.R_new' ho0 (Kd.R_lt (ra HO619.out))) (Kd.R_lt (ra HO622.out))) (below_size (bl3 HB GE612 GE613 GE614)))
     have n3_ := Aside0.mk (Kd.R_lower (Kd.R_new' (Kd.R_new' ho1 (Kd.R_lt (ra HO619.out))) (Kd.R_lt (ra HO622.out))) (below_size (bl3 HB GE612 GE613 GE614)))
     have n4_ := Aside0.mk (blk_below (ba BK612.out) hb)
     have n5_ := Aside0.mk (blk_below (ba BK613.out) hb)
     have n6_ := Aside0.mk (blk_below (ba BK614.out) hb)
     have n7_ := Aside0.mk (below_step (bl3 HB GE612 GE613 GE614) hb)
     clear HO619
     clear HO622
     clear BK612
     clear BK613
     clear BK614
     clear HB
     have HO619 := n0_
     have HO622 := n1_
     have HO626 := n2_
     have HO629 := n3_
     have BK612 := n4_
     have BK613 := n5_
     have BK614 := n6_
     have HB := n7_
     clear n0_ n1_ n2_ n3_ n4_ n5_ n6_ n7_
     (try clear hb)
     (try clear hb2)
     (try clear hk)
     (try clear hi)
     (try clear ho0)
     (try clear ho1)
     obtain ⟨Ao44, co44, eo44⟩ := Kd.R_slice HO626.out
     (first | subst eo44 | (injection eo44 with f1_ f2_ f3_; have f4_ := f1_.symm; have f5_ := f3_.symm; clear f1_ f2_ f3_; subst f4_; subst f5_))
     obtain ⟨Ao46, co46, eo46⟩ := Kd.R_slice HO629.out
     (first | subst eo46 | (injection eo46 with f1_ f2_ f3_; have f4_ := f1_.symm; have f5_ := f3_.symm; clear f1_ f2_ f3_; subst f4_; subst f5_))
     refine hK.out _ _ ⟨(blk_cell BK612.out 0).trans rfl, (blk_cell BK612.out 1).trans rfl, (blk_cell BK612.out 2).trans rfl, (blk_cell BK613.out 0).trans rfl, (blk_cell BK613.out 1).trans rfl, (blk_cell BK613.out 2).trans rfl⟩ (fun hHeld => ?_)
     clear hK K
     refine norm_ (a' := ?_) ?_ ?_
     rotate_left
     ·show Act.put _ (some 35) _ = _
      simp only [Act.put, List.setIfInBounds_toArray, List.set_cons_zero, List.set_cons_succ, i64_w, i32_w]
      rfl
     refine pure_ (i := 16) (N := some 36) (v := ?_) (a' := ?_) #[true, true, true, true, true, true, true, true, true, true, true, true, true, true, true, true, true, false, false, false] rfl rfl (any_of HT_.out (by kernel_rfl)) (fun _ _ _ h => h) (Or.inl ⟨by rfl, ?_⟩) ?_ ?_
     rotate_left
     ·intro w'
      go_simp
      with_reducible rfl
     rotate_left
     ·simp only [Act.put, List.setIfInBounds_toArray, List.set_cons_zero, List.set_cons_succ, i64_w, i32_w]
      rfl
     refine pure_ (i := 17) (N := some 37) (v := ?_) (a' := ?_) #[true, true, true, true, true, true, true, true, true, true, true, true, true, true, true, true, true, true, false, false] rfl rfl (any_of HT_.out (by kernel_rfl)) (fun _ _ _ h => h) (Or.inl ⟨by rfl, ?_⟩) ?_ ?_
     rotate_left
     ·intro w'
      go_simp
      with_reducible rfl
     rotate_left
     ·simp only [Act.put, List.setIfInBounds_toArray, List.set_cons_zero, List.set_cons_succ, i64_w, i32_w]
      rfl
     refine one_ (i := 18) (N := none) #[true, true, true, true, true, true, true, true, true, true, true, true, true, true, true, true, true, true, true, false] rfl rfl (one_of HT_.out (by kernel_rfl)) (by decide) (fun K hK => ?_)
     have hs43 : w42.cell? ⟨gb614, 0, none⟩ = some (.bool false) := (blk_cell BK614.out 0).trans rfl
     have hfs43 := blk_frozen BK614.out 0
     have hns43_0 := NB612_614.out
     have hns43_1 := NB613_614.out
     have hms43_0 := NB614_612.out
     have hms43_1 := NB614_613.out
     have hs45 : w42.cell? ⟨gb614, 1, none⟩ = some (.slice none 0 0) := (blk_cell BK614.out 1).trans rfl
     have hfs45 := blk_frozen BK614.out 1
     have hns45_0 := NB612_614.out
     have hns45_1 := NB613_614.out
     have hms45_0 := NB614_612.out
     have hms45_1 := NB614_613.out
     have hs47 : w42.cell? ⟨gb614, 2, none⟩ = some (.slice none 0 0) := (blk_cell BK614.out 2).trans rfl
     have hfs47 := blk_frozen BK614.out 2
     have hns47_0 := NB612_614.out
     have hns47_1 := NB613_614.out
     have hms47_0 := NB614_612.out
     have hms47_1 := NB614_613.out
     refine skip_ (w1 := ?_) (by rfl) rfl ?_ ?_
     rotate_left
     ·go_simp
      rfl
     refine hK.out _ _ ⟨((cell_far (p := ⟨gb614, _, none⟩) NB612_614.out _).trans (((cell_far (p := ⟨gb614, _, none⟩) NB612_614.out _).trans (((cell_far (p := ⟨gb614, _, none⟩) NB612_614.out _).trans (hHeld.1)))))), ((cell_far (p := ⟨gb614, _, none⟩) NB612_614.out _).trans (((cell_far (p := ⟨gb614, _, none⟩) NB612_614.out _).trans (((cell_far (p := ⟨gb614, _, none⟩) NB612_614.out _).trans (hHeld.2.1)))))), ((cell_far (p := ⟨gb614, _, none⟩) NB612_614.out _).trans (((cell_far (p := ⟨gb614, _, none⟩) NB612_614.out _).trans (((cell_far (p := ⟨gb614, _, none⟩) NB612_614.out _).trans (hHeld.2.2.1)))))), ((cell_far (p := ⟨gb614, _, none⟩) NB613_614.out _).trans (((cell_far (p := ⟨gb614, _, none⟩) NB613_614.out _).trans (((cell_far (p := ⟨gb614, _, none⟩) NB613_614.out _).trans (hHeld.2.2.2.1)))))), ((cell_far (p := ⟨gb614, _, none⟩) NB613_614.out _).trans (((cell_far (p := ⟨gb614, _, none⟩) NB613_614.out _).trans (((cell_far (p := ⟨gb614, _, none⟩) NB613_614.out _).trans (hHeld.2.2.2.2.1)))))), ((cell_far (p := ⟨gb614, _, none⟩) NB613_614.out _).trans (((cell_far (p := ⟨gb614, _, none⟩) NB613_614.out _).trans (((cell_far (p := ⟨gb614, _, none⟩) NB613_614.out _).trans (hHeld.2.2.2.2.2))))))⟩ (fun hHeld => ?_)
     clear hK K
     refine pure_ (i := 19) (N := some 5) (v := ?_) (a' := ?_) #[true, true, true, true, true, true, true, true, true, true, true, true, true, true, true, true, true, true, true, true] rfl rfl (any_of HT_.out (by kernel_rfl)) (fun _ _ _ h => h) (Or.inl ⟨by rfl, ?_⟩) ?_ ?_
     rotate_left
     ·intro w'
      go_simp
      with_reducible rfl
     rotate_left
     ·simp only [Act.put, List.setIfInBounds_toArray, List.set_cons_zero, List.set_cons_succ, i64_w, i32_w]
      rfl
     refine done_ (done_of HT_.out (by kernel_rfl)) ?_
     try go_wp2
     refine bodyPost_ret (results_ct rfl _ _ gb614 36 #[.bool t623, .slice Ao44 t624.length co44, .slice Ao46 t627.length co46] (0, 0) _ rfl (by exact bp BK614.out rfl) Try.underlying36 rfl (by kernel_rfl)) rfl ?_
     exact ⟨_, _, by first | rfl | simp [*], ra (Kd.R_mono (Kd.R_far (p := ⟨gb614, 2, none⟩) (Kd.R_far (p := ⟨gb614, 1, none⟩) (Kd.R_far (p := ⟨gb614, 0, none⟩) (Kd.R_types HO626.out BK614.out (by decide)) (fun _ hk => hk.2) (.bool t623)) (fun _ hk => hk.2) (.slice Ao44 t624.length co44)) (fun _ hk => hk.2) (.slice Ao46 t627.length co46)) (fun _ hk => hk.1.1.1)), ra (Kd.R_mono (Kd.R_far (p := ⟨gb614, 2, none⟩) (Kd.R_far (p := ⟨gb614, 1, none⟩) (Kd.R_far (p := ⟨gb614, 0, none⟩) (Kd.R_types HO629.out BK614.out (by decide)) (fun _ hk => hk.2) (.bool t623)) (fun _ hk => hk.2) (.slice Ao44 t624.length co44)) (fun _ hk => hk.2) (.slice Ao46 t627.length co46)) (fun _ hk => hk.1.1.1)), bl3 HB GE612 GE613 GE614⟩
def sibylref02_Same.f (k : Nat) (a0_0 : Bool) (l0_1 : List Int) (l0_2 : List Int) (a1_0 : Bool) (l1_1 : List Int) (l1_2 : List Int) : Option (Bool) := if (a0_0 == a1_0) = true then ((sibylref01_Same.f k l0_1 l1_1).bind fun t659 => (if t659 = true then ((sibylref01_Same.f k l0_2 l1_2).bind fun t660 => (some t660)) else (some false))) else (some false)
set_option maxHeartbeats 8000000 in
set_option maxRecDepth 100000 in
theorem sibylref02_Same.calls (k : Nat) (a0_0 : Bool) (A0_1 : Option Addr) (c0_1 : Nat) (l0_1 : List Int) (A0_2 : Option Addr) (c0_2 : Nat) (l0_2 : List Int) (a1_0 : Bool) (A1_1 : Option Addr) (c1_1 : Nat) (l1_1 : List Int) (A1_2 : Option Addr) (c1_2 : Nat) (l1_2 : List Int) (r : Bool) (w : World) (hr0_1 : Kd.C (Kd.int .u32) w A0_1 l0_1.length l0_1) (hc0_1 : l0_1.length ≤ c0_1) (hr0_2 : Kd.C (Kd.int .u32) w A0_2 l0_2.length l0_2) (hc0_2 : l0_2.length ≤ c0_2) (hr1_1 : Kd.C (Kd.int .u32) w A1_1 l1_1.length l1_1) (hc1_1 : l1_1.length ≤ c1_1) (hr1_2 : Kd.C (Kd.int .u32) w A1_2 l1_2.length l1_2) (hc1_2 : l1_2.length ≤ c1_2) (h : sibylref02_Same.f k a0_0 l0_1 l0_2 a1_0 l1_1 l1_2 = some r) :
  Calls Try.prog 14 #[.agg #[.bool a0_0, .slice A0_1 l0_1.length c0_1, .slice A0_2 l0_2.length c0_2], .agg #[.bool a1_0, .slice A1_1 l1_1.length c1_1, .slice A1_2 l1_2.length c1_2]] w fun e w' => e = .returned (.bool r) ∧ Below w.heap.size w w' := by
 have hu36 := Try.underlying36
 have HR0_1 := Aside0.mk hr0_1
 have HC0_1 := Aside0.mk hc0_1
 clear hr0_1 hc0_1
 have HR0_2 := Aside0.mk hr0_2
 have HC0_2 := Aside0.mk hc0_2
 clear hr0_2 hc0_2
 have HR1_1 := Aside0.mk hr1_1
 have HC1_1 := Aside0.mk hc1_1
 clear hr1_1 hc1_1
 have HR1_2 := Aside0.mk hr1_2
 have HC1_2 := Aside0.mk hc1_2
 clear hr1_2 hc1_2
 have HB := Aside0.mk (Below.refl w.heap.size w)
 have H : (if (a0_0 == a1_0) = true then ((sibylref01_Same.f k l0_1 l1_1).bind fun t659 => (if t659 = true then ((sibylref01_Same.f k l0_2 l1_2).bind fun t660 => (some t660)) else (some false))) else (some false)) = some r := h
 clear h
 by_cases c3 : (a0_0 == a1_0) = true
 ·rw [if_pos c3] at H
  have c3b0 : (a0_0 == a1_0) = true := c3
  (try (have c3b1 : decide (a0_0 = a1_0) = true := by simpa using c3))
  (try (have c3b2 : (a0_0 == a1_0) = true := by simpa using c3))
  clear c3
  obtain ⟨t659, A4, H⟩ := bindA H
  by_cases c5 : t659 = true
  ·subst c5
   have H1 : ((sibylref01_Same.f k l0_2 l1_2).bind fun t660 => (some t660)) = some r := by rw [if_pos rfl] at H; exact H
   clear H
   have H := H1
   clear H1
   obtain ⟨t660, A6, H⟩ := bindA H
   obtain rfl := Option.some.inj H
   go_enter Try.func14, Try.ntmps14
   go_wp2_with (first | ((with_reducible refine gate_dst (N := 2) rfl ?_); refine box_event ?hg (N := 2) ?hd (cs := #[.bool a0_0, .slice A0_1 l0_1.length c0_1, .slice A0_2 l0_2.length c0_2]) (t := 36) ?hr ?_; (case hd => rfl); (case hg => rfl); (case hr => first | (go_simp; done) | (go_simp; rfl)); intro gb657 hg w7 hbox hb; have n_ := mk4 (below_step (bl HB) hb) (hbox) ((by rw [hg]; exact (below_size (bl HB)) : w.heap.size ≤ gb657)) ((by rw [hg]; exact (below_size (bl HB)) : w.heap.size ≤ gb657)); clear HB; obtain ⟨HB, BK657, GW657, GE657⟩ := n_; clear hb hbox hg) | ((with_reducible refine gate_dst (N := 3) rfl ?_); refine box_event ?hg (N := 3) ?hd (cs := #[.bool a1_0, .slice A1_1 l1_1.length c1_1, .slice A1_2 l1_2.length c1_2]) (t := 36) ?hr ?_; (case hd => rfl); (case hg => rfl); (case hr => first | (go_simp; done) | (go_simp; rfl)); intro gb658 hg w8 hbox hb; have n0_ := Aside0.mk (blk_below (ba BK657.out) hb); have n1_ := Aside0.mk (below_step (bl1 HB GE657) hb); have n2_ := Aside0.mk (hbox); have n3_ := Aside0.mk ((by rw [hg]; exact (below_size (bl1 HB GE657)) : w.heap.size ≤ gb658)); have n4_ := Aside0.mk ((by rw [hg]; exact (below_size (bl1 HB GE657)) : w.heap.size ≤ gb658)); have n5_ := Aside0.mk ((by rw [hg]; exact Nat.ne_of_lt (blk_lt (g := gb657) (o := .cells #[.bool a0_0, .slice A0_1 l0_1.length c0_1, .slice A0_2 l0_2.length c0_2] 36 (0, 0)) (ba BK657.out)) : gb657 ≠ gb658)); have n6_ := Aside0.mk ((by rw [hg]; exact Nat.ne_of_gt (blk_lt (g := gb657) (o := .cells #[.bool a0_0, .slice A0_1 l0_1.length c0_1, .slice A0_2 l0_2.length c0_2] 36 (0, 0)) (ba BK657.out)) : gb658 ≠ gb657)); clear BK657; clear HB; have BK657 := n0_; have HB := n1_; have BK658 := n2_; have GW658 := n3_; have GE658 := n4_; have NB657_658 := n5_; have NB658_657 := n6_; clear n0_ n1_ n2_ n3_ n4_ n5_ n6_; clear hb hbox hg; have hnb9 := NB657_658.out; have hnc9 := NB658_657.out; obtain ⟨hcz10_0, hcz10_1, hcz10_2, hfz10_0, hfz10_1, hfz10_2⟩ := blk3 BK657.out; obtain ⟨hcz11_0, hcz11_1, hcz11_2, hfz11_0, hfz11_1, hfz11_2⟩ := blk3 BK658.out) | (go_at_call 36; (with_reducible refine (sibylref01_Same.calls k _ _ l0_1 _ _ l1_1 true _ ?side1 ?side2 ?side3 ?side4 A4.out).mono ?_); (case side1 => exact ca (Kd.C_below HR0_1.out HB.out)); (case side2 => exact HC0_1.out); (case side3 => exact ca (Kd.C_below HR1_1.out HB.out)); (case side4 => exact HC1_1.out); rintro e w' ⟨rfl, ⟨nd, rfl⟩⟩) | (go_at_call 36; (with_reducible refine (sibylref01_Same.calls k _ _ l0_2 _ _ l1_2 t660 _ ?side1 ?side2 ?side3 ?side4 A6.out).mono ?_); (case side1 => exact (Kd.C_below HR0_2.out (bl2 HB GE657 GE658))); (case side2 => exact HC0_2.out); (case side3 => exact (Kd.C_below HR1_2.out (bl2 HB GE657 GE658))); (case side4 => exact HC1_2.out); rintro e w' ⟨rfl, ⟨nd, rfl⟩⟩))
   go_ret
   exact ⟨by first | rfl | simp [*], bl2 HB GE657 GE658⟩
  ·replace c5 := Bool.eq_false_iff.mpr c5
   subst c5
   have H1 : (some false) = some r := by rw [if_neg (show ¬ (false = true) by decide)] at H; exact H
   clear H
   have H := H1
   clear H1
   obtain rfl := Option.some.inj H
   go_enter Try.func14, Try.ntmps14
   go_wp2_with (first | ((with_reducible refine gate_dst (N := 2) rfl ?_); refine box_event ?hg (N := 2) ?hd (cs := #[.bool a0_0, .slice A0_1 l0_1.length c0_1, .slice A0_2 l0_2.length c0_2]) (t := 36) ?hr ?_; (case hd => rfl); (case hg => rfl); (case hr => first | (go_simp; done) | (go_simp; rfl)); intro gb657 hg w12 hbox hb; have n_ := mk4 (below_step (bl HB) hb) (hbox) ((by rw [hg]; exact (below_size (bl HB)) : w.heap.size ≤ gb657)) ((by rw [hg]; exact (below_size (bl HB)) : w.heap.size ≤ gb657)); clear HB; obtain ⟨HB, BK657, GW657, GE657⟩ := n_; clear hb hbox hg) | ((with_reducible refine gate_dst (N := 3) rfl ?_); refine box_event ?hg (N := 3) ?hd (cs := #[.bool a1_0, .slice A1_1 l1_1.length c1_1, .slice A1_2 l1_2.length c1_2]) (t := 36) ?hr ?_; (case hd => rfl); (case hg => rfl); (case hr => first | (go_simp; done) | (go_simp; rfl)); intro gb658 hg w13 hbox hb; have n0_ := Aside0.mk (blk_below (ba BK657.out) hb); have n1_ := Aside0.mk (below_step (bl1 HB GE657) hb); have n2_ := Aside0.mk (hbox); have n3_ := Aside0.mk ((by rw [hg]; exact (below_size (bl1 HB GE657)) : w.heap.size ≤ gb658)); have n4_ := Aside0.mk ((by rw [hg]; exact (below_size (bl1 HB GE657)) : w.heap.size ≤ gb658)); have n5_ := Aside0.mk ((by rw [hg]; exact Nat.ne_of_lt (blk_lt (g := gb657) (o := .cells #[.bool a0_0, .slice A0_1 l0_1.length c0_1, .slice A0_2 l0_2.length c0_2] 36 (0, 0)) (ba BK657.out)) : gb657 ≠ gb658)); have n6_ := Aside0.mk ((by rw [hg]; exact Nat.ne_of_gt (blk_lt (g := gb657) (o := .cells #[.bool a0_0, .slice A0_1 l0_1.length c0_1, .slice A0_2 l0_2.length c0_2] 36 (0, 0)) (ba BK657.out)) : gb658 ≠ gb657)); clear BK657; clear HB; have BK657 := n0_; have HB := n1_; have BK658 := n2_; have GW658 := n3_; have GE658 := n4_; have NB657_658 := n5_; have NB658_657 := n6_; clear n0_ n1_ n2_ n3_ n4_ n5_ n6_; clear hb hbox hg; have hnb14 := NB657_658.out; have hnc14 := NB658_657.out; obtain ⟨hcz15_0, hcz15_1, hcz15_2, hfz15_0, hfz15_1, hfz15_2⟩ := blk3 BK657.out; obtain ⟨hcz16_0, hcz16_1, hcz16_2, hfz16_0, hfz16_1, hfz16_2⟩ := blk3 BK658.out) | (go_at_call 36; (with_reducible refine (sibylref01_Same.calls k _ _ l0_1 _ _ l1_1 false _ ?side1 ?side2 ?side3 ?side4 A4.out).mono ?_); (case side1 => exact ca (Kd.C_below HR0_1.out HB.out)); (case side2 => exact HC0_1.out); (case side3 => exact ca (Kd.C_below HR1_1.out HB.out)); (case side4 => exact HC1_1.out); rintro e w' ⟨rfl, ⟨nd, rfl⟩⟩))
   go_ret
   exact ⟨by first | rfl | simp [*], bl2 HB GE657 GE658⟩
 ·rw [if_neg c3] at H
  have c3b0 : (a0_0 == a1_0) = false := by simpa using c3
  (try (have c3b1 : decide (a0_0 = a1_0) = false := by simpa using c3))
  (try (have c3b2 : (a0_0 == a1_0) = false := by simpa using c3))
  (try (have c3b3 : ¬ (a0_0 = a1_0) := by simpa using c3))
  clear c3
  obtain rfl := Option.some.inj H
  go_enter Try.func14, Try.ntmps14
  go_wp2_with (first | ((with_reducible refine gate_dst (N := 2) rfl ?_); refine box_event ?hg (N := 2) ?hd (cs := #[.bool a0_0, .slice A0_1 l0_1.length c0_1, .slice A0_2 l0_2.length c0_2]) (t := 36) ?hr ?_; (case hd => rfl); (case hg => rfl); (case hr => first | (go_simp; done) | (go_simp; rfl)); intro gb657 hg w17 hbox hb; have n_ := mk4 (below_step (bl HB) hb) (hbox) ((by rw [hg]; exact (below_size (bl HB)) : w.heap.size ≤ gb657)) ((by rw [hg]; exact (below_size (bl HB)) : w.heap.size ≤ gb657)); clear HB; obtain ⟨HB, BK657, GW657, GE657⟩ := n_; clear hb hbox hg) | ((with_reducible refine gate_dst (N := 3) rfl ?_); refine box_event ?hg (N := 3) ?hd (cs := #[.bool a1_0, .slice A1_1 l1_1.length c1_1, .slice A1_2 l1_2.length c1_2]) (t := 36) ?hr ?_; (case hd => rfl); (case hg => rfl); (case hr => first | (go_simp; done) | (go_simp; rfl)); intro gb658 hg w18 hbox hb; have n0_ := Aside0.mk (blk_below (ba BK657.out) hb); have n1_ := Aside0.mk (below_step (bl1 HB GE657) hb); have n2_ := Aside0.mk (hbox); have n3_ := Aside0.mk ((by rw [hg]; exact (below_size (bl1 HB GE657)) : w.heap.size ≤ gb658)); have n4_ := Aside0.mk ((by rw [hg]; exact (below_size (bl1 HB GE657)) : w.heap.size ≤ gb658)); have n5_ := Aside0.mk ((by rw [hg]; exact Nat.ne_of_lt (blk_lt (g := gb657) (o := .cells #[.bool a0_0, .slice A0_1 l0_1.length c0_1, .slice A0_2 l0_2.length c0_2] 36 (0, 0)) (ba BK657.out)) : gb657 ≠ gb658)); have n6_ := Aside0.mk ((by rw [hg]; exact Nat.ne_of_gt (blk_lt (g := gb657) (o := .cells #[.bool a0_0, .slice A0_1 l0_1.length c0_1, .slice A0_2 l0_2.length c0_2] 36 (0, 0)) (ba BK657.out)) : gb658 ≠ gb657)); clear BK657; clear HB; have BK657 := n0_; have HB := n1_; have BK658 := n2_; have GW658 := n3_; have GE658 := n4_; have NB657_658 := n5_; have NB658_657 := n6_; clear n0_ n1_ n2_ n3_ n4_ n5_ n6_; clear hb hbox hg; have hnb19 := NB657_658.out; have hnc19 := NB658_657.out; obtain ⟨hcz20_0, hcz20_1, hcz20_2, hfz20_0, hfz20_1, hfz20_2⟩ := blk3 BK657.out; obtain ⟨hcz21_0, hcz21_1, hcz21_2, hfz21_0, hfz21_1, hfz21_2⟩ := blk3 BK658.out))
  go_ret
  exact ⟨by first | rfl | simp [*], bl2 HB GE657 GE658⟩
def sibylref21_Exact.l0 : Nat → List (S68) → Int → Bool → List Int → List Int → Option (Bool × List Int × List Int × Int)
 | 0, _, _, _, _, _ => none
 | k + 1, x0, x5, x641000, x641001, x641002 => if x5 < (x0.length : Int) then (if 0 ≤ x5 then ((sibylref02_Of.f k ((rd_T68 x0 x5).f0)).bind fun bt642 => ((sibylref02_Div.f k x641000 x641001 x641002 bt642.1 bt642.2.1 bt642.2.2).bind fun bt649 => (if bt649.2.2.2 = 0 then (sibylref21_Exact.l0 k x0 (wrap64 (x5 + 1)) bt649.1 bt649.2.1 bt649.2.2.1) else (some (false, ([] : List Int), ([] : List Int), bt649.2.2.2))))) else (none)) else (some (x641000, x641001, x641002, 0))
def sibylref21_Exact.f (k : Nat) (l0 : List (S68)) : Option (Bool × List Int × List Int × Int) := (sibylref21_good.f k l0).bind fun t632 => (if t632 = true then ((sibylref02_Of.f k 1).bind fun bt633 => (sibylref21_Exact.l0 k l0 0 bt633.1 bt633.2.1 bt633.2.2)) else (some (false, ([] : List Int), ([] : List Int), 2)))
def sibylref21_Exact.T8 : Bool × List (List Nat × List Nat) := (true, [([], []), ([], []), ([], []), ([1, 2], [1, 2]), ([3], [3]), ([4], [4]), ([5], [5]), ([0, 6, 6], [0, 6]), ([7], [7]), ([8], [8]), ([8], [8]), ([9, 7, 0, 1, 2, 3, 4, 5, 6, 7, 8, 9], [9]), ([10, 11, 0, 1, 2, 3, 4, 5, 6, 7, 8, 9, 10, 11], [10])])
def sibylref21_Exact.B8 : List Nat := [0, 0, 0, 6, 14, 30, 62, 127, 255, 511, 511, 1023, 4095]
theorem sibylref21_Exact.tab8 : rtab .any (opsOf Try.f12 8) = sibylref21_Exact.T8 := by kernel_rfl
theorem sibylref21_Exact.bits8 : waitsOk sibylref21_Exact.T8.2 sibylref21_Exact.B8 = true := by kernel_rfl
set_option maxHeartbeats 8000000 in
set_option maxRecDepth 100000 in
theorem sibylref21_Exact.calls (k : Nat) (A0 : Option Addr) (c0 : Nat) (l0 : List (S68)) (r1 : Bool) (r2 : List Int) (r3 : List Int) (r4 : Int) (w : World) (hr0 : Kd.C k68 w A0 l0.length l0) (hc0 : l0.length ≤ c0) (h : sibylref21_Exact.f k l0 = some (r1, r2, r3, r4)) :
  Calls Try.prog 12 #[.slice A0 l0.length c0] w fun e w' => ∃ v1_ v2_ : Value, e = .returned (.tuple #[.agg #[.bool r1, v1_, v2_], .int .i64 r4]) ∧ Kd.R (Kd.int .u32) 99 w' w.heap.size (fun k_ => some k_ ≠ (v2_ : Value).ownBlock) v1_ r2 ∧ Kd.R (Kd.int .u32) 99 w' w.heap.size (fun k_ => some k_ ≠ (v1_ : Value).ownBlock) v2_ r3 ∧ Below w.heap.size w w' := by
 have hu36 := Try.underlying36
 have HR0 := Aside0.mk hr0
 have HC0 := Aside0.mk hc0
 clear hr0 hc0
 have HB := Aside0.mk (Below.refl w.heap.size w)
 have H : ((sibylref21_good.f k l0).bind fun t632 => (if t632 = true then ((sibylref02_Of.f k 1).bind fun bt633 => (sibylref21_Exact.l0 k l0 0 bt633.1 bt633.2.1 bt633.2.2)) else (some (false, ([] : List Int), ([] : List Int), 2)))) = some (r1, r2, r3, r4) := h
 clear h
 obtain ⟨t632, A2, H⟩ := bindA H
 by_cases c3 : t632 = true
 ·subst c3
  have H1 : ((sibylref02_Of.f k 1).bind fun bt633 => (sibylref21_Exact.l0 k l0 0 bt633.1 bt633.2.1 bt633.2.2)) = some (r1, r2, r3, r4) := by rw [if_pos rfl] at H; exact H
  clear H
  have H := H1
  clear H1
  obtain ⟨⟨t633, t634, t637⟩, A4, H⟩ := bindA H
  dsimp only at H
  have H' := Aside0.mk H
  clear H
  go_enter Try.func12, Try.ntmps12
  go_wp2_with (first | ((with_reducible refine gate_dst (N := 2) rfl ?_); refine box_event ?hg (N := 2) ?hd (cs := #[.bool false, .slice none 0 0, .slice none 0 0]) (t := 36) ?hr ?_; (case hd => rfl); (case hg => rfl); (case hr => first | (go_simp; done) | (go_simp; rfl)); intro gb631 hg w5 hbox hb; have n_ := mk4 (below_step (bl HB) hb) (hbox) ((by rw [hg]; exact (below_size (bl HB)) : w.heap.size ≤ gb631)) ((by rw [hg]; exact (below_size (bl HB)) : w.heap.size ≤ gb631)); clear HB; obtain ⟨HB, BK631, GW631, GE631⟩ := n_; clear hb hbox hg) | ((with_reducible refine gate_callee (f := 29) rfl ?_); refine goesM (some 8) rfl rfl Try.func29 (by kernel_rfl) rfl #[.slice A0 l0.length c0] rfl (by rfl) ?_; (with_reducible refine (sibylref21_good.calls k _ _ l0 true _ ?side1 ?side2 A2.out).mono ?_); (case side1 => exact ca (Kd.C_below HR0.out HB.out)); (case side2 => exact HC0.out); rintro e w' ⟨rfl, ⟨nd, rfl⟩⟩; refine ⟨_, rfl, ?_⟩; (try (rw [drewN_self w5]; generalize hq_ : World.drewN w5 _ = w5; have n0_ : Aside0 (w5.heap[gb631]? = some (.cells #[.bool false, .slice none 0 0, .slice none 0 0] 36 (0, 0))) := ⟨by rw [← hq_]; exact (ba BK631.out)⟩; have n1_ : Aside0 (Below w.heap.size w w5) := ⟨by rw [← hq_]; exact (bl1 HB GE631)⟩; clear BK631 HB hq_; have BK631 := n0_; have HB := n1_; clear n0_ n1_))) | ((with_reducible refine gate_callee (f := 34) rfl ?_); refine goesM (some 11) rfl rfl Try.func34 (by kernel_rfl) rfl #[.int .i64 1] rfl (by rfl) ?_; (with_reducible refine (sibylref02_Of.calls k 1 t633 t634 t637 _ A4.out).mono ?_); rintro e w6 ⟨v635, v638, rfl, ho0, ho1, hb⟩; refine ⟨_, rfl, ?_⟩; have n_ := mk4 (Kd.R_lower ho0 (below_size (bl1 HB GE631))) (Kd.R_lower ho1 (below_size (bl1 HB GE631))) (blk_below (ba BK631.out) hb) (below_step (bl1 HB GE631) hb); clear BK631 HB; obtain ⟨HO636, HO639, BK631, HB⟩ := n_; (try clear hb); (try clear hb2); (try clear hk); (try clear hi); (try clear ho0); (try clear ho1)) | ((with_reducible refine gate_dst (N := 4) rfl ?_); refine box_event ?hg (N := 4) ?hd (cs := #[.bool false, .slice none 0 0, .slice none 0 0]) (t := 36) ?hr ?_; (case hd => rfl); (case hg => rfl); (case hr => first | (go_simp; done) | (go_simp; rfl)); intro gb640 hg w7 hbox hb; have n0_ := Aside0.mk (Kd.R_below (ra HO636.out) hb); have n1_ := Aside0.mk (Kd.R_below (ra HO639.out) hb); have n2_ := Aside0.mk (blk_below (ba BK631.out) hb); have n3_ := Aside0.mk (below_step (bl1 HB GE631) hb); have n4_ := Aside0.mk (hbox); have n5_ := Aside0.mk ((by rw [hg]; exact (below_size (bl1 HB GE631)) : w.heap.size ≤ gb640)); have n6_ := Aside0.mk ((by rw [hg]; exact (below_size (bl1 HB GE631)) : w.heap.size ≤ gb640)); have n7_ := Aside0.mk ((by rw [hg]; exact Nat.ne_of_lt (blk_lt (g := gb631) (o := .cells #[.bool false, .slice none 0 0, .slice none 0 0] 36 (0, 0)) (ba BK631.out)) : gb631 ≠ gb640)); have n8_ := Aside0.mk ((by rw [hg]; exact Nat.ne_of_gt (blk_lt (g := gb631) (o := .cells #[.bool false, .slice none 0 0, .slice none 0 0] 36 (0, 0)) (ba BK631.out)) : gb640 ≠ gb631)); clear HO636; clear HO639; clear BK631; clear HB; have HO636 := n0_; have HO639 := n1_; have BK631 := n2_; have HB := n3_; have BK640 := n4_; have GW640 := n5_; have GE640 := n6_; have NB631_640 := n7_; have NB640_631 := n8_; clear n0_ n1_ n2_ n3_ n4_ n5_ n6_ n7_ n8_; clear hb hbox hg; have hnb8 := NB640_631.out; have hnc8 := NB631_640.out; obtain ⟨hcz9_0, hcz9_1, hcz9_2, hfz9_0, hfz9_1, hfz9_2⟩ := blk3 BK640.out; obtain ⟨Ao10, co10, eo10⟩ := Kd.R_slice HO636.out; subst eo10; obtain ⟨Ao11, co11, eo11⟩ := Kd.R_slice HO639.out; subst eo11))
  go_loopg [5] k (fun kq v5 w' => ∃ (x5_1 : Int) (x632000_1 : Bool) (x641000_1 : Bool) (x641001_1 : List Int) (x641002_1 : List Int) (u641001 : Value) (u641002 : Value), v5 = .int .i64 x5_1 ∧ Aside0 (sibylref21_Exact.l0 kq l0 x5_1 x641000_1 x641001_1 x641002_1 = some (r1, r2, r3, r4)) ∧ Aside0 (kq ≤ k) ∧ Aside0 (Kd.R (Kd.int .u32) 99 w' w.heap.size (fun k_ => some k_ ≠ (u641002 : Value).ownBlock) u641001 x641001_1) ∧ Aside0 (Kd.R (Kd.int .u32) 99 w' w.heap.size (fun k_ => some k_ ≠ (u641001 : Value).ownBlock) u641002 x641002_1) ∧ Aside0 (w'.heap[gb631]? = some (.cells #[.bool x632000_1, (.slice none 0 0), (.slice none 0 0)] 36 (0, 0))) ∧ Aside0 (w'.heap[gb640]? = some (.cells #[.bool x641000_1, u641001, u641002] 36 (0, 0))) ∧ Aside0 (Below w.heap.size w w'))
  case atStart => exact ⟨(0), (false), (t633), (t634), (t637), (.slice Ao10 t634.length co10), (.slice Ao11 t637.length co11), (by first | rfl | (simp; done) | (simp [*]; done)), H', ⟨Nat.le_refl _⟩, ⟨ra (Kd.R_mono (Kd.R_far (p := ⟨gb640, 2, none⟩) (Kd.R_far (p := ⟨gb640, 1, none⟩) (Kd.R_far (p := ⟨gb640, 0, none⟩) (Kd.R_types HO636.out BK640.out (by decide)) (fun _ hk => hk.2) (.bool t633)) (fun _ hk => hk.2) (.slice Ao10 t634.length co10)) (fun _ hk => hk.2) (.slice Ao11 t637.length co11)) (fun _ hk => hk.1))⟩, ⟨ra (Kd.R_mono (Kd.R_far (p := ⟨gb640, 2, none⟩) (Kd.R_far (p := ⟨gb640, 1, none⟩) (Kd.R_far (p := ⟨gb640, 0, none⟩) (Kd.R_types HO639.out BK640.out (by decide)) (fun _ hk => hk.2) (.bool t633)) (fun _ hk => hk.2) (.slice Ao10 t634.length co10)) (fun _ hk => hk.2) (.slice Ao11 t637.length co11)) (fun _ hk => hk.1))⟩, ⟨by (with_reducible repeat (first | refine blk_drewN ?_ _ | refine blk_drew ?_ | refine blk_alloc ?_ _)); refine blk_far ?_ NB631_640.out _; (with_reducible repeat (first | refine blk_drewN ?_ _ | refine blk_drew ?_ | refine blk_alloc ?_ _)); refine blk_far ?_ NB631_640.out _; (with_reducible repeat (first | refine blk_drewN ?_ _ | refine blk_drew ?_ | refine blk_alloc ?_ _)); refine blk_far ?_ NB631_640.out _; (with_reducible repeat (first | refine blk_drewN ?_ _ | refine blk_drew ?_ | refine blk_alloc ?_ _)); exact BK631.out⟩, ⟨by exact bp BK640.out rfl⟩, ⟨bl2 HB GE631 GE640⟩⟩
  case round =>
   clear H'
   try clear c1
   try clear c2
   try clear p2
   try clear c3
   try clear c8
   try clear hcz9_0
   try clear hcz9_1
   try clear hcz9_2
   try clear hfz9_0
   try clear hfz9_1
   try clear hfz9_2
   obtain ⟨x5_1, x632000_1, x641000_1, x641001_1, x641002_1, u641001, u641002, rfl, HA, HK1, HO_641001, HO_641002, BK631, BK640, HB⟩ := hrel
   cases gk with
   | zero => exact absurd HA.out (by simp [sibylref21_Exact.l0])
   | succ k1 =>
    have H := HA.out
    clear HA
    simp only [sibylref21_Exact.l0] at H
    by_cases c12 : x5_1 < (l0.length : Int)
    ·rw [if_pos c12] at H
     have c12b0 : decide (x5_1 < (l0.length : Int)) = true := decide_eq_true c12
     clear c12
     by_cases c13 : 0 ≤ x5_1
     ·rw [if_pos c13] at H
      have c13b0 : decide (0 ≤ x5_1) = true := decide_eq_true c13
      clear c13
      obtain ⟨⟨t642, t643, t646⟩, A14, H⟩ := bindA H
      dsimp only at H
      obtain ⟨⟨t649, t650, t653, t656⟩, A15, H⟩ := bindA H
      dsimp only at H
      by_cases c16 : t656 = 0
      ·rw [if_pos c16] at H
       have c16b0 : (t656 == 0) = true := beq_iff_eq.mpr c16
       have c16b1 : (t656 != 0) = false := bne_eq_false_iff_eq.mpr c16
       clear c16
       have H' := Aside0.mk H
       clear H
       try go_wp2
       have n0_ := Aside0.mk (Kd.R_drew HO_641001.out)
       have n1_ := Aside0.mk (Kd.R_drew HO_641002.out)
       have n2_ := Aside0.mk (blk_drew BK631.out)
       have n3_ := Aside0.mk (blk_drew BK640.out)
       have n4_ := Aside0.mk (below_drew1 HB.out)
       clear HO_641001
       clear HO_641002
       clear BK631
       clear BK640
       clear HB
       have HO_641001 := n0_
       have HO_641002 := n1_
       have BK631 := n2_
       have BK640 := n3_
       have HB := n4_
       clear n0_ n1_ n2_ n3_ n4_
       have p641 : 0 ≤ (x5_1 : Int) := of_decide_eq_true (by first | (with_reducible assumption) | assumption)
       have q641 : x5_1 < (l0.length : Int) := of_decide_eq_true (by first | (with_reducible assumption) | assumption)
       obtain ⟨ad641, e641, hx641_0, hx641_1⟩ := at_T68 HR0.out x5_1 p641 q641
       have hw641_1 := hx641_1
       have hw641_0 := hx641_0
       cases e641
       replace hx641_0 := (HB.out.cell (World.block_lt_of_cell? w _ hx641_0)).trans hx641_0
       replace hx641_1 := (HB.out.cell (World.block_lt_of_cell? w _ hx641_1)).trans hx641_1
       replace p641 := eq_true p641
       replace q641 := eq_true q641
       refine start_ (n := 13) (S := fun w' => w'.cell? ⟨gb640, 0, none⟩ = some (.bool x641000_1) ∧ w'.cell? ⟨gb640, 1, none⟩ = some (u641001) ∧ w'.cell? ⟨gb640, 2, none⟩ = some (u641002) ∧ w'.cell? (ad641.add ((x5_1).toNat * 2)) = some (.int .i64 ((rd_T68 l0 x5_1).f0)) ∧ w'.cell? ⟨(ad641.add ((x5_1).toNat * 2)).block, (ad641.add ((x5_1).toNat * 2)).off + 1, none⟩ = some (.int .i64 ((rd_T68 l0 x5_1).f1))) (ds := [11]) #[false, false, false, false, false, false, false, false, false, false, false, false, false] (by kernel_rfl) rfl rfl ⟨(blk_cell BK640.out 0).trans rfl, (blk_cell BK640.out 1).trans rfl, (blk_cell BK640.out 2).trans rfl, ((HB.out.cell (World.block_lt_of_cell? w _ hw641_0)).trans hw641_0), ((HB.out.cell (World.block_lt_of_cell? w _ hw641_1)).trans hw641_1)⟩ (fun hHeld => ?_); refine with_tabW sibylref21_Exact.tab8 sibylref21_Exact.bits8 (fun HT_ HW_ => ?_)
       generalize wr.drew = w17 at HO_641001 HO_641002 BK631 BK640 HB hx641_0 hx641_1 hHeld ⊢
       refine pure_ (i := 1) (N := some 20) (v := ?_) (a' := ?_) #[false, true, false, false, false, false, false, false, false, false, false, false, false] rfl rfl (any_of HT_.out (by kernel_rfl)) (fun _ _ _ h => h) (Or.inl ⟨by rfl, ?_⟩) ?_ ?_
       rotate_left
       ·intro w'
        go_simp
        with_reducible rfl
       rotate_left
       ·simp only [Act.put, List.setIfInBounds_toArray, List.set_cons_zero, List.set_cons_succ, i64_w, i32_w]
        rfl
       refine pure_ (i := 2) (N := some 21) (v := ?_) (a' := ?_) #[false, true, true, false, false, false, false, false, false, false, false, false, false] rfl rfl (any_of HT_.out (by kernel_rfl)) (fun _ _ _ h => h) (Or.inl ⟨by rfl, ?_⟩) ?_ ?_
       rotate_left
       ·intro w'
        go_simp
        with_reducible rfl
       rotate_left
       ·simp only [Act.put, List.setIfInBounds_toArray, List.set_cons_zero, List.set_cons_succ, i64_w, i32_w]
        rfl
       refine pure_ (i := 3) (N := some 22) (v := ?_) (a' := ?_) #[false, true, true, true, false, false, false, false, false, false, false, false, false] rfl rfl (any_of HT_.out (by kernel_rfl)) (fun _ _ _ h => h) (Or.inl ⟨by rfl, ?_⟩) ?_ ?_
       rotate_left
       ·intro w'
        go_simp
        with_reducible rfl
       rotate_left
       ·simp only [Act.put, List.setIfInBounds_toArray, List.set_cons_zero, List.set_cons_succ, i64_w, i32_w]
        rfl
       refine pure_ (i := 4) (N := some 23) (v := ?_) (a' := ?_) #[false, true, true, true, true, false, false, false, false, false, false, false, false] rfl rfl (any_of HT_.out (by kernel_rfl)) (fun _ _ _ h => h) (Or.inl ⟨by rfl, ?_⟩) ?_ ?_
       rotate_left
       ·intro w'
        go_simp
        with_reducible rfl
       rotate_left
       ·simp only [Act.put, List.setIfInBounds_toArray, List.set_cons_zero, List.set_cons_succ, i64_w, i32_w]
        rfl
       refine take_ (i := 0) (N := some 19) (v := ?_) (a' := ?_) #[true, true, true, true, true, false, false, false, false, false, false, false, false] rfl rfl (take_ofW HT_.out HW_.out (by kernel_rfl)) (fun _ _ _ h => h) (Or.inl ⟨by rfl, ?_⟩) hHeld ?_ ?_
       rotate_left
       ·rintro w' ⟨s0, s1, s2, s3, s4⟩
        go_simp
        with_reducible rfl
       rotate_left
       ·simp only [Act.put, List.setIfInBounds_toArray, List.set_cons_zero, List.set_cons_succ, i64_w, i32_w]
        rfl
       refine take_ (i := 5) (N := some 24) (v := ?_) (a' := ?_) #[true, true, true, true, true, true, false, false, false, false, false, false, false] rfl rfl (take_ofW HT_.out HW_.out (by kernel_rfl)) (fun _ _ _ h => h) (Or.inl ⟨by rfl, ?_⟩) hHeld ?_ ?_
       rotate_left
       ·rintro w' ⟨s0, s1, s2, s3, s4⟩
        go_simp
        with_reducible rfl
       rotate_left
       ·simp only [Act.put, List.setIfInBounds_toArray, List.set_cons_zero, List.set_cons_succ, i64_w, i32_w]
        rfl
       refine one_ (i := 6) (N := some 25) #[true, true, true, true, true, true, true, false, false, false, false, false, false] rfl rfl (one_of HT_.out (by kernel_rfl)) (by decide) (fun K hK => ?_)
       refine goes_ Try.func34 (by kernel_rfl) rfl #[.int .i64 ((rd_T68 l0 x5_1).f0)] (by rfl) rfl rfl (by (try simp only [List.map_toArray, List.map_cons, List.map_nil]); first | done | rfl | (simp only [List.length_drop, List.length_take]; rfl)) ?_
       with_reducible refine (sibylref02_Of.calls k1 ((rd_T68 l0 x5_1).f0) t642 t643 t646 _ A14.out).mono ?_
       rintro e w18 ⟨v644, v647, rfl, ho0, ho1, hb⟩
       refine ⟨_, rfl, ?_⟩
       have n0_ := Aside0.mk (Kd.R_mono (Kd.R_told (Kd.R_told (Kd.R_old (ra HO_641001.out) hb) (Kd.R_base ho0)) (Kd.R_base ho1)) (fun _ h_ => h_.1))
       have n1_ := Aside0.mk (Kd.R_mono (Kd.R_told (Kd.R_told (Kd.R_old (ra HO_641002.out) hb) (Kd.R_base ho0)) (Kd.R_base ho1)) (fun _ h_ => h_.1))
       have n2_ := Aside0.mk (Kd.R_lower (Kd.R_new' (Kd.R_new' ho0 (Kd.R_lt (ra HO_641001.out))) (Kd.R_lt (ra HO_641002.out))) (below_size (bl2 HB GE631 GE640)))
       have n3_ := Aside0.mk (Kd.R_lower (Kd.R_new' (Kd.R_new' ho1 (Kd.R_lt (ra HO_641001.out))) (Kd.R_lt (ra HO_641002.out))) (below_size (bl2 HB GE631 GE640)))
       have n4_ := Aside0.mk (blk_below (ba BK631.out) hb)
       have n5_ := Aside0.mk (blk_below (ba BK640.out) hb)
       have n6_ := Aside0.mk (below_step (bl2 HB GE631 GE640) hb)
       clear HO_641001
       clear HO_641002
       clear BK631
       clear BK640
       clear HB
       have HO_641001 := n0_
       have HO_641002 := n1_
       have HO645 := n2_
       have HO648 := n3_
       have BK631 := n4_
       have BK640 := n5_
       have HB := n6_
       clear n0_ n1_ n2_ n3_ n4_ n5_ n6_
       (try clear hb)
       (try clear hb2)
       (try clear hk)
       (try clear hi)
       (try clear ho0)
       (try clear ho1)
       obtain ⟨Ao19, co19, eo19⟩ := Kd.R_slice HO_641001.out
       (first | subst eo19 | (injection eo19 with f1_ f2_ f3_; have f4_ := f1_.symm; have f5_ := f3_.symm; clear f1_ f2_ f3_; subst f4_; subst f5_))
       obtain ⟨Ao20, co20, eo20⟩ := Kd.R_slice HO_641002.out
       (first | subst eo20 | (injection eo20 with f1_ f2_ f3_; have f4_ := f1_.symm; have f5_ := f3_.symm; clear f1_ f2_ f3_; subst f4_; subst f5_))
       obtain ⟨Ao21, co21, eo21⟩ := Kd.R_slice HO645.out
       (first | subst eo21 | (injection eo21 with f1_ f2_ f3_; have f4_ := f1_.symm; have f5_ := f3_.symm; clear f1_ f2_ f3_; subst f4_; subst f5_))
       obtain ⟨Ao22, co22, eo22⟩ := Kd.R_slice HO648.out
       (first | subst eo22 | (injection eo22 with f1_ f2_ f3_; have f4_ := f1_.symm; have f5_ := f3_.symm; clear f1_ f2_ f3_; subst f4_; subst f5_))
       refine hK.out _ _ ⟨(blk_cell BK640.out 0).trans rfl, (blk_cell BK640.out 1).trans rfl, (blk_cell BK640.out 2).trans rfl, ((HB.out.cell (World.block_lt_of_cell? w _ hw641_0)).trans hw641_0), ((HB.out.cell (World.block_lt_of_cell? w _ hw641_1)).trans hw641_1)⟩ (fun hHeld => ?_)
       clear hK K
       refine norm_ (a' := ?_) ?_ ?_
       rotate_left
       ·show Act.put _ (some 25) _ = _
        simp only [Act.put, List.setIfInBounds_toArray, List.set_cons_zero, List.set_cons_succ, i64_w, i32_w]
        rfl
       refine one_ (i := 7) (N := some 26) #[true, true, true, true, true, true, true, true, false, false, false, false, false] rfl rfl (one_of HT_.out (by kernel_rfl)) (by decide) (fun K hK => ?_)
       refine goes_ Try.func35 (by kernel_rfl) rfl #[.agg #[.bool x641000_1, .slice Ao19 x641001_1.length co19, .slice Ao20 x641002_1.length co20], .agg #[.bool t642, .slice Ao21 t643.length co21, .slice Ao22 t646.length co22]] (by rfl) rfl rfl (by (try simp only [List.map_toArray, List.map_cons, List.map_nil]); first | done | rfl | (simp only [List.length_drop, List.length_take]; rfl)) ?_
       with_reducible refine (sibylref02_Div.calls k1 x641000_1 _ _ x641001_1 _ _ x641002_1 t642 _ _ t643 _ _ t646 t649 t650 t653 t656 _ ?side1 ?side2 ?side3 ?side4 ?side5 ?side6 ?side7 ?side8 A15.out).mono ?_
       (case side1 => exact ca ((Kd.R_reads' HO_641001.out).2.2))
       (case side2 => exact (Kd.R_reads' HO_641001.out).2.1)
       (case side3 => exact ca ((Kd.R_reads' HO_641002.out).2.2))
       (case side4 => exact (Kd.R_reads' HO_641002.out).2.1)
       (case side5 => exact ca ((Kd.R_reads' HO645.out).2.2))
       (case side6 => exact (Kd.R_reads' HO645.out).2.1)
       (case side7 => exact ca ((Kd.R_reads' HO648.out).2.2))
       (case side8 => exact (Kd.R_reads' HO648.out).2.1)
       rintro e w23 ⟨v651, v654, rfl, ho0, ho1, hb⟩
       refine ⟨_, rfl, ?_⟩
       have n0_ := Aside0.mk (Kd.R_mono (Kd.R_told (Kd.R_told (Kd.R_old (ra HO_641001.out) hb) (Kd.R_base ho0)) (Kd.R_base ho1)) (fun _ h_ => h_.1))
       have n1_ := Aside0.mk (Kd.R_mono (Kd.R_told (Kd.R_told (Kd.R_old (ra HO_641002.out) hb) (Kd.R_base ho0)) (Kd.R_base ho1)) (fun _ h_ => h_.1))
       have n2_ := Aside0.mk (Kd.R_mono (Kd.R_told (Kd.R_told (Kd.R_old (ra HO645.out) hb) (Kd.R_base ho0)) (Kd.R_base ho1)) (fun _ h_ => h_.1))
       have n3_ := Aside0.mk (Kd.R_mono (Kd.R_told (Kd.R_told (Kd.R_old (ra HO648.out) hb) (Kd.R_base ho0)) (Kd.R_base ho1)) (fun _ h_ => h_.1))
       have n4_ := Aside0.mk (Kd.R_lower (Kd.R_new' (Kd.R_new' (Kd.R_new' (Kd.R_new' ho0 (Kd.R_lt (ra HO_641001.out))) (Kd.R_lt (ra HO_641002.out))) (Kd.R_lt (ra HO645.out))) (Kd.R_lt (ra HO648.out))) (below_size (bl2 HB GE631 GE640)))
       have n5_ := Aside0.mk (Kd.R_lower (Kd.R_new' (Kd.R_new' (Kd.R_new' (Kd.R_new' ho1 (Kd.R_lt (ra HO_641001.out))) (Kd.R_lt (ra HO_641002.out))) (Kd.R_lt (ra HO645.out))) (Kd.R_lt (ra HO648.out))) (below_size (bl2 HB GE631 GE640)))
       have n6_ := Aside0.mk (blk_below (ba BK631.out) hb)
       have n7_ := Aside0.mk (blk_below (ba BK640.out) hb)
       have n8_ := Aside0.mk (below_step (bl2 HB GE631 GE640) hb)
       clear HO_641001
       clear HO_641002
       clear HO645
       clear HO648
       clear BK631
       clear BK640
       clear HB
       have HO_641001 := n0_
       have HO_641002 := n1_
       have HO645 := n2_
       have HO648 := n3_
       have HO652 := n4_
       have HO655 := n5_
       have BK631 := n6_
       have BK640 := n7_
       have HB := n8_
       clear n0_ n1_ n2_ n3_ n4_ n5_ n6_ n7_ n8_
       (try clear hb)
       (try clear hb2)
       (try clear hk)
       (try clear hi)
       (try clear ho0)
       (try clear ho1)
       obtain ⟨Ao25, co25, eo25⟩ := Kd.R_slice HO652.out
       (first | subst eo25 | (injection eo25 with f1_ f2_ f3_; have f4_ := f1_.symm; have f5_ := f3_.symm; clear f1_ f2_ f3_; subst f4_; subst f5_))
       obtain ⟨Ao27, co27, eo27⟩ := Kd.R_slice HO655.out
       (first | subst eo27 | (injection eo27 with f1_ f2_ f3_; have f4_ := f1_.symm; have f5_ := f3_.symm; clear f1_ f2_ f3_; subst f4_; subst f5_))
       refine hK.out _ _ ⟨(blk_cell BK640.out 0).trans rfl, (blk_cell BK640.out 1).trans rfl, (blk_cell BK640.out 2).trans rfl, ((HB.out.cell (World.block_lt_of_cell? w _ hw641_0)).trans hw641_0), ((HB.out.cell (World.block_lt_of_cell? w _ hw641_1)).trans hw641_1)⟩ (fun hHeld => ?_)
       clear hK K
       refine norm_ (a' := ?_) ?_ ?_
       rotate_left
       ·show Act.put _ (some 26) _ = _
        simp only [Act.put, List.setIfInBounds_toArray, List.set_cons_zero, List.set_cons_succ, i64_w, i32_w]
        rfl
       refine pure_ (i := 8) (N := some 18) (v := ?_) (a' := ?_) #[true, true, true, true, true, true, true, true, true, false, false, false, false] rfl rfl (any_of HT_.out (by kernel_rfl)) (fun _ _ _ h => h) (Or.inl ⟨by rfl, ?_⟩) ?_ ?_
       rotate_left
       ·intro w'
        go_simp
        with_reducible rfl
       rotate_left
       ·simp only [Act.put, List.setIfInBounds_toArray, List.set_cons_zero, List.set_cons_succ, i64_w, i32_w]
        rfl
       refine pure_ (i := 9) (N := some 27) (v := ?_) (a' := ?_) #[true, true, true, true, true, true, true, true, true, true, false, false, false] rfl rfl (any_of HT_.out (by kernel_rfl)) (fun _ _ _ h => h) (Or.inl ⟨by rfl, ?_⟩) ?_ ?_
       rotate_left
       ·intro w'
        go_simp
        with_reducible rfl
       rotate_left
       ·simp only [Act.put, List.setIfInBounds_toArray, List.set_cons_zero, List.set_cons_succ, i64_w, i32_w]
        rfl
       refine pure_ (i := 10) (N := some 28) (v := ?_) (a' := ?_) #[true, true, true, true, true, true, true, true, true, true, true, false, false] rfl rfl (any_of HT_.out (by kernel_rfl)) (fun _ _ _ h => h) (Or.inl ⟨by rfl, ?_⟩) ?_ ?_
       rotate_left
       ·intro w'
        go_simp
        with_reducible rfl
       rotate_left
       ·simp only [Act.put, List.setIfInBounds_toArray, List.set_cons_zero, List.set_cons_succ, i64_w, i32_w]
        rfl
       refine last_ (i := 11) (N := none) #[true, true, true, true, true, true, true, true, true, true, true, true, false] rfl rfl (one_of HT_.out (by kernel_rfl)) (by decide) (fun K hK => ?_)
       have hs24 : w23.cell? ⟨gb640, 0, none⟩ = some (.bool x641000_1) := (blk_cell BK640.out 0).trans rfl
       have hfs24 := blk_frozen BK640.out 0
       have hns24_0 := NB631_640.out
       have hms24_0 := NB640_631.out
       have hs26 : w23.cell? ⟨gb640, 1, none⟩ = some (.slice Ao19 x641001_1.length co19) := (blk_cell BK640.out 1).trans rfl
       have hfs26 := blk_frozen BK640.out 1
       have hns26_0 := NB631_640.out
       have hms26_0 := NB640_631.out
       have hs28 : w23.cell? ⟨gb640, 2, none⟩ = some (.slice Ao20 x641002_1.length co20) := (blk_cell BK640.out 2).trans rfl
       have hfs28 := blk_frozen BK640.out 2
       have hns28_0 := NB631_640.out
       have hms28_0 := NB640_631.out
       refine skip_ (w1 := ?_) (by rfl) rfl ?_ ?_
       rotate_left
       ·go_simp
        rfl
       refine hK.out _ _ ?_
       clear hK K
       refine pure_ (i := 12) (N := some 6) (v := ?_) (a' := ?_) #[true, true, true, true, true, true, true, true, true, true, true, true, true] rfl rfl (any_of HT_.out (by kernel_rfl)) (fun _ _ _ h => h) (Or.inl ⟨by rfl, ?_⟩) ?_ ?_
       rotate_left
       ·intro w'
        go_simp
        with_reducible rfl
       rotate_left
       ·simp only [Act.put, List.setIfInBounds_toArray, List.set_cons_zero, List.set_cons_succ, i64_w, i32_w]
        rfl
       refine done_ (done_of HT_.out (by kernel_rfl)) ?_
       try go_wp2
       go_roundg k1
       case measure => have := HK1.out; omega
       case rel => exact ⟨(wrap64 (x5_1 + 1)), (x632000_1), (t649), (t650), (t653), (.slice Ao25 t650.length co25), (.slice Ao27 t653.length co27), (by first | rfl | (simp; done) | (simp [*]; done)), H', ⟨by have := HK1.out; omega⟩, ⟨ra (Kd.R_mono (Kd.R_far (p := ⟨gb640, 2, none⟩) (Kd.R_far (p := ⟨gb640, 1, none⟩) (Kd.R_far (p := ⟨gb640, 0, none⟩) (Kd.R_types HO652.out BK640.out (by decide)) (fun _ hk => hk.2) (.bool t649)) (fun _ hk => hk.2) (.slice Ao25 t650.length co25)) (fun _ hk => hk.2) (.slice Ao27 t653.length co27)) (fun _ hk => hk.1.1.1.1.1))⟩, ⟨ra (Kd.R_mono (Kd.R_far (p := ⟨gb640, 2, none⟩) (Kd.R_far (p := ⟨gb640, 1, none⟩) (Kd.R_far (p := ⟨gb640, 0, none⟩) (Kd.R_types HO655.out BK640.out (by decide)) (fun _ hk => hk.2) (.bool t649)) (fun _ hk => hk.2) (.slice Ao25 t650.length co25)) (fun _ hk => hk.2) (.slice Ao27 t653.length co27)) (fun _ hk => hk.1.1.1.1.1))⟩, ⟨by (with_reducible repeat (first | refine blk_drewN ?_ _ | refine blk_drew ?_ | refine blk_alloc ?_ _)); refine blk_far ?_ NB631_640.out _; (with_reducible repeat (first | refine blk_drewN ?_ _ | refine blk_drew ?_ | refine blk_alloc ?_ _)); refine blk_far ?_ NB631_640.out _; (with_reducible repeat (first | refine blk_drewN ?_ _ | refine blk_drew ?_ | refine blk_alloc ?_ _)); refine blk_far ?_ NB631_640.out _; (with_reducible repeat (first | refine blk_drewN ?_ _ | refine blk_drew ?_ | refine blk_alloc ?_ _)); exact BK631.out⟩, ⟨by exact bp BK640.out rfl⟩, ⟨bl2 HB GE631 GE640⟩⟩
      ·rw [if_neg c16] at H
       have c16b0 : (t656 == 0) = false := beq_eq_false_iff_ne.mpr c16
       have c16b1 : (t656 != 0) = true := bne_iff_ne.mpr c16
       simp only [Option.some.injEq, Prod.mk.injEq] at H
       obtain ⟨rfl, rfl, rfl, rfl⟩ := H
       try go_wp2
       have n0_ := Aside0.mk (Kd.R_drew HO_641001.out)
       have n1_ := Aside0.mk (Kd.R_drew HO_641002.out)
       have n2_ := Aside0.mk (blk_drew BK631.out)
       have n3_ := Aside0.mk (blk_drew BK640.out)
       have n4_ := Aside0.mk (below_drew1 HB.out)
       clear HO_641001
       clear HO_641002
       clear BK631
       clear BK640
       clear HB
       have HO_641001 := n0_
       have HO_641002 := n1_
       have BK631 := n2_
       have BK640 := n3_
       have HB := n4_
       clear n0_ n1_ n2_ n3_ n4_
       have p641 : 0 ≤ (x5_1 : Int) := of_decide_eq_true (by first | (with_reducible assumption) | assumption)
       have q641 : x5_1 < (l0.length : Int) := of_decide_eq_true (by first | (with_reducible assumption) | assumption)
       obtain ⟨ad641, e641, hx641_0, hx641_1⟩ := at_T68 HR0.out x5_1 p641 q641
       have hw641_1 := hx641_1
       have hw641_0 := hx641_0
       cases e641
       replace hx641_0 := (HB.out.cell (World.block_lt_of_cell? w _ hx641_0)).trans hx641_0
       replace hx641_1 := (HB.out.cell (World.block_lt_of_cell? w _ hx641_1)).trans hx641_1
       replace p641 := eq_true p641
       replace q641 := eq_true q641
       refine start_ (n := 13) (S := fun w' => w'.cell? ⟨gb640, 0, none⟩ = some (.bool x641000_1) ∧ w'.cell? ⟨gb640, 1, none⟩ = some (u641001) ∧ w'.cell? ⟨gb640, 2, none⟩ = some (u641002) ∧ w'.cell? (ad641.add ((x5_1).toNat * 2)) = some (.int .i64 ((rd_T68 l0 x5_1).f0)) ∧ w'.cell? ⟨(ad641.add ((x5_1).toNat * 2)).block, (ad641.add ((x5_1).toNat * 2)).off + 1, none⟩ = some (.int .i64 ((rd_T68 l0 x5_1).f1))) (ds := [11]) #[false, false, false, false, false, false, false, false, false, false, false, false, false] (by kernel_rfl) rfl rfl ⟨(blk_cell BK640.out 0).trans rfl, (blk_cell BK640.out 1).trans rfl, (blk_cell BK640.out 2).trans rfl, ((HB.out.cell (World.block_lt_of_cell? w _ hw641_0)).trans hw641_0), ((HB.out.cell (World.block_lt_of_cell? w _ hw641_1)).trans hw641_1)⟩ (fun hHeld => ?_); refine with_tabW sibylref21_Exact.tab8 sibylref21_Exact.bits8 (fun HT_ HW_ => ?_)
       generalize wr.drew = w29 at HO_641001 HO_641002 BK631 BK640 HB hx641_0 hx641_1 hHeld ⊢
       refine pure_ (i := 1) (N := some 20) (v := ?_) (a' := ?_) #[false, true, false, false, false, false, false, false, false, false, false, false, false] rfl rfl (any_of HT_.out (by kernel_rfl)) (fun _ _ _ h => h) (Or.inl ⟨by rfl, ?_⟩) ?_ ?_
       rotate_left
       ·intro w'
        go_simp
        with_reducible rfl
       rotate_left
       ·simp only [Act.put, List.setIfInBounds_toArray, List.set_cons_zero, List.set_cons_succ, i64_w, i32_w]
        rfl
       refine pure_ (i := 2) (N := some 21) (v := ?_) (a' := ?_) #[false, true, true, false, false, false, false, false, false, false, false, false, false] rfl rfl (any_of HT_.out (by kernel_rfl)) (fun _ _ _ h => h) (Or.inl ⟨by rfl, ?_⟩) ?_ ?_
       rotate_left
       ·intro w'
        go_simp
        with_reducible rfl
       rotate_left
       ·simp only [Act.put, List.setIfInBounds_toArray, List.set_cons_zero, List.set_cons_succ, i64_w, i32_w]
        rfl
       refine pure_ (i := 3) (N := some 22) (v := ?_) (a' := ?_) #[false, true, true, true, false, false, false, false, false, false, false, false, false] rfl rfl (any_of HT_.out (by kernel_rfl)) (fun _ _ _ h => h) (Or.inl ⟨by rfl, ?_⟩) ?_ ?_
       rotate_left
       ·intro w'
        go_simp
        with_reducible rfl
       rotate_left
       ·simp only [Act.put, List.setIfInBounds_toArray, List.set_cons_zero, List.set_cons_succ, i64_w, i32_w]
        rfl
       refine pure_ (i := 4) (N := some 23) (v := ?_) (a' := ?_) #[false, true, true, true, true, false, false, false, false, false, false, false, false] rfl rfl (any_of HT_.out (by kernel_rfl)) (fun _ _ _ h => h) (Or.inl ⟨by rfl, ?_⟩) ?_ ?_
       rotate_left
       ·intro w'
        go_simp
        with_reducible rfl
       rotate_left
       ·simp only [Act.put, List.setIfInBounds_toArray, List.set_cons_zero, List.set_cons_succ, i64_w, i32_w]
        rfl
       refine take_ (i := 0) (N := some 19) (v := ?_) (a' := ?_) #[true, true, true, true, true, false, false, false, false, false, false, false, false] rfl rfl (take_ofW HT_.out HW_.out (by kernel_rfl)) (fun _ _ _ h => h) (Or.inl ⟨by rfl, ?_⟩) hHeld ?_ ?_
       rotate_left
       ·rintro w' ⟨s0, s1, s2, s3, s4⟩
        go_simp
        with_reducible rfl
       rotate_left
       ·simp only [Act.put, List.setIfInBounds_toArray, List.set_cons_zero, List.set_cons_succ, i64_w, i32_w]
        rfl
       refine take_ (i := 5) (N := some 24) (v := ?_) (a' := ?_) #[true, true, true, true, true, true, false, false, false, false, false, false, false] rfl rfl (take_ofW HT_.out HW_.out (by kernel_rfl)) (fun _ _ _ h => h) (Or.inl ⟨by rfl, ?_⟩) hHeld ?_ ?_
       rotate_left
       ·rintro w' ⟨s0, s1, s2, s3, s4⟩
        go_simp
        with_reducible rfl
       rotate_left
       ·simp only [Act.put, List.setIfInBounds_toArray, List.set_cons_zero, List.set_cons_succ, i64_w, i32_w]
        rfl
       refine one_ (i := 6) (N := some 25) #[true, true, true, true, true, true, true, false, false, false, false, false, false] rfl rfl (one_of HT_.out (by kernel_rfl)) (by decide) (fun K hK => ?_)
       refine goes_ Try.func34 (by kernel_rfl) rfl #[.int .i64 ((rd_T68 l0 x5_1).f0)] (by rfl) rfl rfl (by (try simp only [List.map_toArray, List.map_cons, List.map_nil]); first | done | rfl | (simp only [List.length_drop, List.length_take]; rfl)) ?_
       with_reducible refine (sibylref02_Of.calls k1 ((rd_T68 l0 x5_1).f0) t642 t643 t646 _ A14.out).mono ?_
       rintro e w30 ⟨v644, v647, rfl, ho0, ho1, hb⟩
       refine ⟨_, rfl, ?_⟩
       have n0_ := Aside0.mk (Kd.R_mono (Kd.R_told (Kd.R_told (Kd.R_old (ra HO_641001.out) hb) (Kd.R_base ho0)) (Kd.R_base ho1)) (fun _ h_ => h_.1))
       have n1_ := Aside0.mk (Kd.R_mono (Kd.R_told (Kd.R_told (Kd.R_old (ra HO_641002.out) hb) (Kd.R_base ho0)) (Kd.R_base ho1)) (fun _ h_ => h_.1))
       have n2_ := Aside0.mk (Kd.R_lower (Kd.R_new' (Kd.R_new' ho0 (Kd.R_lt (ra HO_641001.out))) (Kd.R_lt (ra HO_641002.out))) (below_size (bl2 HB GE631 GE640)))
       have n3_ := Aside0.mk (Kd.R_lower (Kd.R_new' (Kd.R_new' ho1 (Kd.R_lt (ra HO_641001.out))) (Kd.R_lt (ra HO_641002.out))) (below_size (bl2 HB GE631 GE640)))
       have n4_ := Aside0.mk (blk_below (ba BK631.out) hb)
       have n5_ := Aside0.mk (blk_below (ba BK640.out) hb)
       have n6_ := Aside0.mk (below_step (bl2 HB GE631 GE640) hb)
       clear HO_641001
       clear HO_641002
       clear BK631
       clear BK640
       clear HB
       have HO_641001 := n0_
       have HO_641002 := n1_
       have HO645 := n2_
       have HO648 := n3_
       have BK631 := n4_
       have BK640 := n5_
       have HB := n6_
       clear n0_ n1_ n2_ n3_ n4_ n5_ n6_
       (try clear hb)
       (try clear hb2)
       (try clear hk)
       (try clear hi)
       (try clear ho0)
       (try clear ho1)
       obtain ⟨Ao31, co31, eo31⟩ := Kd.R_slice HO_641001.out
       (first | subst eo31 | (injection eo31 with f1_ f2_ f3_; have f4_ := f1_.symm; have f5_ := f3_.symm; clear f1_ f2_ f3_; subst f4_; subst f5_))
       obtain ⟨Ao32, co32, eo32⟩ := Kd.R_slice HO_641002.out
       (first | subst eo32 | (injection eo32 with f1_ f2_ f3_; have f4_ := f1_.symm; have f5_ := f3_.symm; clear f1_ f2_ f3_; subst f4_; subst f5_))
       obtain ⟨Ao33, co33, eo33⟩ := Kd.R_slice HO645.out
       (first | subst eo33 | (injection eo33 with f1_ f2_ f3_; have f4_ := f1_.symm; have f5_ := f3_.symm; clear f1_ f2_ f3_; subst f4_; subst f5_))
       obtain ⟨Ao34, co34, eo34⟩ := Kd.R_slice HO648.out
       (first | subst eo34 | (injection eo34 with f1_ f2_ f3_; have f4_ := f1_.symm; have f5_ := f3_.symm; clear f1_ f2_ f3_; subst f4_; subst f5_))
       refine hK.out _ _ ⟨(blk_cell BK640.out 0).trans rfl, (blk_cell BK640.out 1).trans rfl, (blk_cell BK640.out 2).trans rfl, ((HB.out.cell (World.block_lt_of_cell? w _ hw641_0)).trans hw641_0), ((HB.out.cell (World.block_lt_of_cell? w _ hw641_1)).trans hw641_1)⟩ (fun hHeld => ?_)
       clear hK K
       refine norm_ (a' := ?_) ?_ ?_
       rotate_left
       ·show Act.put _ (some 25) _ = _
        simp only [Act.put, List.setIfInBounds_toArray, List.set_cons_zero, List.set_cons_succ, i64_w, i32_w]
        rfl
       refine one_ (i := 7) (N := some 26) #[true, true, true, true, true, true, true, true, false, false, false, false, false] rfl rfl (one_of HT_.out (by kernel_rfl)) (by decide) (fun K hK => ?_)
       refine goes_ Try.func35 (by kernel_rfl) rfl #[.agg #[.bool x641000_1, .slice Ao31 x641001_1.length co31, .slice Ao32 x641002_1.length co32], .agg #[.bool t642, .slice Ao33 t643.length co33, .slice Ao34 t646.length co34]] (by rfl) rfl rfl (by (try simp only [List.map_toArray, List.map_cons, List.map_nil]); first | done | rfl | (simp only [List.length_drop, List.length_take]; rfl)) ?_
       with_reducible refine (sibylref02_Div.calls k1 x641000_1 _ _ x641001_1 _ _ x641002_1 t642 _ _ t643 _ _ t646 t649 t650 t653 t656 _ ?side1 ?side2 ?side3 ?side4 ?side5 ?side6 ?side7 ?side8 A15.out).mono ?_
       (case side1 => exact ca ((Kd.R_reads' HO_641001.out).2.2))
       (case side2 => exact (Kd.R_reads' HO_641001.out).2.1)
       (case side3 => exact ca ((Kd.R_reads' HO_641002.out).2.2))
       (case side4 => exact (Kd.R_reads' HO_641002.out).2.1)
       (case side5 => exact ca ((Kd.R_reads' HO645.out).2.2))
       (case side6 => exact (Kd.R_reads' HO645.out).2.1)
       (case side7 => exact ca ((Kd.R_reads' HO648.out).2.2))
       (case side8 => exact (Kd.R_reads' HO648.out).2.1)
       rintro e w35 ⟨v651, v654, rfl, ho0, ho1, hb⟩
       refine ⟨_, rfl, ?_⟩
       have n0_ := Aside0.mk (Kd.R_mono (Kd.R_told (Kd.R_told (Kd.R_old (ra HO_641001.out) hb) (Kd.R_base ho0)) (Kd.R_base ho1)) (fun _ h_ => h_.1))
       have n1_ := Aside0.mk (Kd.R_mono (Kd.R_told (Kd.R_told (Kd.R_old (ra HO_641002.out) hb) (Kd.R_base ho0)) (Kd.R_base ho1)) (fun _ h_ => h_.1))
       have n2_ := Aside0.mk (Kd.R_mono (Kd.R_told (Kd.R_told (Kd.R_old (ra HO645.out) hb) (Kd.R_base ho0)) (Kd.R_base ho1)) (fun _ h_ => h_.1))
       have n3_ := Aside0.mk (Kd.R_mono (Kd.R_told (Kd.R_told (Kd.R_old (ra HO648.out) hb) (Kd.R_base ho0)) (Kd.R_base ho1)) (fun _ h_ => h_.1))
       have n4_ := Aside0.mk (Kd.R_lower (Kd.R_new' (Kd.R_new' (Kd.R_new' (Kd.R_new' ho0 (Kd.R_lt (ra HO_641001.out))) (Kd.R_lt (ra HO_641002.out))) (Kd.R_lt (ra HO645.out))) (Kd.R_lt (ra HO648.out))) (below_size (bl2 HB GE631 GE640)))
       have n5_ := Aside0.mk (Kd.R_lower (Kd.R_new' (Kd.R_new' (Kd.R_new' (Kd.R_new' ho1 (Kd.R_lt (ra HO_641001.out))) (Kd.R_lt (ra HO_641002.out))) (Kd.R_lt (ra HO645.out))) (Kd.R_lt (ra HO648.out))) (below_size (bl2 HB GE631 GE640)))
       have n6_ := Aside0.mk (blk_below (ba BK631.out) hb)
       have n7_ := Aside0.mk (blk_below (ba BK640.out) hb)
       have n8_ := Aside0.mk (below_step (bl2 HB GE631 GE640) hb)
       clear HO_641001
       clear HO_641002
       clear HO645
       clear HO648
       clear BK631
       clear BK640
       clear HB
       have HO_641001 := n0_
       have HO_641002 := n1_
       have HO645 := n2_
       have HO648 := n3_
       have HO652 := n4_
       have HO655 := n5_
       have BK631 := n6_
       have BK640 := n7_
       have HB := n8_
       clear n0_ n1_ n2_ n3_ n4_ n5_ n6_ n7_ n8_
       (try clear hb)
       (try clear hb2)
       (try clear hk)
       (try clear hi)
       (try clear ho0)
       (try clear ho1)
       obtain ⟨Ao37, co37, eo37⟩ := Kd.R_slice HO652.out
       (first | subst eo37 | (injection eo37 with f1_ f2_ f3_; have f4_ := f1_.symm; have f5_ := f3_.symm; clear f1_ f2_ f3_; subst f4_; subst f5_))
       obtain ⟨Ao39, co39, eo39⟩ := Kd.R_slice HO655.out
       (first | subst eo39 | (injection eo39 with f1_ f2_ f3_; have f4_ := f1_.symm; have f5_ := f3_.symm; clear f1_ f2_ f3_; subst f4_; subst f5_))
       refine hK.out _ _ ⟨(blk_cell BK640.out 0).trans rfl, (blk_cell BK640.out 1).trans rfl, (blk_cell BK640.out 2).trans rfl, ((HB.out.cell (World.block_lt_of_cell? w _ hw641_0)).trans hw641_0), ((HB.out.cell (World.block_lt_of_cell? w _ hw641_1)).trans hw641_1)⟩ (fun hHeld => ?_)
       clear hK K
       refine norm_ (a' := ?_) ?_ ?_
       rotate_left
       ·show Act.put _ (some 26) _ = _
        simp only [Act.put, List.setIfInBounds_toArray, List.set_cons_zero, List.set_cons_succ, i64_w, i32_w]
        rfl
       refine pure_ (i := 8) (N := some 18) (v := ?_) (a' := ?_) #[true, true, true, true, true, true, true, true, true, false, false, false, false] rfl rfl (any_of HT_.out (by kernel_rfl)) (fun _ _ _ h => h) (Or.inl ⟨by rfl, ?_⟩) ?_ ?_
       rotate_left
       ·intro w'
        go_simp
        with_reducible rfl
       rotate_left
       ·simp only [Act.put, List.setIfInBounds_toArray, List.set_cons_zero, List.set_cons_succ, i64_w, i32_w]
        rfl
       refine pure_ (i := 9) (N := some 27) (v := ?_) (a' := ?_) #[true, true, true, true, true, true, true, true, true, true, false, false, false] rfl rfl (any_of HT_.out (by kernel_rfl)) (fun _ _ _ h => h) (Or.inl ⟨by rfl, ?_⟩) ?_ ?_
       rotate_left
       ·intro w'
        go_simp
        with_reducible rfl
       rotate_left
       ·simp only [Act.put, List.setIfInBounds_toArray, List.set_cons_zero, List.set_cons_succ, i64_w, i32_w]
        rfl
       refine pure_ (i := 10) (N := some 28) (v := ?_) (a' := ?_) #[true, true, true, true, true, true, true, true, true, true, true, false, false] rfl rfl (any_of HT_.out (by kernel_rfl)) (fun _ _ _ h => h) (Or.inl ⟨by rfl, ?_⟩) ?_ ?_
       rotate_left
       ·intro w'
        go_simp
        with_reducible rfl
       rotate_left
       ·simp only [Act.put, List.setIfInBounds_toArray, List.set_cons_zero, List.set_cons_succ, i64_w, i32_w]
        rfl
       refine last_ (i := 11) (N := none) #[true, true, true, true, true, true, true, true, true, true, true, true, false] rfl rfl (one_of HT_.out (by kernel_rfl)) (by decide) (fun K hK => ?_)
       have hs36 : w35.cell? ⟨gb640, 0, none⟩ = some (.bool x641000_1) := (blk_cell BK640.out 0).trans rfl
       have hfs36 := blk_frozen BK640.out 0
       have hns36_0 := NB631_640.out
       have hms36_0 := NB640_631.out
       have hs38 : w35.cell? ⟨gb640, 1, none⟩ = some (.slice Ao31 x641001_1.length co31) := (blk_cell BK640.out 1).trans rfl
       have hfs38 := blk_frozen BK640.out 1
       have hns38_0 := NB631_640.out
       have hms38_0 := NB640_631.out
       have hs40 : w35.cell? ⟨gb640, 2, none⟩ = some (.slice Ao32 x641002_1.length co32) := (blk_cell BK640.out 2).trans rfl
       have hfs40 := blk_frozen BK640.out 2
       have hns40_0 := NB631_640.out
       have hms40_0 := NB640_631.out
       refine skip_ (w1 := ?_) (by rfl) rfl ?_ ?_
       rotate_left
       ·go_simp
        rfl
       refine hK.out _ _ ?_
       clear hK K
       refine pure_ (i := 12) (N := some 6) (v := ?_) (a' := ?_) #[true, true, true, true, true, true, true, true, true, true, true, true, true] rfl rfl (any_of HT_.out (by kernel_rfl)) (fun _ _ _ h => h) (Or.inl ⟨by rfl, ?_⟩) ?_ ?_
       rotate_left
       ·intro w'
        go_simp
        with_reducible rfl
       rotate_left
       ·simp only [Act.put, List.setIfInBounds_toArray, List.set_cons_zero, List.set_cons_succ, i64_w, i32_w]
        rfl
       refine done_ (done_of HT_.out (by kernel_rfl)) ?_
       have hnb41 := NB631_640.out
       have hnc41 := NB640_631.out
       have hcz42_0 : w35.cell? ⟨gb631, 0, none⟩ = some (.bool x632000_1) := (blk_cell BK631.out 0).trans rfl
       have hcz42_1 : w35.cell? ⟨gb631, 1, none⟩ = some (.slice none 0 0) := (blk_cell BK631.out 1).trans rfl
       have hcz42_2 : w35.cell? ⟨gb631, 2, none⟩ = some (.slice none 0 0) := (blk_cell BK631.out 2).trans rfl
       have hfz42_0 := blk_frozen BK631.out 0
       have hfz42_1 := blk_frozen BK631.out 1
       have hfz42_2 := blk_frozen BK631.out 2
       try go_wp2
       refine bodyPost_ret (results_ct rfl _ _ gb631 36 #[.bool false, .slice none 0 0, .slice none 0 0] (0, 0) _ rfl (by (with_reducible repeat (first | refine blk_drewN ?_ _ | refine blk_drew ?_ | refine blk_alloc ?_ _)); refine blk_put (cs := #[.bool false, .slice none 0 0, .slice none 0 0]) ?_ 2 _ rfl; (with_reducible repeat (first | refine blk_drewN ?_ _ | refine blk_drew ?_ | refine blk_alloc ?_ _)); refine blk_put (cs := #[.bool false, .slice none 0 0, .slice none 0 0]) ?_ 1 _ rfl; (with_reducible repeat (first | refine blk_drewN ?_ _ | refine blk_drew ?_ | refine blk_alloc ?_ _)); refine blk_put (cs := #[.bool x632000_1, .slice none 0 0, .slice none 0 0]) ?_ 0 _ rfl; (with_reducible repeat (first | refine blk_drewN ?_ _ | refine blk_drew ?_ | refine blk_alloc ?_ _)); refine blk_far ?_ NB631_640.out _; (with_reducible repeat (first | refine blk_drewN ?_ _ | refine blk_drew ?_ | refine blk_alloc ?_ _)); refine blk_far ?_ NB631_640.out _; (with_reducible repeat (first | refine blk_drewN ?_ _ | refine blk_drew ?_ | refine blk_alloc ?_ _)); refine blk_far ?_ NB631_640.out _; (with_reducible repeat (first | refine blk_drewN ?_ _ | refine blk_drew ?_ | refine blk_alloc ?_ _)); exact BK631.out) Try.underlying36 rfl (by kernel_rfl)) rfl ?_
       exact ⟨_, _, by first | rfl | simp [*], by first | exact Kd.R_nil _ _ _ _ _ | exact Kd.V_nil _ _ _ _ _, by first | exact Kd.R_nil _ _ _ _ _ | exact Kd.V_nil _ _ _ _ _, bl2 HB GE631 GE640⟩
     ·rw [if_neg c13] at H
      exact absurd H (by simp)
    ·rw [if_neg c12] at H
     have c12b0 : decide (x5_1 < (l0.length : Int)) = false := decide_eq_false c12
     clear c12
     simp only [Option.some.injEq, Prod.mk.injEq] at H
     obtain ⟨rfl, rfl, rfl, rfl⟩ := H
     have hnb43 := NB640_631.out
     have hnc43 := NB631_640.out
     have hcz44_0 : wr.cell? ⟨gb640, 0, none⟩ = some (.bool x641000_1) := (blk_cell BK640.out 0).trans rfl
     have hcz44_1 : wr.cell? ⟨gb640, 1, none⟩ = some (u641001) := (blk_cell BK640.out 1).trans rfl
     have hcz44_2 : wr.cell? ⟨gb640, 2, none⟩ = some (u641002) := (blk_cell BK640.out 2).trans rfl
     have hfz44_0 := blk_frozen BK640.out 0
     have hfz44_1 := blk_frozen BK640.out 1
     have hfz44_2 := blk_frozen BK640.out 2
     have hcz45_0 : wr.cell? ⟨gb631, 0, none⟩ = some (.bool x632000_1) := (blk_cell BK631.out 0).trans rfl
     have hcz45_1 : wr.cell? ⟨gb631, 1, none⟩ = some (.slice none 0 0) := (blk_cell BK631.out 1).trans rfl
     have hcz45_2 : wr.cell? ⟨gb631, 2, none⟩ = some (.slice none 0 0) := (blk_cell BK631.out 2).trans rfl
     have hfz45_0 := blk_frozen BK631.out 0
     have hfz45_1 := blk_frozen BK631.out 1
     have hfz45_2 := blk_frozen BK631.out 2
     obtain ⟨Ao46, co46, eo46⟩ := Kd.R_slice HO_641001.out
     subst eo46
     obtain ⟨Ao47, co47, eo47⟩ := Kd.R_slice HO_641002.out
     subst eo47
     go_wp2
     refine bodyPost_ret (results_ct rfl _ _ gb631 36 #[.bool x641000_1, .slice Ao46 x641001_1.length co46, .slice Ao47 x641002_1.length co47] (0, 0) _ rfl (by exact bp BK631.out rfl) Try.underlying36 rfl (by kernel_rfl)) rfl ?_
     exact ⟨_, _, by first | rfl | simp [*], ra (Kd.R_mono (Kd.R_far (p := ⟨gb631, 2, none⟩) (Kd.R_far (p := ⟨gb631, 1, none⟩) (Kd.R_far (p := ⟨gb631, 0, none⟩) (Kd.R_types HO_641001.out BK631.out (by decide)) (fun _ hk => hk.2) (.bool x641000_1)) (fun _ hk => hk.2) (.slice Ao46 x641001_1.length co46)) (fun _ hk => hk.2) (.slice Ao47 x641002_1.length co47)) (fun _ hk => hk.1)), ra (Kd.R_mono (Kd.R_far (p := ⟨gb631, 2, none⟩) (Kd.R_far (p := ⟨gb631, 1, none⟩) (Kd.R_far (p := ⟨gb631, 0, none⟩) (Kd.R_types HO_641002.out BK631.out (by decide)) (fun _ hk => hk.2) (.bool x641000_1)) (fun _ hk => hk.2) (.slice Ao46 x641001_1.length co46)) (fun _ hk => hk.2) (.slice Ao47 x641002_1.length co47)) (fun _ hk => hk.1)), bl2 HB GE631 GE640⟩
 ·replace c3 := Bool.eq_false_iff.mpr c3
  subst c3
  have H1 : (some (false, ([] : List Int), ([] : List Int), 2)) = some (r1, r2, r3, r4) := by rw [if_neg (show ¬ (false = true) by decide)] at H; exact H
  clear H
  have H := H1
  clear H1
  simp only [Option.some.injEq, Prod.mk.injEq] at H
  obtain ⟨rfl, rfl, rfl, rfl⟩ := H
  go_enter Try.func12, Try.ntmps12
  go_wp2_with (first | ((with_reducible refine gate_dst (N := 2) rfl ?_); refine box_event ?hg (N := 2) ?hd (cs := #[.bool false, .slice none 0 0, .slice none 0 0]) (t := 36) ?hr ?_; (case hd => rfl); (case hg => rfl); (case hr => first | (go_simp; done) | (go_simp; rfl)); intro gb631 hg w48 hbox hb; have n_ := mk4 (below_step (bl HB) hb) (hbox) ((by rw [hg]; exact (below_size (bl HB)) : w.heap.size ≤ gb631)) ((by rw [hg]; exact (below_size (bl HB)) : w.heap.size ≤ gb631)); clear HB; obtain ⟨HB, BK631, GW631, GE631⟩ := n_; clear hb hbox hg) | ((with_reducible refine gate_callee (f := 29) rfl ?_); refine goesM (some 8) rfl rfl Try.func29 (by kernel_rfl) rfl #[.slice A0 l0.length c0] rfl (by rfl) ?_; (with_reducible refine (sibylref21_good.calls k _ _ l0 false _ ?side1 ?side2 A2.out).mono ?_); (case side1 => exact ca (Kd.C_below HR0.out HB.out)); (case side2 => exact HC0.out); rintro e w' ⟨rfl, ⟨nd, rfl⟩⟩; refine ⟨_, rfl, ?_⟩; (try (rw [drewN_self w48]; generalize hq_ : World.drewN w48 _ = w48; have n0_ : Aside0 (w48.heap[gb631]? = some (.cells #[.bool false, .slice none 0 0, .slice none 0 0] 36 (0, 0))) := ⟨by rw [← hq_]; exact (ba BK631.out)⟩; have n1_ : Aside0 (Below w.heap.size w w48) := ⟨by rw [← hq_]; exact (bl1 HB GE631)⟩; clear BK631 HB hq_; have BK631 := n0_; have HB := n1_; clear n0_ n1_)); obtain ⟨hcz49_0, hcz49_1, hcz49_2, hfz49_0, hfz49_1, hfz49_2⟩ := blk3 BK631.out))
  refine bodyPost_ret (results_ct rfl _ _ gb631 36 #[.bool false, .slice none 0 0, .slice none 0 0] (0, 0) _ rfl (by exact bp BK631.out rfl) Try.underlying36 rfl (by kernel_rfl)) rfl ?_
  exact ⟨_, _, by first | rfl | simp [*], by first | exact Kd.R_nil _ _ _ _ _ | exact Kd.V_nil _ _ _ _ _, by first | exact Kd.R_nil _ _ _ _ _ | exact Kd.V_nil _ _ _ _ _, bl1 HB GE631⟩
end Go.Proofs.Ytjppanekddljbaa.Pr
/- What the reference's Exact answers: one over a product of small numbers. -/
namespace Go.Proofs.Ytjppanekddljbaa.Lb
open Go.RowKit Go.Proofs.Ytjppanekddljbaa.Pr Go.Proofs.YtjppanekddljbaaW.PrintWords Go.Proofs.YtjppanekddljbaaW.PrintLast Go.Proofs.YtjppanekddljbaaW.PrintMore
open Go.Proofs.Ytjppanekddljbaa.H
theorem norm_one : norm 1 = [1] := by rw [norm_pos (by decide), show 1 / 4294967296 = 0 from rfl, norm_zero]
theorem U_norm_one : U (norm 1) = ([1] : List Int) := by rw [norm_one]; rfl
theorem norm_len0 {n : Nat} (h : n ≠ 0) : 0 < (norm n).length := by rw [norm_pos h]; simp
theorem same_self {l : List Int} (hl : l.length ≤ 1000000) : Ev (fun k => sibylref01_Same.f k l l) true := by
  have main : ∀ d i, l.length - i = d → i ≤ l.length → Ev (fun k => sibylref01_Same.l0 k l l (i : Int)) true := by
    intro d
    induction d with
    | zero =>
      intro i hd hi
      refine Ev.step (f := fun _ => some true) (fun k => ?_) (Ev.now _)
      simp only [sibylref01_Same.l0]
      rw [if_neg (by omega)]
    | succ d ih =>
      intro i hd hi
      have hw : wrap64 ((i : Int) + 1) = ((i + 1 : Nat) : Int) := by unfold wrap64; omega
      refine Ev.step (fun k => ?_) (ih (i + 1) (by omega) (by omega))
      simp only [sibylref01_Same.l0]
      rw [if_pos (by omega), if_pos (by omega), if_pos (by omega), if_pos trivial, hw]
  refine Ev.congr (fun k => ?_) (main l.length 0 (by omega) (by omega))
  unfold sibylref01_Same.f
  rw [if_pos rfl]
  rfl
theorem form1_ev {n : Nat} (h : (norm n).length ≤ 16) : sibylref01_Form.f (U (norm n)) = some true := by
  unfold sibylref01_Form.f
  rw [U_length, if_pos (by omega)]
  rcases norm_last n with h1 | ⟨a, x, h1, h2⟩
  · rw [h1]; exact if_pos rfl
  · have hlen : (norm n).length = a.length + 1 := by rw [h1]; simp
    have hw : wrap64 (((norm n).length : Int) - 1) = (a.length : Int) := by rw [hlen]; unfold wrap64; omega
    rw [if_neg (by omega), hw, if_pos (by omega), if_pos (by omega), rd_U]
    have : (norm n).getD a.length 0 = x := by rw [h1]; simp [List.getD]
    rw [this]
    refine congrArg some ?_
    rw [bne_iff_ne]
    omega
theorem bit0 {n : Nat} (h : (norm n).length ≤ 1000) : sibylref01_Bit.f (U (norm n)) 0 = some (decide (n % 2 = 1)) := by
  have := bit_ev (lim_norm n) (by omega) (i := 0) (by omega)
  rw [val_norm, Nat.pow_zero, Nat.div_one] at this
  exact this
theorem cmp_norm {a b : Nat} (ha : (norm a).length ≤ 1000) (hb : (norm b).length ≤ 1000) : Ev (fun k => sibylref01_Cmp.f k (U (norm a)) (U (norm b))) (if a < b then -1 else if a > b then 1 else 0) := by
  have := cmp_ev (lim_norm a) (lim_norm b) (by omega) (by omega)
  rwa [val_norm, val_norm] at this
theorem minus_norm {a b : Nat} (ha : (norm a).length ≤ 1000) (hb : (norm b).length ≤ 1000) (h : b ≤ a) : Ev (fun k => sibylref01_Minus.f k (U (norm a)) (U (norm b))) (U (norm (a - b))) := by
  have := minus_ev (lim_norm a) (lim_norm b) (by omega) (by omega) (by rw [val_norm, val_norm]; exact h)
  rwa [val_norm, val_norm] at this
theorem shr_norm {a : Nat} (ha : (norm a).length ≤ 1000) (n : Nat) (hn : n ≤ 1000) : Ev (fun k => sibylref01_Shr.f k (U (norm a)) (n : Int)) (U (norm (a / 2 ^ n))) := by
  have := shr_ev (lim_norm a) (by omega) (n := n) (by omega)
  rwa [val_norm] at this
theorem len_mono {a c : Nat} (h : a ≤ c) (hc : (norm c).length ≤ 1000) : (norm a).length ≤ 1000 :=
  Nat.le_trans (norm_len_le (lim_norm c) (by rw [val_norm]; exact h)) hc
theorem len_one : (norm 1).length ≤ 1000 := by rw [norm_one]; decide
theorem common_end : Ev (fun k => sibylref01_Common.l1 k (U (norm 0)) (U (norm 1)) 0) (U (norm 1)) := by
  refine Ev.step (f := fun k => sibylref01_Common.j3 k (U (norm 0)) (U (norm 1)) 0 false) (fun k => ?_) ?_
  · simp only [sibylref01_Common.l1]
    rw [norm_zero, if_neg (by simp [U])]
  · have hp := plus_ev (lim_norm 0) (lim_norm 1) (by rw [norm_zero]; simp) (by have := len_one; omega)
    rw [val_norm, val_norm] at hp
    have hs := shl_ev (lim_norm 1) (by have := len_one; omega) (n := 0) (by omega)
    rw [val_norm, Nat.pow_zero, Nat.one_mul] at hs
    refine Ev.step (f := _) (fun k => by simp only [sibylref01_Common.j3]; rfl) ?_
    refine Ev.congr (fun k => if_neg (by decide)) ?_
    exact Ev.bind hp (Ev.bind hs (Ev.now _))
theorem common_stepO {a b : Nat} (ha : a ≠ 0) (hb : b ≠ 0) {r : List Int} (h : Ev (fun k => sibylref01_Common.j3 k (U (norm a)) (U (norm b)) 0 true) r) : Ev (fun k => sibylref01_Common.l1 k (U (norm a)) (U (norm b)) 0) r := by
  have h1 := norm_len0 ha
  have h2 := norm_len0 hb
  refine Ev.step (fun k => ?_) h
  simp only [sibylref01_Common.l1]
  rw [if_pos (by rw [U_length]; omega), decide_eq_true (show ((U (norm b)).length : Int) > 0 by rw [U_length]; omega)]
theorem common_right {c : Nat} (hc : (norm c).length ≤ 1000) (a : Nat) : a ≤ c → Ev (fun k => sibylref01_Common.l1 k (U (norm a)) (U (norm 1)) 0) (U (norm 1)) := by
  induction a using Nat.strongRecOn with
  | ind a ih =>
    intro hac
    by_cases h0 : a = 0
    · subst h0; exact common_end
    · have hl := len_mono hac hc
      refine common_stepO h0 (by decide) ?_
      refine Ev.step (f := _) (fun k => by simp only [sibylref01_Common.j3]; rfl) ?_
      refine Ev.congr (fun k => by rw [if_pos trivial, bit0 hl, Option.bind_some, bit0 len_one, Option.bind_some]) ?_
      by_cases ho : a % 2 = 1
      · refine Ev.congr (fun k => by rw [if_pos (decide_eq_true ho), if_pos (by decide)]) ?_
        refine Ev.bind (cmp_norm hl len_one) ?_
        refine Ev.congr (fun k => if_pos (by rw [if_neg (by omega)]; split <;> omega)) ?_
        exact Ev.bind (minus_norm hl len_one (by omega)) (ih (a - 1) (by omega) (by omega))
      · refine Ev.congr (fun k => by rw [if_neg (by simpa using ho)]) ?_
        have := shr_norm hl 1 (by omega)
        rw [Nat.pow_one] at this
        exact Ev.bind this (ih (a / 2) (by omega) (by omega))
theorem common_left {c : Nat} (hc : (norm c).length ≤ 1000) (b : Nat) : b ≤ c → b ≠ 0 → Ev (fun k => sibylref01_Common.l1 k (U (norm 1)) (U (norm b)) 0) (U (norm 1)) := by
  induction b using Nat.strongRecOn with
  | ind b ih =>
    intro hbc h0
    have hl := len_mono hbc hc
    refine common_stepO (by decide) h0 ?_
    refine Ev.step (f := _) (fun k => by simp only [sibylref01_Common.j3]; rfl) ?_
    refine Ev.congr (fun k => by rw [if_pos trivial, bit0 len_one, Option.bind_some, if_pos (by decide), bit0 hl, Option.bind_some]) ?_
    by_cases ho : b % 2 = 1
    · refine Ev.congr (fun k => by rw [if_pos (decide_eq_true ho)]) ?_
      refine Ev.bind (cmp_norm len_one hl) ?_
      by_cases h1 : b = 1
      · subst h1
        refine Ev.congr (fun k => if_pos (by decide)) ?_
        exact Ev.bind (minus_norm len_one len_one (by omega)) common_end
      · refine Ev.congr (fun k => if_neg (by rw [if_pos (by omega)]; decide)) ?_
        exact Ev.bind (minus_norm hl len_one (by omega)) (ih (b - 1) (by omega) (by omega) (by omega))
    · refine Ev.congr (fun k => by rw [if_neg (by simpa using ho)]) ?_
      have := shr_norm hl 1 (by omega)
      rw [Nat.pow_one] at this
      exact Ev.bind this (ih (b / 2) (by omega) (by omega) (by omega))
theorem trim_norm {a : Nat} (ha : (norm a).length ≤ 1000) : Ev (fun k => sibylref01_Trim.f k (U (norm a))) (U (norm a)) := by
  have := trim_ev (lim_norm a) (by omega)
  rwa [val_norm] at this
theorem common_ev {a b : Nat} (ha : (norm a).length ≤ 1000) (hb : (norm b).length ≤ 1000) (ha0 : a ≠ 0) (hb0 : b ≠ 0) (h : a = 1 ∨ b = 1) : Ev (fun k => sibylref01_Common.f k (U (norm a)) (U (norm b))) (U (norm 1)) := by
  unfold sibylref01_Common.f
  have h1 := norm_len0 ha0
  have h2 := norm_len0 hb0
  refine Ev.bind (trim_norm ha) (Ev.bind (trim_norm hb) ?_)
  refine Ev.congr (fun k => by rw [if_neg (by rw [U_length]; omega), if_neg (by rw [U_length]; omega)]) ?_
  have core : Ev (fun k => sibylref01_Common.j1 k (U (norm a)) (U (norm b)) 0) (U (norm 1)) := by
    have s1 := shr_norm ha 0 (by omega)
    have s2 := shr_norm hb 0 (by omega)
    rw [Nat.pow_zero, Nat.div_one] at s1 s2
    refine Ev.step (f := _) (fun k => by simp only [sibylref01_Common.j1]; rfl) ?_
    refine Ev.bind s1 (Ev.bind s2 ?_)
    rcases h with rfl | rfl
    · exact common_left hb b (Nat.le_refl _) hb0
    · exact common_right ha a (Nat.le_refl _)
  refine Ev.step (f := _) (fun k => by simp only [sibylref01_Common.l0]; rfl) ?_
  refine Ev.congr (fun k => by rw [bit0 ha, Option.bind_some, bit0 hb, Option.bind_some]) ?_
  by_cases ho : a % 2 = 1
  · exact Ev.congr (fun k => if_pos (decide_eq_true ho)) core
  · refine Ev.congr (fun k => by rw [if_neg (by simpa using ho), if_pos (decide_eq_true (show b % 2 = 1 by omega))]) core
def tooBig : Bool × List Int × List Int × Int := (false, [], [], 4)
def madeOf (neg : Bool) (n d : Nat) : Bool × List Int × List Int × Int := if (norm n).length ≤ 16 ∧ (norm d).length ≤ 16 then (neg, U (norm n), U (norm d), 0) else tooBig
theorem divide_one {a : Nat} (ha : (norm a).length ≤ 1000) : Ev (fun k => sibylref01_Divide.f k (U (norm a)) (U (norm 1))) (U (norm a), U (norm 0)) := by
  have := divide_ev (lim_norm a) (lim_norm 1) (by omega) (by have := len_one; omega) (by rw [val_norm]; decide)
  rwa [val_norm, val_norm, Nat.div_one, Nat.mod_one] at this
theorem make_ev {l m : List Nat} (neg : Bool) {a b : Nat} (hl : Lim l) (hm : Lim m) (hla : l.length ≤ 1000) (hma : m.length ≤ 1000) (ha : val l = a) (hb : val m = b) (ha0 : a ≠ 0) (hb0 : b ≠ 0) (h : a = 1 ∨ b = 1) :
    Ev (fun k => sibylref02_Make.f k neg (U l) (U m)) (madeOf neg a b) := by
  have n1 := norm_len hl
  have n2 := norm_len hm
  have t1 := trim_ev hl (by omega)
  have t2 := trim_ev hm (by omega)
  rw [ha] at t1 n1
  rw [hb] at t2 n2
  have h1 := norm_len0 ha0
  have h2 := norm_len0 hb0
  unfold sibylref02_Make.f
  refine Ev.bind t1 (Ev.bind t2 ?_)
  refine Ev.congr (fun k => by rw [if_neg (by rw [U_length]; omega), if_neg (by rw [U_length]; omega)]) ?_
  refine Ev.bind (common_ev (by omega) (by omega) ha0 hb0 h) (Ev.bind (divide_one (by omega)) (Ev.bind (divide_one (by omega)) ?_))
  by_cases c1 : (norm a).length ≤ 16
  · by_cases c2 : (norm b).length ≤ 16
    · have e : madeOf neg a b = (neg, U (norm a), U (norm b), 0) := if_pos ⟨c1, c2⟩
      rw [e]
      refine Ev.congr (fun k => by rw [if_neg (by rw [U_length]; omega), if_neg (by rw [U_length]; omega)]) (Ev.now _)
    · have e : madeOf neg a b = tooBig := if_neg (fun h => c2 h.2)
      rw [e]
      refine Ev.congr (fun k => by rw [if_neg (by rw [U_length]; omega), if_pos (by rw [U_length]; omega)]; rfl) (Ev.now _)
  · have e : madeOf neg a b = tooBig := if_neg (fun h => c1 h.1)
    rw [e]
    refine Ev.congr (fun k => by rw [if_pos (by rw [U_length]; omega)]; rfl) (Ev.now _)
theorem two_limbs {n : Nat} (hn : n < 18446744073709551616) : Lim [n % 4294967296, n / 4294967296] ∧ val [n % 4294967296, n / 4294967296] = n :=
  ⟨lim_cons.2 ⟨Nat.mod_lt _ (by decide), lim_one (by omega)⟩, by simp only [val]; omega⟩
theorem small_len {n : Nat} (hn : n < 18446744073709551616) : (norm n).length ≤ 2 := norm_length_le (by omega)
theorem of_ev {n : Nat} (h0 : n ≠ 0) (hn : n < 9223372036854775808) : Ev (fun k => sibylref02_Of.f k (n : Int)) (false, U (norm n), U (norm 1)) := by
  unfold sibylref02_Of.f
  obtain ⟨l1, l2⟩ := two_limbs (n := n) (by omega)
  have hm := make_ev false (m := [1]) l1 (lim_one (by decide)) (by simp) (by simp) l2 val_one h0 (by decide) (.inr rfl)
  have hs := small_len (n := n) (by omega)
  have hmo : madeOf false n 1 = (false, U (norm n), U (norm 1), 0) := by unfold madeOf; rw [if_pos ⟨by omega, by rw [norm_one]; decide⟩]
  rw [hmo] at hm
  refine Ev.congr (fun k => if_neg (by omega)) ?_
  have e1 : ([Int.tmod (IntKind.u64.wrap (n : Int)) 4294967296 % 4294967296, IntKind.u64.wrap (Int.tdiv (IntKind.u64.wrap (n : Int)) 4294967296) % 4294967296] : List Int) = U [n % 4294967296, n / 4294967296] := by
    rw [wuN (n := n) (by omega), tmodB, tdivB, wuN (by omega), modB (by omega)]; rfl
  refine Ev.congr (fun k => by rw [e1, decide_eq_false (show ¬ (n : Int) < 0 by omega)]) ?_
  exact Ev.bind hm (Ev.now _)
theorem form2_ev {a b : Nat} (ha : (norm a).length ≤ 16) (hb : (norm b).length ≤ 16) (ha0 : a ≠ 0) (hb0 : b ≠ 0) (h : a = 1 ∨ b = 1) : Ev (fun k => sibylref02_Form.f k false (U (norm a)) (U (norm b))) true := by
  unfold sibylref02_Form.f
  have h2 := norm_len0 hb0
  refine Ev.congr (fun k => by rw [form1_ev ha, Option.bind_some, if_pos (show true = true from rfl), form1_ev hb, Option.bind_some, if_pos (show true = true from rfl), if_neg (by rw [U_length]; omega), if_neg (by decide)]) ?_
  refine Ev.step (f := _) (fun k => by simp only [sibylref02_Form.j0]; rfl) ?_
  refine Ev.congr (fun k => if_neg (by decide)) ?_
  refine Ev.bind (common_ev (by omega) (by omega) ha0 hb0 h) ?_
  rw [U_norm_one]
  exact Ev.bind (same_self (l := ([1] : List Int)) (by decide)) (Ev.now _)
theorem times_norm {a b : Nat} (ha : (norm a).length ≤ 1000) (hb : (norm b).length ≤ 1000) : Ev (fun k => sibylref01_Times.f k (U (norm a)) (U (norm b))) (U (norm (a * b))) := by
  have := times_ev (lim_norm a) (lim_norm b) (by omega) (by omega)
  rwa [val_norm, val_norm] at this
theorem mul_len {a b : Nat} (ha : (norm a).length ≤ 16) (hb : (norm b).length ≤ 16) : (norm (a * b)).length ≤ 32 := by
  refine norm_length_le ?_
  have h1 := val_lt (lim_norm a)
  have h2 := val_lt (lim_norm b)
  rw [val_norm] at h1 h2
  have h3 : 4294967296 ^ (norm a).length ≤ 4294967296 ^ 16 := Nat.pow_le_pow_right (by decide) ha
  have h4 : 4294967296 ^ (norm b).length ≤ 4294967296 ^ 16 := Nat.pow_le_pow_right (by decide) hb
  have h5 : a * b < 4294967296 ^ 16 * 4294967296 ^ 16 := Nat.mul_lt_mul'' (Nat.lt_of_lt_of_le h1 h3) (Nat.lt_of_lt_of_le h2 h4)
  rwa [← Nat.pow_add] at h5
theorem div02_ev {D p : Nat} (hD : (norm D).length ≤ 16) (hD0 : D ≠ 0) (hp : (norm p).length ≤ 16) (hp0 : p ≠ 0) : Ev (fun k => sibylref02_Div.f k false (U (norm 1)) (U (norm D)) false (U (norm p)) (U (norm 1))) (madeOf false 1 (D * p)) := by
  have l1 : (norm 1).length ≤ 16 := by rw [norm_one]; decide
  have h2 := norm_len0 hp0
  unfold sibylref02_Div.f
  refine Ev.bind (form2_ev l1 hD (by decide) hD0 (.inl rfl)) ?_
  refine Ev.congr (fun k => if_pos (show true = true from rfl)) ?_
  refine Ev.bind (form2_ev hp l1 hp0 (by decide) (.inr rfl)) ?_
  refine Ev.step (f := _) (fun k => by simp only [sibylref02_Div.j0]; rfl) ?_
  refine Ev.congr (fun k => by rw [if_neg (by decide), if_neg (by rw [U_length]; omega)]) ?_
  have m1 := times_norm (a := 1) (b := 1) (by omega) (by omega)
  rw [Nat.one_mul] at m1
  have hml := mul_len hD hp
  have hmk := make_ev false (lim_norm 1) (lim_norm (D * p)) (by omega) (by omega) (val_norm 1) (val_norm (D * p)) (by decide) (Nat.mul_ne_zero hD0 hp0) (.inl rfl)
  refine Ev.bind m1 (Ev.bind (times_norm (a := D) (b := p) (by omega) (by omega)) ?_)
  exact Ev.bind hmk (Ev.now _)
/-- one over the numbers of picks, from one over D on -/
def exFrom : List S68 → Nat → Bool × List Int × List Int × Int
  | [], D => (false, U (norm 1), U (norm D), 0)
  | p :: log, D => if (norm (D * p.f0.toNat)).length ≤ 16 then exFrom log (D * p.f0.toNat) else tooBig
def exactR (log : List S68) : Bool × List Int × List Int × Int := if goodB log = true then exFrom log 1 else (false, [], [], 2)
theorem madeOf_pos {n : Nat} (h : (norm n).length ≤ 16) : madeOf false 1 n = (false, U (norm 1), U (norm n), 0) := by unfold madeOf; rw [if_pos ⟨by rw [norm_one]; decide, h⟩]
theorem madeOf_neg {n : Nat} (h : ¬ (norm n).length ≤ 16) : madeOf false 1 n = tooBig := by unfold madeOf; rw [if_neg (fun c => h c.2)]
theorem exact_loop {log : List S68} (hlog : log.length ≤ 8796093022208) (hg : goodB log = true) (d : Nat) : ∀ i D, i ≤ log.length → log.length - i = d → (norm D).length ≤ 16 → D ≠ 0 →
    Ev (fun k => sibylref21_Exact.l0 k log (i : Int) false (U (norm 1)) (U (norm D))) (exFrom (log.drop i) D) := by
  induction d with
  | zero =>
    intro i D hi hd hD hD0
    rw [List.drop_eq_nil_of_le (by omega)]
    refine Ev.step (f := fun _ => some (false, U (norm 1), U (norm D), (0 : Int))) (fun k => ?_) (Ev.now _)
    simp only [sibylref21_Exact.l0]
    rw [if_neg (by omega)]
  | succ d ih =>
    intro i D hi hd hD hD0
    have hlt : i < log.length := by omega
    obtain ⟨p1, p2, p3, p4⟩ := goodB_at hg i hlt
    obtain ⟨p, hp⟩ : ∃ p : Nat, (rd_T68 log i).f0 = (p : Int) := ⟨(rd_T68 log i).f0.toNat, by omega⟩
    have hpt : (log[i]).f0.toNat = p := by rw [← rd68 log i hlt, hp]; rfl
    rw [hp] at p1 p4
    have hw1 : wrap64 ((i : Int) + 1) = ((i + 1 : Nat) : Int) := by unfold wrap64; omega
    have hof := of_ev (n := p) (by omega) (by omega)
    have hpl := small_len (n := p) (by omega)
    have hdv := div02_ev hD hD0 (p := p) (by omega) (by omega)
    rw [drop68 hlt, exFrom, hpt]
    refine Ev.step (f := _) (fun k => by simp only [sibylref21_Exact.l0]; rfl) ?_
    refine Ev.congr (fun k => by rw [if_pos (show (i : Int) < (log.length : Int) by omega), if_pos (show (0 : Int) ≤ (i : Int) by omega), hp]) ?_
    refine Ev.bind hof ?_
    by_cases hL : (norm (D * p)).length ≤ 16
    · rw [madeOf_pos hL] at hdv
      rw [if_pos hL]
      refine Ev.bind hdv ?_
      refine Ev.congr (fun k => by rw [if_pos rfl, hw1]) ?_
      exact ih (i + 1) (D * p) (by omega) (by omega) hL (Nat.mul_ne_zero hD0 (by omega))
    · rw [madeOf_neg hL] at hdv
      rw [if_neg hL]
      refine Ev.bind hdv ?_
      exact Ev.congr (fun k => if_neg (by decide)) (Ev.now _)
theorem exact_ev {log : List S68} (hlog : log.length ≤ 8796093022208) : Ev (fun k => sibylref21_Exact.f k log) (exactR log) := by
  unfold sibylref21_Exact.f exactR
  have h := good21_ev hlog
  refine Ev.bind h ?_
  by_cases hg : goodB log = true
  · rw [if_pos hg]
    refine Ev.congr (fun k => if_pos hg) ?_
    have h1 := of_ev (n := 1) (by decide) (by decide)
    refine Ev.bind h1 ?_
    exact exact_loop hlog hg log.length 0 1 (by omega) (by omega) (by rw [norm_one]; decide) (by decide)
  · rw [if_neg hg]
    exact Ev.congr (fun k => if_neg hg) (Ev.now _)
end Go.Proofs.Ytjppanekddljbaa.Lb
/- What odds.Exact answers: the same as the reference's Exact. -/
namespace Go.Proofs.Ytjppanekddljbaa.Lb
open Go.RowKit Go.Proofs.Ytjppanekddljbaa.Pr Go.Proofs.YtjppanekddljbaaW.PrintWords Go.Proofs.YtjppanekddljbaaW.PrintLast Go.Proofs.YtjppanekddljbaaW.PrintMore
open Go.Proofs.Ytjppanekddljbaa.H
theorem cutn_val (l : List Nat) : ∀ n, n ≤ l.length → val (l.take n) = val (l.take (cutn (U l) n)) ∧ (l.take (cutn (U l) n) = [] ∨ ∃ a x, l.take (cutn (U l) n) = a ++ [x] ∧ x ≠ 0)
  | 0, _ => ⟨rfl, .inl rfl⟩
  | n + 1, h => by
    unfold cutn
    rw [rd_U]
    by_cases h0 : l.getD n 0 = 0
    · rw [if_pos (by rw [h0]; rfl), val_take_succ (by omega), h0, Nat.mul_zero, Nat.add_zero]
      exact cutn_val l n (by omega)
    · rw [if_neg (by omega)]
      exact ⟨rfl, .inr ⟨l.take n, l.getD n 0, by rw [List.take_succ_eq_append_getElem (by omega), List.getD, List.getElem?_eq_getElem (by omega)]; rfl, h0⟩⟩
theorem cutL_U {l : List Nat} (hL : Lim l) : cutL (U l) = U (norm (val l)) := by
  obtain ⟨h1, h2⟩ := cutn_val l l.length (Nat.le_refl _)
  rw [List.take_length] at h1
  unfold cutL
  rw [U_length, h1, norm_val (lim_take hL _) h2]
  simp [U]
theorem cutL_norm (n : Nat) : cutL (U (norm n)) = U (norm n) := by rw [cutL_U (lim_norm n), val_norm]
theorem ntrim_ev {l : List Nat} (hL : Lim l) (hl : l.length ≤ 1000000) : Ev (fun k => nats_Trim.f k (U l)) (U (norm (val l))) := by
  refine Ev.congr (f := fun _ => some (U (norm (val l)))) (fun k => ?_) (Ev.now _)
  unfold nats_Trim.f
  rw [if_pos (by rw [U_length]; omega), cutL_U hL]
theorem ntrim_norm {n : Nat} (hl : (norm n).length ≤ 1000) : Ev (fun k => nats_Trim.f k (U (norm n))) (U (norm n)) := by
  have := ntrim_ev (lim_norm n) (by omega)
  rwa [val_norm] at this
theorem ncut_loop (l : List Nat) (hL : Lim l) (hl : l.length ≤ 1000000) : ∀ n, n ≤ l.length → Ev (fun k => nats_cut.l0 k (U l) (n : Int)) (U (norm (val (l.take n)))) := by
  intro n
  induction n with
  | zero =>
    intro _
    refine Ev.step (f := fun _ => some (U (norm (val (l.take 0))))) (fun k => ?_) (Ev.now _)
    simp only [nats_cut.l0]
    rw [if_neg (by omega), if_pos (by omega), if_pos (by omega)]
    simp [val, norm_zero, U]
  | succ n ih =>
    intro hn
    have hval := val_take_succ (l := l) (i := n) (by omega)
    have hw : wrap64 (((n + 1 : Nat) : Int) - 1) = (n : Int) := by unfold wrap64; omega
    by_cases h0 : l.getD n 0 = 0
    · refine Ev.step (f := fun k => nats_cut.l0 k (U l) (n : Int)) (fun k => ?_) ?_
      · simp only [nats_cut.l0]
        rw [if_pos (by omega), hw, if_pos (by omega), if_pos (by rw [U_length]; omega), rd_U, if_pos (by rw [h0]; rfl)]
      · rw [hval, h0, Nat.mul_zero, Nat.add_zero]
        exact ih (by omega)
    · have h2 : norm (val (l.take (n + 1))) = l.take (n + 1) := norm_val (lim_take hL _) (.inr ⟨l.take n, l.getD n 0, by rw [List.take_succ_eq_append_getElem (by omega), List.getD, List.getElem?_eq_getElem (by omega)]; rfl, h0⟩)
      rw [h2]
      refine Ev.step (f := fun _ => some (U (l.take (n + 1)))) (fun k => ?_) (Ev.now _)
      simp only [nats_cut.l0]
      rw [if_pos (by omega), hw, if_pos (by omega), if_pos (by rw [U_length]; omega), rd_U, if_neg (by omega), if_pos (by omega), if_pos (by rw [U_length]; omega), Int.toNat_natCast]
      simp [U]
theorem ncut_ev {l : List Nat} (hL : Lim l) (hl : l.length ≤ 1000000) : Ev (fun k => nats_cut.f k (U l)) (U (norm (val l))) := by
  have h := ncut_loop l hL hl l.length (Nat.le_refl _)
  rw [List.take_length] at h
  unfold nats_cut.f
  rw [U_length]
  exact h
theorem ncmp_loop {a b : List Nat} (ha : Lim a) (hb : Lim b) (hab : a.length = b.length) (hl : a.length ≤ 1000000) : ∀ n, n ≤ a.length → a.drop n = b.drop n →
    Ev (fun k => nats_Cmp.l0 k (U a) (U b) ((n : Int) - 1)) (if val a < val b then -1 else if val a > val b then 1 else 0) := by
  intro n
  induction n with
  | zero =>
    intro _ he
    rw [List.drop_zero, List.drop_zero] at he
    subst he
    refine Ev.step (f := fun _ => some 0) (fun k => by simp only [nats_Cmp.l0]; rw [if_neg (by omega)]) ?_
    rw [if_neg (by omega), if_neg (by omega)]
    exact Ev.now _
  | succ n ih =>
    intro hn he
    have hi : (((n + 1 : Nat) : Int) - 1) = (n : Int) := by omega
    rw [hi]
    have step : ∀ k, nats_Cmp.l0 (k + 1) (U a) (U b) (n : Int) = if ((a.getD n 0 : Nat) : Int) = ((b.getD n 0 : Nat) : Int) then nats_Cmp.l0 k (U a) (U b) ((n : Int) - 1) else if ((a.getD n 0 : Nat) : Int) < ((b.getD n 0 : Nat) : Int) then some (-1) else some 1 := fun k => by
      simp only [nats_Cmp.l0]
      rw [if_pos (by omega), if_pos (by omega), if_pos (by rw [U_length]; omega), if_pos (by rw [U_length]; omega), rd_U, rd_U, w64 (by omega) (by omega)]
    by_cases h1 : a.getD n 0 < b.getD n 0
    · have := val_lt_of_top ha hb (by omega) (by omega) h1 he
      refine Ev.step (f := fun _ => some (-1)) (fun k => by rw [step, if_neg (by omega), if_pos (by omega)]) ?_
      rw [if_pos this]; exact Ev.now _
    · by_cases h2 : b.getD n 0 < a.getD n 0
      · have := val_lt_of_top hb ha (by omega) (by omega) h2 he.symm
        refine Ev.step (f := fun _ => some 1) (fun k => by rw [step, if_neg (by omega), if_neg (by omega)]) ?_
        rw [if_neg (by omega), if_pos this]; exact Ev.now _
      · refine Ev.step (f := fun k => nats_Cmp.l0 k (U a) (U b) ((n : Int) - 1)) (fun k => by rw [step, if_pos (by omega)]) ?_
        refine ih (by omega) ?_
        rw [List.drop_eq_getElem_cons (show n < a.length by omega), List.drop_eq_getElem_cons (show n < b.length by omega), he]
        congr 1
        simp [List.getD, show n < a.length by omega, show n < b.length by omega] at h1 h2
        omega
theorem ncmp_ev {a b : Nat} (hla : (norm a).length ≤ 1000) (hlb : (norm b).length ≤ 1000) :
    Ev (fun k => nats_Cmp.f k (U (norm a)) (U (norm b))) (if a < b then -1 else if a > b then 1 else 0) := by
  unfold nats_Cmp.f nats_Cmp.g
  rw [cutL_norm, cutL_norm, U_length, U_length]
  by_cases he : (norm a).length = (norm b).length
  · refine Ev.congr (fun k => by rw [if_pos (by omega), w64 (by omega) (by omega)]) ?_
    have h := ncmp_loop (lim_norm a) (lim_norm b) he (by omega) (norm a).length (Nat.le_refl _) (by rw [List.drop_of_length_le (Nat.le_refl _), List.drop_of_length_le (by omega)])
    rwa [val_norm, val_norm] at h
  · rcases Nat.lt_or_ge (norm a).length (norm b).length with h | h
    · have := norm_len_cmp h
      rw [if_pos this]
      exact Ev.congr (fun k => by rw [if_neg (by omega), if_pos (by omega)]) (Ev.now _)
    · have := norm_len_cmp (x := b) (y := a) (by omega)
      rw [if_neg (by omega), if_pos this]
      exact Ev.congr (fun k => by rw [if_neg (by omega), if_neg (by omega)]) (Ev.now _)
theorem or_zero {x : Nat} (h : x < 4294967296) : Go.bits .or .u64 (IntKind.u64.wrap (0 * 4294967296)) (IntKind.u64.wrap (x : Int)) = (x : Int) := by
  rw [wuN (n := x) (by omega), show IntKind.u64.wrap (0 * 4294967296) = ((0 : Nat) : Int) from by decide, u64_or_nat 0 x (by decide) (by omega), Nat.zero_or]
theorem nword_loop {l : List Nat} (hL : Lim l) (hl : l.length ≤ 1000) : ∀ (n : Nat) (O : List Nat), n ≤ l.length → O.length = l.length → O.drop n = l.drop n →
    Ev (fun k => nats_word.l0 k (U l) 1 (U O) 0 ((n : Int) - 1)) (U (norm (val l)), 0) := by
  intro n
  induction n with
  | zero =>
    intro O _ hO he
    rw [List.drop_zero, List.drop_zero] at he
    subst he
    refine Ev.step (f := fun k => (nats_cut.f k (U O)).bind fun t => some (t, (0 : Int))) (fun k => ?_) ?_
    · simp only [nats_word.l0]
      rw [if_neg (by omega)]; rfl
    · exact Ev.bind (ncut_ev hL (by omega)) (Ev.now _)
  | succ n ih =>
    intro O hn hO he
    have hi : (((n + 1 : Nat) : Int) - 1) = (n : Int) := by omega
    rw [hi]
    have hln := lim_get hL n
    have hw : wrap64 ((n : Int) - 1) = (n : Int) - 1 := by unfold wrap64; omega
    refine Ev.step (fun k => ?_) (ih (O.set n (l.getD n 0)) (by omega) (by simpa using hO) ?_)
    · simp only [nats_word.l0]
      rw [if_pos (by omega), if_pos (by omega), if_pos (by rw [U_length]; omega), if_neg (by decide), if_pos (by rw [U_length]; omega), rd_U, or_zero hln, hw, show IntKind.u64.wrap 1 = 1 from by decide, Int.tdiv_one, Int.tmod_one, wuN (n := l.getD n 0) (by omega), modB hln, Int.toNat_natCast, U_set]
    · have h1 : O.drop (n + 1) = l.drop (n + 1) := he
      rw [List.drop_eq_getElem_cons (show n < (O.set n (l.getD n 0)).length by simp; omega), List.drop_eq_getElem_cons (show n < l.length by omega)]
      congr 1
      · simp [List.getD, show n < l.length by omega]
      · rw [List.drop_set, if_pos (by omega), h1]
theorem nword_ev {a : Nat} (ha : (norm a).length ≤ 1000) : Ev (fun k => nats_word.f k (U (norm a)) 1) (U (norm a), 0) := by
  have h := nword_loop (lim_norm a) ha (norm a).length (List.replicate (norm a).length 0) (Nat.le_refl _) (by simp) (by rw [List.drop_of_length_le (by simp), List.drop_of_length_le (by simp)])
  rw [val_norm, U_replicate] at h
  refine Ev.congr (fun k => ?_) h
  unfold nats_word.f
  rw [U_length, if_pos (by omega), if_pos (by rw [Int.toNat_natCast]; omega), Int.toNat_natCast, w64 (by omega) (by omega)]
theorem nquo_one {a : Nat} (ha : (norm a).length ≤ 1000) (h0 : a ≠ 0) : Ev (fun k => nats_QuoRem.f k (U (norm a)) (U (norm 1))) (U (norm a), U (norm 0)) := by
  unfold nats_QuoRem.f
  rw [cutL_norm, cutL_norm]
  refine Ev.bind (ncmp_ev ha len_one) ?_
  have e : rd (U (norm 1)) 0 = 1 := by rw [norm_one]; rfl
  refine Ev.congr (fun k => by rw [if_neg (by rw [if_neg (by omega)]; split <;> omega), if_pos (by rw [norm_one]; rfl), e]) ?_
  refine Ev.bind (nword_ev ha) ?_
  have hc := ncut_ev (l := [0]) (lim_one (by decide)) (by decide)
  exact Ev.bind hc (Ev.now _)
theorem nquo_less {a b : Nat} (ha : (norm a).length ≤ 1000) (hb : (norm b).length ≤ 1000) (h : a < b) : Ev (fun k => nats_QuoRem.f k (U (norm a)) (U (norm b))) ([], U (norm a)) := by
  unfold nats_QuoRem.f
  rw [cutL_norm, cutL_norm]
  refine Ev.bind (ncmp_ev ha hb) ?_
  refine Ev.congr (fun k => if_pos (by rw [if_pos h]; decide)) ?_
  exact Ev.bind (ntrim_norm ha) (Ev.now _)
theorem ngcd_end : Ev (fun k => nats_Gcd.l0 k (U (norm 1)) (U (norm 0))) (U (norm 1)) := by
  refine Ev.step (f := fun k => (nats_Trim.f k (U (norm 1))).bind fun t => some t) (fun k => ?_) (Ev.bind (ntrim_norm len_one) (Ev.now _))
  simp only [nats_Gcd.l0]
  rw [norm_zero, if_neg (by simp [U])]
theorem ngcd_right {a : Nat} (ha : (norm a).length ≤ 1000) (h0 : a ≠ 0) : Ev (fun k => nats_Gcd.l0 k (U (norm a)) (U (norm 1))) (U (norm 1)) := by
  refine Ev.step (f := _) (fun k => by simp only [nats_Gcd.l0]; rfl) ?_
  refine Ev.congr (fun k => if_pos (by rw [norm_one]; decide)) ?_
  exact Ev.bind (nquo_one ha h0) ngcd_end
theorem ngcd_ev {a b : Nat} (ha : (norm a).length ≤ 1000) (hb : (norm b).length ≤ 1000) (ha0 : a ≠ 0) (hb0 : b ≠ 0) (h : a = 1 ∨ b = 1) : Ev (fun k => nats_Gcd.f k (U (norm a)) (U (norm b))) (U (norm 1)) := by
  unfold nats_Gcd.f
  refine Ev.bind (ntrim_norm ha) (Ev.bind (ntrim_norm hb) ?_)
  by_cases h1 : b = 1
  · subst h1; exact ngcd_right ha ha0
  · have e : a = 1 := by omega
    subst e
    have h2 := norm_len0 hb0
    refine Ev.step (f := _) (fun k => by simp only [nats_Gcd.l0]; rfl) ?_
    refine Ev.congr (fun k => if_pos (by rw [U_length]; omega)) ?_
    exact Ev.bind (nquo_less len_one hb (by omega)) (ngcd_right hb hb0)
theorem rone_ev : ratio_one.f (U (norm 1)) = some true := by rw [norm_one]; decide
theorem rnat_ev {n : Nat} (h : (norm n).length ≤ 16) : ratio_natural.f (U (norm n)) = some true := form1_ev h
theorem rform_ev {a b : Nat} (ha : (norm a).length ≤ 16) (hb : (norm b).length ≤ 16) (ha0 : a ≠ 0) (hb0 : b ≠ 0) (h : a = 1 ∨ b = 1) : Ev (fun k => ratio_Form.f k false (U (norm a)) (U (norm b))) true := by
  unfold ratio_Form.f
  have h2 := norm_len0 hb0
  refine Ev.congr (fun k => by rw [rnat_ev ha, Option.bind_some, if_pos (show true = true from rfl), rnat_ev hb, Option.bind_some, if_pos (show true = true from rfl), if_neg (by rw [U_length]; omega), if_neg (by decide)]) ?_
  refine Ev.step (f := _) (fun k => by simp only [ratio_Form.j0]; rfl) ?_
  refine Ev.congr (fun k => if_neg (by decide)) ?_
  refine Ev.bind (ngcd_ev (by omega) (by omega) ha0 hb0 h) ?_
  exact Ev.congr (fun k => by rw [rone_ev, Option.bind_some]) (Ev.now _)
theorem rforms_ev {a b c d : Nat} (h1 : Ev (fun k => ratio_Form.f k false (U (norm a)) (U (norm b))) true) (h2 : Ev (fun k => ratio_Form.f k false (U (norm c)) (U (norm d))) true) :
    Ev (fun k => ratio_forms.f k [⟨false, U (norm a), U (norm b)⟩, ⟨false, U (norm c), U (norm d)⟩]) true := by
  unfold ratio_forms.f
  obtain ⟨L, hL⟩ : ∃ L : List S36, [⟨false, U (norm a), U (norm b)⟩, ⟨false, U (norm c), U (norm d)⟩] = L := ⟨_, rfl⟩
  have hlen : L.length = 2 := by rw [← hL]; rfl
  have r0 : rd_T36 L 0 = ⟨false, U (norm a), U (norm b)⟩ := by rw [← hL]; rfl
  have r1 : rd_T36 L 1 = ⟨false, U (norm c), U (norm d)⟩ := by rw [← hL]; rfl
  rw [hL, hlen]
  clear hL
  refine Ev.step (f := _) (fun k => by simp only [ratio_forms.l0]; rfl) ?_
  refine Ev.congr (fun k => by rw [if_pos (by decide), if_pos (by decide), if_pos (by rw [hlen]; decide), r0]) ?_
  refine Ev.bind h1 ?_
  refine Ev.congr (fun k => if_pos (show true = true from rfl)) ?_
  rw [show wrap64 (0 + 1) = 1 from by unfold wrap64; omega]
  refine Ev.step (f := _) (fun k => by simp only [ratio_forms.l0]; rfl) ?_
  refine Ev.congr (fun k => by rw [if_pos (by decide), if_pos (by decide), if_pos (by rw [hlen]; decide), r1]) ?_
  refine Ev.bind h2 ?_
  refine Ev.congr (fun k => if_pos (show true = true from rfl)) ?_
  rw [show wrap64 (1 + 1) = 2 from by unfold wrap64; omega]
  refine Ev.step (f := fun _ => some true) (fun k => ?_) (Ev.now _)
  simp only [ratio_forms.l0]
  rw [if_neg (by decide)]
theorem nmul_sum {c o p q : Nat} (hc : c < 4294967296) (ho : o < 4294967296) (hp : p < 4294967296) (hq : q < 4294967296) :
    IntKind.u64.wrap (IntKind.u64.wrap (IntKind.u64.wrap (IntKind.u64.wrap ((p : Nat) : Int) * IntKind.u64.wrap ((q : Nat) : Int)) + IntKind.u64.wrap ((o : Nat) : Int)) + (c : Int)) = ((c + o + p * q : Nat) : Int) ∧ c + o + p * q < 18446744073709551616 := by
  have b4 : p * q ≤ 4294967295 * 4294967295 := Nat.mul_le_mul (by omega) (by omega)
  obtain ⟨z, hz⟩ : ∃ z, p * q = z := ⟨_, rfl⟩
  rw [wuN (n := o) (by omega), wuN (n := p) (by omega), wuN (n := q) (by omega), ← Int.natCast_mul, hz]
  rw [hz] at b4
  rw [wuN (n := z) (by omega), ← Int.natCast_add, wuN (by omega), ← Int.natCast_add, wuN (by omega)]
  exact ⟨by congr 1; omega, by omega⟩
theorem nmul_s1 {x y O : List Nat} (hx : Lim x) (hy : Lim y) (hlx : x.length ≤ 100000) (hly : y.length ≤ 100000) {i c j k : Nat} (hi : i < x.length) (hj : j < y.length) (hO : O.length = x.length + y.length) (hL : Lim O) (hc : c < 4294967296) :
    nats_Mul.l1 (k + 1) (U y) (U O) (i : Int) ((x.getD i 0 : Nat) : Int) (c : Int) (U x) (x.length : Int) (i : Int) (U y) (y.length : Int) (j : Int) = nats_Mul.l1 k (U y) (U (O.set (i + j) ((c + O.getD (i + j) 0 + x.getD i 0 * y.getD j 0) % 4294967296))) (i : Int) ((x.getD i 0 : Nat) : Int) (((c + O.getD (i + j) 0 + x.getD i 0 * y.getD j 0) / 4294967296 : Nat) : Int) (U x) (x.length : Int) (i : Int) (U y) (y.length : Int) ((j + 1 : Nat) : Int) := by
  have HS := Aside0.mk (nmul_sum hc (lim_get hL (i + j)) (lim_get hx i) (lim_get hy j))
  have hw : wrap64 ((i : Int) + (j : Int)) = ((i + j : Nat) : Int) := by unfold wrap64; omega
  have hw2 : wrap64 ((j : Int) + 1) = ((j + 1 : Nat) : Int) := by unfold wrap64; omega
  simp only [nats_Mul.l1, U_length]
  rw [if_pos (by omega), hw, if_pos (by omega), if_pos (by omega), if_pos (by omega), if_pos (by omega), rd_U, rd_U, HS.out.1, hw2]
  have hb := HS.out.2
  clear HS
  obtain ⟨s, hse⟩ : ∃ s, c + O.getD (i + j) 0 + x.getD i 0 * y.getD j 0 = s := ⟨_, rfl⟩
  rw [hse] at hb ⊢
  rw [show ((s : Nat) : Int) % 4294967296 = ((s % 4294967296 : Nat) : Int) from by omega, show ((s : Nat) : Int) / 4294967296 = ((s / 4294967296 : Nat) : Int) from by omega, Int.toNat_natCast, U_set]
theorem nmul_core {x y : List Nat} (hx : Lim x) (hy : Lim y) (hlx : x.length ≤ 100000) (hly : y.length ≤ 100000) :
    Ev (fun k => nats_Mul.l0 k (U y) (U (List.replicate (x.length + y.length) 0)) (U x) (x.length : Int) ((0 : Nat) : Int)) (U (norm (val x * val y))) := by
  have s0 : ∀ (O : List Nat) (i k : Nat), O.length = x.length + y.length → Lim O → i < x.length → nats_Mul.l0 (k + 1) (U y) (U O) (U x) (x.length : Int) (i : Int) = nats_Mul.l1 k (U y) (U O) (i : Int) ((x.getD i 0 : Nat) : Int) ((0 : Nat) : Int) (U x) (x.length : Int) (i : Int) (U y) (y.length : Int) ((0 : Nat) : Int) := by
    intro O i k hO hL hi
    simp only [nats_Mul.l0, U_length]
    rw [if_pos (by omega), if_pos (by omega), if_pos (by omega), rd_U]; rfl
  have s2 : ∀ (i : Nat) (O : List Nat) (c k : Nat), i < x.length → O.length = x.length + y.length → Lim O → c < 4294967296 → nats_Mul.l1 (k + 1) (U y) (U O) (i : Int) ((x.getD i 0 : Nat) : Int) (c : Int) (U x) (x.length : Int) (i : Int) (U y) (y.length : Int) (y.length : Int) = nats_Mul.l0 k (U y) (U (O.set (i + y.length) c)) (U x) (x.length : Int) ((i + 1 : Nat) : Int) := by
    intro i O c k hi hO hL hc
    have hw : wrap64 ((i : Int) + (y.length : Int)) = ((i + y.length : Nat) : Int) := by unfold wrap64; omega
    have hw2 : wrap64 ((i : Int) + 1) = ((i + 1 : Nat) : Int) := by unfold wrap64; omega
    simp only [nats_Mul.l1, U_length]
    rw [if_neg (by omega), hw, hw2, if_pos (by omega), if_pos (by omega), Int.toNat_natCast, modB hc, U_set]
  have fin : ∀ O : List Nat, O.length = x.length + y.length → Lim O → val O = val x * val y → Ev (fun k => nats_Mul.l0 k (U y) (U O) (U x) (x.length : Int) (x.length : Int)) (U (norm (val x * val y))) := by
    intro O hO hL hv
    refine Ev.step (f := fun k => (nats_cut.f k (U O)).bind fun t => some t) (fun k => ?_) ?_
    · simp only [nats_Mul.l0, U_length]
      rw [if_neg (by omega)]
    · have h := ncut_ev (l := O) hL (by omega)
      rw [hv] at h
      exact Ev.bind h (Ev.now _)
  exact mul_gen (n := x.length + y.length) hx hy (fun O i k => nats_Mul.l0 k (U y) (U O) (U x) (x.length : Int) (i : Int)) (fun i O c j k => nats_Mul.l1 k (U y) (U O) (i : Int) ((x.getD i 0 : Nat) : Int) (c : Int) (U x) (x.length : Int) (i : Int) (U y) (y.length : Int) (j : Int)) _ (by omega) s0
    (fun i O c j k hi hj hO hL hc => nmul_s1 hx hy hlx hly hi hj hO hL hc) s2 fin
theorem nmul_ev {a b : Nat} (ha : (norm a).length ≤ 1000) (hb : (norm b).length ≤ 1000) : Ev (fun k => nats_Mul.f k (U (norm a)) (U (norm b))) (U (norm (a * b))) := by
  unfold nats_Mul.f nats_Mul.g
  rw [cutL_norm, cutL_norm, U_length, U_length]
  have h := nmul_core (lim_norm a) (lim_norm b) (by omega) (by omega)
  rw [val_norm, val_norm] at h
  have hw : wrap64 (((norm a).length : Int) + ((norm b).length : Int)) = (((norm a).length + (norm b).length : Nat) : Int) := by unfold wrap64; omega
  rw [hw]
  refine Ev.congr (fun k => ?_) h
  rw [if_pos (by omega), if_pos (by rw [Int.toNat_natCast]; omega), Int.toNat_natCast, U_replicate]; rfl
theorem rmake_ev {b : Nat} (hlb : (norm b).length ≤ 1000) (hb0 : b ≠ 0) : Ev (fun k => ratio_Make.f k false (U (norm 1)) (U (norm b))) (madeOf false 1 b) := by
  have h2 := norm_len0 hb0
  have l1 := len_one
  have l16 : (norm 1).length = 1 := by rw [norm_one]; rfl
  unfold ratio_Make.f
  refine Ev.bind (ntrim_norm l1) (Ev.bind (ntrim_norm hlb) ?_)
  refine Ev.congr (fun k => by rw [if_neg (by rw [U_length]; omega), if_neg (by rw [U_length]; omega)]) ?_
  refine Ev.bind (ngcd_ev l1 hlb (by decide) hb0 (.inl rfl)) ?_
  refine Ev.congr (fun k => by rw [rone_ev, Option.bind_some, if_pos (show true = true from rfl), if_neg (by rw [U_length]; omega)]) ?_
  by_cases c2 : (norm b).length ≤ 16
  · rw [madeOf_pos c2]
    exact Ev.congr (fun k => by rw [if_neg (by rw [U_length]; omega)]) (Ev.now _)
  · rw [madeOf_neg c2]
    exact Ev.congr (fun k => by rw [if_pos (by rw [U_length]; omega)]; rfl) (Ev.now _)
theorem rof_ev {n : Nat} (hn : n < 9223372036854775808) : Ev (fun k => ratio_Of.f k (n : Int)) (false, U (norm n), U (norm 1)) := by
  unfold ratio_Of.f
  obtain ⟨l1, l2⟩ := two_limbs (n := n) (by omega)
  have ht := ntrim_ev l1 (by simp)
  rw [l2] at ht
  refine Ev.congr (fun k => if_neg (by omega)) ?_
  have e1 : ([IntKind.u64.wrap (n : Int) % 4294967296, IntKind.u64.wrap (n : Int) / 4294967296 % 4294967296] : List Int) = U [n % 4294967296, n / 4294967296] := by
    rw [wuN (n := n) (by omega), show ((n : Nat) : Int) % 4294967296 = ((n % 4294967296 : Nat) : Int) from by omega, show ((n : Nat) : Int) / 4294967296 % 4294967296 = ((n / 4294967296 : Nat) : Int) from by omega]; rfl
  refine Ev.congr (fun k => by rw [e1, decide_eq_false (show ¬ (n : Int) < 0 by omega)]) ?_
  rw [U_norm_one]
  exact Ev.bind ht (Ev.now _)
theorem rdiv_ev {D p : Nat} (hD : (norm D).length ≤ 16) (hD0 : D ≠ 0) (hp : (norm p).length ≤ 16) (hp0 : p ≠ 0) : Ev (fun k => ratio_Div.f k false (U (norm 1)) (U (norm D)) false (U (norm p)) (U (norm 1))) (madeOf false 1 (D * p)) := by
  have l1 : (norm 1).length ≤ 16 := by rw [norm_one]; decide
  have h2 := norm_len0 hp0
  unfold ratio_Div.f
  refine Ev.bind (rforms_ev (rform_ev l1 hD (by decide) hD0 (.inl rfl)) (rform_ev hp l1 hp0 (by decide) (.inr rfl))) ?_
  refine Ev.congr (fun k => by rw [if_pos (show true = true from rfl), if_neg (by rw [U_length]; omega)]) ?_
  have m1 := nmul_ev (a := 1) (b := 1) (by omega) (by omega)
  rw [Nat.one_mul] at m1
  have hml := mul_len hD hp
  refine Ev.bind m1 (Ev.bind (nmul_ev (a := D) (b := p) (by omega) (by omega)) ?_)
  exact Ev.bind (rmake_ev (by omega) (Nat.mul_ne_zero hD0 hp0)) (Ev.now _)
theorem rexact_loop {log : List S68} (hlog : log.length ≤ 8796093022208) (hg : goodB log = true) (d : Nat) : ∀ i D, i ≤ log.length → log.length - i = d → (norm D).length ≤ 16 → D ≠ 0 →
    Ev (fun k => odds_Exact.l0 k log (log.length : Int) (i : Int) false (U (norm 1)) (U (norm D))) (exFrom (log.drop i) D) := by
  induction d with
  | zero =>
    intro i D hi hd hD hD0
    rw [List.drop_eq_nil_of_le (by omega)]
    refine Ev.step (f := fun _ => some (false, U (norm 1), U (norm D), (0 : Int))) (fun k => ?_) (Ev.now _)
    simp only [odds_Exact.l0]
    rw [if_neg (by omega)]
  | succ d ih =>
    intro i D hi hd hD hD0
    have hlt : i < log.length := by omega
    obtain ⟨p1, p2, p3, p4⟩ := goodB_at hg i hlt
    obtain ⟨p, hp⟩ : ∃ p : Nat, (rd_T68 log i).f0 = (p : Int) := ⟨(rd_T68 log i).f0.toNat, by omega⟩
    have hpt : (log[i]).f0.toNat = p := by rw [← rd68 log i hlt, hp]; rfl
    rw [hp] at p1 p4
    have hw1 : wrap64 ((i : Int) + 1) = ((i + 1 : Nat) : Int) := by unfold wrap64; omega
    have hof := rof_ev (n := p) (by omega)
    have hpl := small_len (n := p) (by omega)
    have hdv := rdiv_ev hD hD0 (p := p) (by omega) (by omega)
    rw [drop68 hlt, exFrom, hpt]
    refine Ev.step (f := _) (fun k => by simp only [odds_Exact.l0]; rfl) ?_
    refine Ev.congr (fun k => by rw [if_pos (show (i : Int) < (log.length : Int) by omega), if_pos (show (0 : Int) ≤ (i : Int) by omega), if_pos (show (i : Int) < (log.length : Int) by omega), hp]) ?_
    refine Ev.bind hof ?_
    by_cases hL : (norm (D * p)).length ≤ 16
    · rw [madeOf_pos hL] at hdv
      rw [if_pos hL]
      refine Ev.bind hdv ?_
      refine Ev.congr (fun k => by rw [if_pos rfl, hw1]) ?_
      exact ih (i + 1) (D * p) (by omega) (by omega) hL (Nat.mul_ne_zero hD0 (by omega))
    · rw [madeOf_neg hL] at hdv
      rw [if_neg hL]
      refine Ev.bind hdv ?_
      exact Ev.congr (fun k => if_neg (by decide)) (Ev.now _)
theorem rexact_ev {log : List S68} (hlog : log.length ≤ 8796093022208) : Ev (fun k => odds_Exact.f k log) (exactR log) := by
  unfold odds_Exact.f exactR
  have h : Ev (fun k => odds_good.f k log) (goodB log) := ⟨0, fun k _ => by unfold odds_good.f; rw [if_pos hlog]⟩
  refine Ev.bind h ?_
  by_cases hg : goodB log = true
  · rw [if_pos hg]
    refine Ev.congr (fun k => if_pos hg) ?_
    refine Ev.bind (rof_ev (n := 1) (by decide)) ?_
    exact rexact_loop hlog hg log.length 0 1 (by omega) (by omega) (by rw [norm_one]; decide) (by decide)
  · rw [if_neg hg]
    exact Ev.congr (fun k => if_neg hg) (Ev.now _)
end Go.Proofs.Ytjppanekddljbaa.Lb
/- The law's wakes returns true. -/
namespace Go.Proofs.Ytjppanekddljbaa.H
open Go.RowKit Go.Proofs.Ytjppanekddljbaa.Pr Go.Proofs.YtjppanekddljbaaW.PrintWords Go.Proofs.YtjppanekddljbaaW.PrintLast Go.Proofs.YtjppanekddljbaaW.PrintMore
open Go.Proofs.Ytjppanekddljbaa.Fl
def W13 : List Nat := [4607182418800017408, 4613937818241073152]
def WNM : List Nat := [9221120237041090561, 13830554455654793216]
def L1 : List S68 := [⟨2, 1⟩, ⟨2, 0⟩]
def L2 : List S68 := [⟨2, 1⟩, ⟨3, 0⟩]
theorem k1 : (List.range 2).map (shareW (wOf W13 0) 2) = [4598175219545276416, 4604930618986332160] := by decide +kernel
theorem k2 : (List.range 2).map (shareW (wOf WNM 0) 2) = [4602678819172646912, 4602678819172646912] := by decide +kernel
theorem k3 : chanceTo W13 L1 2 = some 4603241769126068224 := by decide +kernel
theorem k4 : sumF [9214871658872686752, 9214871658872686752] = some 9218868437227405312 := by decide +kernel
theorem k5 : odds_Exact.f 40 L2 = some (false, [1], [6], 0) := by decide +kernel
theorem k6 : goodB L1 = true ∧ goodB L2 = true := by decide +kernel
theorem C_lit2 (w : World) (a b : Nat) : kf.C (w.alloc (.cells #[.float .f64 a, .float .f64 b] 25)) (some ⟨w.heap.size, 0, none⟩) 2 [a, b] := by
  refine Kd.C_of_reads (d := 0) (h1 := fun _ => rfl) ⟨rfl, by omega, fun _ => ⟨_, rfl, fun j hj => ?_⟩⟩
  rw [add_plain]
  rcases (by omega : j = 0 ∨ j = 1) with rfl | rfl <;> go_simp <;> rfl
theorem C_litP (w : World) (a b c d : Int) (n : Nat) (hn : n = w.heap.size) : Kd.C k68 (w.alloc (.cells #[.int .i64 a, .int .i64 b, .int .i64 c, .int .i64 d] 68)) (some ⟨n, 0, none⟩) 2 [⟨a, b⟩, ⟨c, d⟩] := by
  subst hn
  refine ⟨rfl, by omega, fun _ => ⟨_, rfl, fun j p hj => ?_⟩⟩
  have hlt : j < 2 := (List.getElem?_eq_some_iff.1 hj).1
  rcases (by omega : j = 0 ∨ j = 1) with rfl | rfl
  · obtain rfl : (⟨a, b⟩ : S68) = p := by simpa using hj
    refine ⟨_, rfl, k68_mk _ _, fun i u hi => ?_⟩
    have hlt : i < 2 := (List.getElem?_eq_some_iff.1 hi).1
    rcases (by omega : i = 0 ∨ i = 1) with rfl | rfl
    · obtain rfl := Option.some.inj hi; rw [add_plain]; go_simp
    · obtain rfl := Option.some.inj hi; rw [add_plain]; go_simp
  · obtain rfl : (⟨c, d⟩ : S68) = p := by simpa using hj
    refine ⟨_, rfl, k68_mk _ _, fun i u hi => ?_⟩
    have hlt : i < 2 := (List.getElem?_eq_some_iff.1 hi).1
    rcases (by omega : i = 0 ∨ i = 1) with rfl | rfl
    · obtain rfl := Option.some.inj hi; rw [add_plain]; go_simp; rfl
    · obtain rfl := Option.some.inj hi; rw [add_plain]; go_simp; rfl
theorem k7 : sibylref02_Text.f 100 false [1] [6] = some (⟨#[49, 47, 54]⟩, 0) := by kernel_rfl
set_option maxHeartbeats 4000000 in
set_option maxRecDepth 100000 in
theorem wakes_calls (w : World) : Calls Try.prog 7 #[] w fun e w' => e = .returned (.bool true) ∧ Below w.heap.size w w' := by
  go_enter Try.func7, Try.ntmps7
  go_wp2_with (fail)
  refine (shares_ok _ _ W13 0 2 _ (C_lit2 w _ _) (by decide) (by decide) (by decide) (by omega) (by omega) (by omega) (by omega)).mono ?_
  rintro e w1 ⟨v1, rfl, ho1, hb1⟩
  obtain ⟨g1, cap1, e1, hg1, hl1, _⟩ := Kd.R_form ho1 (by decide)
  rw [k1] at ho1 e1
  subst e1
  have HB1 := Aside0.mk (below_step (below_alloc (Below.refl _ _) _) hb1)
  clear hb1
  have ca := own_f_cell ho1 0 (by decide)
  have cb := own_f_cell ho1 1 (by decide)
  simp only [List.getD] at ca cb
  clear ho1 hg1
  go_wp2_with (fail)
  refine (nan_calls _).mono ?_
  rintro e w' ⟨rfl, ⟨nd, rfl⟩⟩
  go_wp2_with (fail)
  refine (shares_ok _ _ WNM 0 2 _ (Kd.C_drewN (C_lit2 w1 _ _) _) (by decide) (by decide) (by decide) (by omega) (by omega) (by omega) (by omega)).mono ?_
  rintro e w2 ⟨v2, rfl, ho2, hb2⟩
  obtain ⟨g2, cap2, e2, _, _, _⟩ := Kd.R_form ho2 (by decide)
  rw [k2] at ho2 e2
  subst e2
  replace hb2 := below_step (pw_below_drewN (below_alloc (Below.refl _ _) _) nd) hb2
  replace HB1 := Aside0.mk (below_step HB1.out hb2)
  replace ca := pw_cell_below hb2 ca
  replace cb := pw_cell_below hb2 cb
  have cc := own_f_cell ho2 0 (by decide)
  simp only [List.getD] at cc
  clear ho2 hb2
  go_wp2_with (fail)
  refine (chance_ok _ _ W13 _ _ L1 4603241769126068224 _ (Kd.C_alloc (C_lit2 w2 _ _) _) (by decide) (by decide) (by decide) (C_litP _ _ _ _ _ _ (by simp)) (by decide) (by decide) k6.1 k3).mono ?_
  rintro e w3 ⟨rfl, hb3⟩
  replace hb3 := below_step (below_alloc (below_alloc (Below.refl _ _) _) _) hb3
  replace HB1 := Aside0.mk (below_step HB1.out hb3)
  replace ca := pw_cell_below hb3 ca
  replace cb := pw_cell_below hb3 cb
  replace cc := pw_cell_below hb3 cc
  clear hb3
  go_wp2_with (fail)
  refine (odds_Exact.calls 40 _ _ L2 false [1] [6] 0 _ (C_litP _ _ _ _ _ _ rfl) (by decide) k5).mono ?_
  rintro e w4 ⟨v4, v5, rfl, ho4, ho5, hb4⟩
  obtain ⟨A4, c4, e4, hl4, hc4⟩ := Kd.R_reads ho4
  obtain ⟨A5, c5, e5, hl5, hc5⟩ := Kd.R_reads ho5
  subst e4 e5
  replace hb4 := below_step (below_alloc (Below.refl _ _) _) hb4
  replace HB1 := Aside0.mk (below_step HB1.out hb4)
  replace ca := pw_cell_below hb4 ca
  replace cb := pw_cell_below hb4 cb
  replace cc := pw_cell_below hb4 cc
  have HC4 := Aside0.mk hc4
  have HC5 := Aside0.mk hc5
  clear hb4 ho4 ho5 hc4 hc5
  go_wp2_with (fail)
  refine (sibylref02_Text.calls 100 false A4 c4 [1] A5 c5 [6] ⟨#[49, 47, 54]⟩ 0 _ (Kd.C_alloc HC4.out _) hl4 (Kd.C_alloc HC5.out _) hl5 k7).mono ?_
  rintro e w5 ⟨rfl, hb5⟩
  replace hb5 := below_step (below_alloc (Below.refl _ _) _) hb5
  replace HB1 := Aside0.mk (below_step HB1.out hb5)
  replace ca := pw_cell_below hb5 ca
  replace cb := pw_cell_below hb5 cb
  replace cc := pw_cell_below hb5 cc
  clear hb5
  have q1 : (FloatKind.f64.format.order 4598175219545276416 4598175219545276416 == some .eq) = true := by decide +kernel
  have q2 : (FloatKind.f64.format.order 4604930618986332160 4604930618986332160 == some .eq) = true := by decide +kernel
  have q3 : (FloatKind.f64.format.order 4602678819172646912 4602678819172646912 == some .eq) = true := by decide +kernel
  have q4 : (FloatKind.f64.format.order 4603241769126068224 4603241769126068224 == some .eq) = true := by decide +kernel
  have q5 : (FloatKind.f64.format.order 9218868437227405312 9218868437227405311 == some .gt) = true := by decide +kernel
  simp only [List.getElem?_cons_zero, List.getElem?_cons_succ, Option.getD_some] at ca cb cc
  go_wp2_with (fail)
  refine (total_calls _ _ [9214871658872686752, 9214871658872686752] _ (C_lit2 w5 _ _) (by decide)).mono ?_
  rw [k4]
  rintro e w6 ⟨rfl, ⟨n6, rfl⟩⟩
  go_wp2_with (fail)
  go_ret
  exact ⟨rfl, pw_below_drewN (below_alloc HB1.out _) _⟩
end Go.Proofs.Ytjppanekddljbaa.H
/- The walk of OddsChances: of a slice of whole 64-bit numbers and a slice of picks the Go code returns true, and nothing that stood before has changed. -/
namespace Go.Proofs.Ytjppanekddljbaa.H
open Go.RowKit Go.Proofs.Ytjppanekddljbaa.Pr Go.Proofs.YtjppanekddljbaaW.PrintWords Go.Proofs.YtjppanekddljbaaW.PrintLast Go.Proofs.YtjppanekddljbaaW.PrintMore
open Go.Proofs.Ytjppanekddljbaa.Fl Go.Proofs.Ytjppanekddljbaa.Lb
theorem u64_nat2 {l : List Int} (h : ∀ x ∈ l, (Lit.int .u64 x).wf = true) : l = U (l.map Int.toNat) ∧ ∀ x ∈ l.map Int.toNat, x < 18446744073709551616 := by
  induction l with
  | nil => exact ⟨rfl, fun x h => by simp at h⟩
  | cons a l ih =>
    obtain ⟨e, hl⟩ := ih fun x hx => h x (by simp [hx])
    have ha := h a (by simp)
    rw [Lit.wf_int_iff] at ha; have e1 : IntKind.u64.min = 0 := rfl; have e2 : IntKind.u64.max = 18446744073709551615 := rfl; rw [e1, e2] at ha
    refine ⟨?_, fun x hx => ?_⟩
    · have h1 : ((a.toNat : Nat) : Int) = a := by omega
      simp only [U, List.map_cons, h1]
      rw [← show U (l.map Int.toNat) = (l.map Int.toNat).map (Nat.cast : Nat → Int) from rfl, ← e]
    · simp only [List.map_cons, List.mem_cons] at hx
      rcases hx with rfl | hx
      · omega
      · exact hl x hx
/-- what Chance answers -/
def chanceR (l : List Nat) (log : List S68) : Nat × Int := if goodB log = true then ((chanceTo l log log.length).getD 0, 0) else (0, 2)
theorem chance_any (A : Option Addr) (c : Nat) (l : List Nat) (B : Option Addr) (d : Nat) (log : List S68) (w : World) (hr0 : kf.C w A l.length l) (hc0 : l.length ≤ c) (hl : l.length ≤ 4611686018427387904) (hx : ∀ x ∈ l, x < 18446744073709551616)
    (hr : Kd.C k68 w B log.length log) (hc : log.length ≤ d) (hn : log.length ≤ 8796093022208) :
    Calls Try.prog 8 #[.slice A l.length c, .slice B log.length d] w fun e w' => e = .returned (.tuple #[.float .f64 (chanceR l log).1, .int .i64 (chanceR l log).2]) ∧ Below w.heap.size w w' := by
  unfold chanceR
  by_cases hg : goodB log = true
  · rw [if_pos hg]
    obtain ⟨r, hr', _⟩ := chanceTo_le (l := l) hg log.length (Nat.le_refl _)
    rw [hr']
    exact chance_ok A c l B d log r w hr0 hc0 hl hx hr hc hn hg hr'
  · rw [if_neg hg]
    exact chance_bad A c l B d log w hr hc hn (Bool.eq_false_iff.mpr hg)
theorem chance_any_ev {l : List Nat} (hl : ∀ x ∈ l, x < 18446744073709551616) (hlen : l.length ≤ 4611686018427387904) {log : List S68} (hlog : log.length ≤ 8796093022208) :
    Ev (fun k => sibylref21_Chance.f k (U l) log) (((chanceR l log).1 : Int), (chanceR l log).2) := by
  unfold chanceR
  by_cases hg : goodB log = true
  · rw [if_pos hg]
    obtain ⟨r, hr', _⟩ := chanceTo_le (l := l) hg log.length (Nat.le_refl _)
    rw [hr']
    exact chance_ev hl hlen hlog hg hr'
  · rw [if_neg hg]
    exact chance_ev_bad hlog (Bool.eq_false_iff.mpr hg)
theorem exFrom_len : ∀ (log : List S68) (D : Nat), (norm D).length ≤ 16 → (exFrom log D).2.1.length ≤ 1000 ∧ (exFrom log D).2.2.1.length ≤ 1000
  | [], D, h => by
    refine ⟨?_, ?_⟩
    · show (U (norm 1)).length ≤ 1000
      rw [norm_one]; decide
    · show (U (norm D)).length ≤ 1000
      rw [U_length]; omega
  | p :: log, D, h => by
    unfold exFrom
    split
    · rename_i h1; exact exFrom_len log _ h1
    · exact ⟨by decide, by decide⟩
theorem exactR_len (log : List S68) : (exactR log).2.1.length ≤ 1000 ∧ (exactR log).2.2.1.length ≤ 1000 := by
  unfold exactR
  split
  · exact exFrom_len log 1 (by rw [norm_one]; decide)
  · exact ⟨by decide, by decide⟩
theorem same2_ev {b : Bool} {x y : List Int} (hx : x.length ≤ 1000) (hy : y.length ≤ 1000) : Ev (fun k => sibylref02_Same.f k b x y b x y) true := by
  unfold sibylref02_Same.f
  refine Ev.congr (fun k => if_pos (by simp)) ?_
  refine Ev.bind (same_self (by omega)) ?_
  refine Ev.congr (fun k => if_pos (show true = true from rfl)) ?_
  exact Ev.bind (same_self (by omega)) (Ev.now _)
set_option maxHeartbeats 4000000 in
set_option maxRecDepth 100000 in
theorem chances_calls (A : Option Addr) (c : Nat) (l : List Int) (B : Option Addr) (d : Nat) (log : List S68) (w : World) (hr : Kd.C (Kd.int .u64) w A l.length l) (hc : l.length ≤ c) (hl : l.length ≤ 17592186044416)
    (hwf : ∀ x ∈ l, (Lit.int .u64 x).wf = true) (hr1 : Kd.C k68 w B log.length log) (hc1 : log.length ≤ d) (hl1 : log.length ≤ 8796093021952) :
    Calls Try.prog 3 #[.slice A l.length c, .slice B log.length d] w fun e w' => e = .returned (.bool true) ∧ Below w.heap.size w w' := by
  obtain ⟨eU, hN⟩ := u64_nat2 hwf
  obtain ⟨k1, hk1⟩ := (chance_any_ev hN (by simp; omega) (log := log) (by omega)).rounds
  rw [← eU] at hk1
  obtain ⟨k2, hk2⟩ := (exact_ev (log := log) (by omega)).rounds
  obtain ⟨k3, hk3⟩ := (rexact_ev (log := log) (by omega)).rounds
  have hEL := exactR_len log
  obtain ⟨r1, r2, r3, r4, hR⟩ : ∃ r1 r2 r3 r4, exactR log = (r1, r2, r3, r4) := ⟨_, _, _, _, rfl⟩
  rw [hR] at hk2 hk3 hEL
  obtain ⟨k4, hk4⟩ := (same2_ev (b := r1) hEL.1 hEL.2).rounds
  obtain ⟨cz, ez, hZ⟩ : ∃ cz ez, chanceR (l.map Int.toNat) log = (cz, ez) := ⟨_, _, rfl⟩
  have HZ := Aside0.mk hZ
  rw [hZ] at hk1
  have HK1 := Aside0.mk hk1
  have HK2 := Aside0.mk hk2
  have HK3 := Aside0.mk hk3
  have HK4 := Aside0.mk hk4
  have HN := Aside0.mk hN
  have HR := Aside0.mk hr
  have HR1 := Aside0.mk hr1
  have HC1 := Aside0.mk hc1
  have HL1 := Aside0.mk hl1
  have HC := Aside0.mk hc
  have HL := Aside0.mk hl
  clear hZ eU hk1 hk2 hk3 hk4 hN hwf hR hEL hr hr1 hc1 hl1 hc hl
  have hbits := run_bits
  go_enter Try.func3, Try.ntmps3
  go_wp2_with (fail)
  refine (wakes_calls w).mono ?_
  rintro e w1 ⟨rfl, hb1⟩
  go_wp2_with (fail)
  refine (floats_calls A c l w1 (Kd.C_below HR.out hb1) HC.out HL.out).mono ?_
  rintro e w2 ⟨v2, rfl, ho2, hb2⟩
  obtain ⟨A2, c2, e2, hl2, hc2⟩ := Kd.R_reads ho2
  subst e2
  have HB := Aside0.mk (below_step hb1 hb2)
  have HC2 := Aside0.mk hc2
  have HL2 := Aside0.mk hl2
  clear hb1 hb2 ho2 hc2 hl2
  go_wp2_with (first
    | ((with_reducible refine gate_dst (N := 18) rfl ?_); refine Kd.R_lit k68 _ 68 ?hg (N := 18) ?hd (xs := ([] : List S68)) (inner := []) (ok := fun _ => True) (okp := fun _ => True) ?hr ?hp (fun _ hk => hk) trivial (Below.refl _ _) (Nat.le_refl _) (by simp) ?_; (case hd => rfl); (case hg => rfl); (case hr => first | (go_simp; done) | (go_simp; rfl)); (case hp => exact (Reps.none _ _)); intro v3 w3 ho3 hb3 hg_ hnew_; clear hg_ hnew_; have HO3 := Aside0.mk ho3; have HB3 := Aside0.mk hb3; clear ho3 hb3)
    | ((with_reducible refine gate_builtin (b := .append) (xs := #[.tmp 18, .tmp 19]) rfl ?_); at_builtin; refine Kd.R_append_rows k68 (w0 := w2) w2.heap.size rfl (.tmp 18) (.tmp 19) 23 68 (.agg #[(.int .i64 0), (.int .i64 0)]) 16 rfl Try.underlying23 info68 rfl (by decide) (by omega) v3 [] log _ _ _ (fun _ => True) (fun _ => False) rfl rfl ?aO ?aR (fun _ _ h => h) (fun _ h => h.elim) ?aF ?aB ?aS ?aL ?_; (case aR => exact Kd.C_below (Kd.C_below HR1.out HB.out) HB3.out); (case aB => exact HB3.out); (case aF => exact (fun _ _ => trivial)); (case aO => exact HO3.out); (case aS => exact HB3.out.size); (case aL => have := HL1.out; (first | omega | (simp; omega))); intro v4 w4 ho4 hb4 hg4 hat4; have HO4 := Aside0.mk ho4; have HB4 := Aside0.mk hb4; clear ho4 hb4 hg4 hat4 HB3 HO3))
  obtain ⟨A4, c4, e4, hl4, hc4⟩ := Kd.R_reads HO4.out
  rw [List.nil_append] at e4 hl4 hc4
  subst e4
  have HC4 := Aside0.mk hc4
  have HL4 := Aside0.mk hl4
  clear hc4 hl4 HO4
  have hch := chance_any A2 c2 (l.map Int.toNat) A4 c4 log w4 (Kd.C_below HC2.out HB4.out) HL2.out (by have := HL.out; simp; omega) HN.out HC4.out HL4.out (by have := HL1.out; omega)
  rw [HZ.out, List.length_map] at hch
  refine hch.mono ?_
  clear hch
  rintro e w5 ⟨rfl, hb5⟩
  have HB5 := Aside0.mk (below_step (below_step HB.out HB4.out) hb5)
  clear hb5
  go_wp2_with (fail)
  have hk := HK1.out
  have ht := sibylref21_Chance.calls k1 A c l B d log (cz : Int) ez w5 (Kd.C_below HR.out HB5.out) HC.out (Kd.C_below HR1.out HB5.out) HC1.out hk
  clear hk
  refine ht.mono ?_
  clear ht
  rintro e w6 ⟨rfl, hb6⟩
  have HB6 := Aside0.mk (below_step HB5.out hb6)
  clear hb6 HB HB4 HB5
  go_wp2_with (first
    | ((with_reducible refine gate_dst (N := 31) rfl ?_); refine Kd.R_lit k68 _ 68 ?hg (N := 31) ?hd (xs := ([] : List S68)) (inner := []) (ok := fun _ => True) (okp := fun _ => True) ?hr ?hp (fun _ hk => hk) trivial (Below.refl _ _) (Nat.le_refl _) (by simp) ?_; (case hd => rfl); (case hg => rfl); (case hr => first | (go_simp; done) | (go_simp; rfl)); (case hp => exact (Reps.none _ _)); intro v7 w7 ho7 hb7 hg_ hnew_; clear hg_ hnew_; have HO7 := Aside0.mk ho7; have HB7 := Aside0.mk hb7; clear ho7 hb7)
    | ((with_reducible refine gate_builtin (b := .append) (xs := #[.tmp 31, .tmp 32]) rfl ?_); at_builtin; refine Kd.R_append_rows k68 (w0 := w6) w6.heap.size rfl (.tmp 31) (.tmp 32) 23 68 (.agg #[(.int .i64 0), (.int .i64 0)]) 16 rfl Try.underlying23 info68 rfl (by decide) (by omega) v7 [] log _ _ _ (fun _ => True) (fun _ => False) rfl rfl ?aO ?aR (fun _ _ h => h) (fun _ h => h.elim) ?aF ?aB ?aS ?aL ?_; (case aR => exact Kd.C_below (Kd.C_below HR1.out HB6.out) HB7.out); (case aB => exact HB7.out); (case aF => exact (fun _ _ => trivial)); (case aO => exact HO7.out); (case aS => exact HB7.out.size); (case aL => have := HL1.out; (first | omega | (simp; omega))); intro v8 w8 ho8 hb8 hg8 hat8; have HO8 := Aside0.mk ho8; have HB8 := Aside0.mk hb8; clear ho8 hb8 hg8 hat8 HB7 HO7))
  obtain ⟨A8, c8, e8, hl8, hc8⟩ := Kd.R_reads HO8.out
  rw [List.nil_append] at e8 hl8 hc8
  subst e8
  have hk := HK3.out
  have ht := odds_Exact.calls k3 A8 c8 log r1 r2 r3 r4 w8 hc8 hl8 hk
  clear hk hc8 hl8 HO8
  refine ht.mono ?_
  clear ht
  rintro e w9 ⟨u1, u2, rfl, ho1, ho2, hb9⟩
  obtain ⟨P1, q1, e1, hp1, hc1⟩ := Kd.R_reads ho1
  obtain ⟨P2, q2, e2, hp2, hc2⟩ := Kd.R_reads ho2
  subst e1 e2
  have HB9 := Aside0.mk (below_step (below_step HB6.out HB8.out) hb9)
  have HP1 := Aside0.mk hp1
  have HP2 := Aside0.mk hp2
  have HQ1 := Aside0.mk hc1
  have HQ2 := Aside0.mk hc2
  clear ho1 ho2 hb9 hp1 hp2 hc1 hc2 HB8 HB6
  go_wp2_with (fail)
  have hk := HK2.out
  have hr1' := Kd.C_below HR1.out HB9.out
  have ht := fun W h => sibylref21_Exact.calls k2 B d log r1 r2 r3 r4 W h HC1.out hk
  refine (ht _ (Kd.C_alloc hr1' _)).mono ?_
  clear ht hk hr1'
  rintro e w10 ⟨u3, u4, rfl, ho3, ho4, hb10⟩
  obtain ⟨P3, q3, e3, hp3, hc3⟩ := Kd.R_reads ho3
  obtain ⟨P4, q4, e4, hp4, hc4⟩ := Kd.R_reads ho4
  subst e3 e4
  have x0 : w10.cell? ⟨w9.heap.size, 0, none⟩ = some (.bool r1) := by rw [hb10.cell (p := ⟨w9.heap.size, 0, none⟩) (by simp)]; go_simp
  have x1 : w10.cell? ⟨w9.heap.size, 1, none⟩ = some (.slice P1 r2.length q1) := by rw [hb10.cell (p := ⟨w9.heap.size, 1, none⟩) (by simp)]; go_simp
  have x2 : w10.cell? ⟨w9.heap.size, 2, none⟩ = some (.slice P2 r3.length q2) := by rw [hb10.cell (p := ⟨w9.heap.size, 2, none⟩) (by simp)]; go_simp
  have HP3 := Aside0.mk hp3
  have HP4 := Aside0.mk hp4
  have HQ3 := Aside0.mk hc3
  have HQ4 := Aside0.mk hc4
  have HQ1' := Aside0.mk (Kd.C_below (Kd.C_alloc HQ1.out _) hb10)
  have HQ2' := Aside0.mk (Kd.C_below (Kd.C_alloc HQ2.out _) hb10)
  have HB10 := Aside0.mk (below_step (below_alloc HB9.out _) hb10)
  have hz10 : w9.heap.size < w10.heap.size := by have := hb10.size; simp at this; omega
  clear ho3 ho4 hp3 hp4 hc3 hc4 hb10 HQ1 HQ2 HB9
  have b1 : ((cz : Int) == (cz : Int)) = true := by simp
  have b2 : (ez == ez) = true := by simp
  have b3 : (r4 == r4) = true := by simp
  go_wp2_with (fail)
  have hk := HK4.out
  have ht := sibylref02_Same.calls k4 r1 P1 q1 r2 P2 q2 r3 r1 P3 q3 r2 P4 q4 r3 true (w10.alloc (.cells #[.bool r1, .slice P3 r2.length q3, .slice P4 r3.length q4] 36)) (Kd.C_alloc HQ1'.out _) HP1.out (Kd.C_alloc HQ2'.out _) HP2.out (Kd.C_alloc HQ3.out _) HP3.out (Kd.C_alloc HQ4.out _) HP4.out hk
  clear hk
  refine ht.mono ?_
  clear ht
  rintro e w11 ⟨rfl, hb11⟩
  have HB11 := Aside0.mk (below_step (below_alloc HB10.out _) hb11)
  clear hb11 HB10
  go_wp2_with (fail)
  go_ret
  exact ⟨rfl, HB11.out⟩
end Go.Proofs.Ytjppanekddljbaa.H
namespace Go.Proofs.YtjppanekddljbaaW.PrintWords
open Go.ChangeShapes Go.WideShapes
/-- A row's slice of whole numbers is no longer than its weight allows. -/
theorem sized_ints {H : Type} {enc : TypeId × Value → H} {P : Program} {W : World} {base : Nat} {spare : Nat → Bool} {held : Bool} {t e : TypeId} {k : IntKind} {a : Option Addr} {len cap : Nat} {d : DataW H} {ps : List MemPlace} {ts : List TypeId} {ds : List (DataW H)} {j : Nat}
    (hsz : (DataW.weightsEach P ts ds).all (· ≤ reachBytes) = true) (ht : ts[j]? = some t) (hd : ds[j]? = some d) (hu : P.underlying t = some (.slice e)) (he : P.underlying e = some (.int k)) (hc : P.cellsOf e = 1) {B : Nat} (hB : P.bytesOf e = B)
    (h : DataW.Trod enc P W base spare held t (.slice a len cap) d ps) : len * B ≤ 140737488351232 := by
  obtain ⟨fuel, hf⟩ := h
  rcases open_ints hu he hc hf with ⟨hcs, _⟩ | ⟨x, l, c, zs, hcs, _, hl, _, hz, hx, _, _⟩
  · simp [Value.cells] at hcs
    obtain ⟨rfl, rfl, rfl⟩ := hcs
    simp
  · simp [Value.cells] at hcs
    obtain ⟨rfl, rfl, rfl⟩ := hcs
    obtain ⟨hx, _⟩ := Prod.mk.inj hx
    subst hx
    have z := sized_slice hsz ht hd hu
    rw [hB] at z
    have hl2 : len ≤ zs.length := by
      rw [hz]
      split
      · exact hl
      · exact Nat.le_refl _
    have h1 : (lits (H := H) k (zs.take len)).length + (lits (H := H) k (zs.drop len)).length = zs.length := by
      simp [lits]
      omega
    rw [h1] at z
    exact Nat.le_trans (Nat.mul_le_mul_right _ hl2) z
end Go.Proofs.YtjppanekddljbaaW.PrintWords
/- OddsChances returns true whatever the input, and the input reads as it did. Conditions: none but those of the given row. -/
namespace Go.Proofs.Ytjppanekddljbaa.oddsChances
open Go.ChangeShapes Go.WideShapes Go.ChangeAt Go.RowKit
open Go.ChangeMaps (open_string shut_string)
open Go.Proofs.YtjppanekddljbaaW
theorem own : ownKnob Try.prog.godebug = none := by kernel_rfl
theorem laidOut : laidOutB Try.prog = true := by kernel_rfl
def IsRow (k : IntKind) (w : World) (a : Option Addr) (len cap : Nat) (zs : List Int) : Prop :=
  (a = none ∧ len = 0 ∧ cap = 0 ∧ zs = []) ∨
  ∃ x, a = some x ∧ len ≤ cap ∧ cap ≤ maxLen ∧ zs.length = cap ∧ (∀ i, i < zs.length → w.cell? (x.add i) = some (.int k (zs.getD i 0))) ∧ ∀ n ∈ zs, (Lit.int k n).wf = true
/-- a slice of picks, as it came in -/
def IsPicks (w : World) (a : Option Addr) (len cap : Nat) : Prop :=
  ∃ log : List Go.Proofs.Ytjppanekddljbaa.Pr.S68, log.length = len ∧ len ≤ cap ∧ PrintWords.Kd.C Go.Proofs.Ytjppanekddljbaa.Pr.k68 w a log.length log
theorem open_picks {H : Type} {enc : TypeId × Value → H} {W : World} {a : Option Addr} {len cap : Nat} {d : DataW H} {ps : List MemPlace} {ts : List TypeId} {ds : List (DataW H)} {j : Nat} {spare : Nat → Bool} {held : Bool}
    (hsz : (DataW.weightsEach Try.prog ts ds).all (· ≤ reachBytes) = true) (ht : ts[j]? = some 23) (hd : ds[j]? = some d) (h : DataW.Trod enc Try.prog W 0 spare held 23 (.slice a len cap) d ps) :
    IsPicks W a len cap ∧ len * 16 ≤ 140737488351232 := by
  obtain ⟨fuel, hf⟩ := h
  rcases Go.Deep.open_slice_pairs Try.underlying23 Try.underlying68 (by kernel_rfl) rfl rfl (by kernel_rfl) (by kernel_rfl) hf with ⟨hcs, _⟩ | ⟨x, l, c, m, n, V0, V1, D0, D1, P0, P1, hcs, _, hl, hm, hmm, hx, hi⟩
  · simp [Value.cells] at hcs
    obtain ⟨rfl, rfl, rfl⟩ := hcs
    exact ⟨⟨[], rfl, by omega, rfl, by simp, fun h => by simp at h⟩, by simp⟩
  · simp [Value.cells] at hcs
    obtain ⟨rfl, rfl, rfl⟩ := hcs
    have hlm : len ≤ m := by rw [hmm]; split <;> omega
    obtain ⟨hx, _⟩ := Prod.mk.inj hx
    refine ⟨?_, ?_⟩
    · have each : ∀ i, i < len → V0 i = .int .i64 (intOf (V0 i)) ∧ V1 i = .int .i64 (intOf (V1 i)) := fun i hlt => by
        obtain ⟨_, _, t0, t1⟩ := hi i (by omega)
        obtain ⟨n0, e0, _⟩ := DataW.trod_int Try.underlying3 t0
        obtain ⟨n1, e1, _⟩ := DataW.trod_int Try.underlying3 t1
        have e0' : V0 i = .int .i64 n0 := by simpa using e0
        have e1' : V1 i = .int .i64 n1 := by simpa using e1
        rw [e0', e1']
        exact ⟨rfl, rfl⟩
      obtain ⟨q, hq0⟩ : ∃ q : Nat → Go.Proofs.Ytjppanekddljbaa.Pr.S68, q = fun i => ⟨intOf (V0 i), intOf (V1 i)⟩ := ⟨_, rfl⟩
      have hq : ∀ i, i < len → V0 i = .int .i64 (q i).f0 ∧ V1 i = .int .i64 (q i).f1 := fun i hlt => by rw [hq0]; exact each i hlt
      refine ⟨(List.range len).map q, by simp, hl, by simp, by unfold maxLen at hm; simp; omega, fun _ => ⟨x, rfl, fun j p hj => ?_⟩⟩
      have hlt : j < len := by have := (List.getElem?_eq_some_iff.1 hj).1; simpa using this
      have hp : q j = p := by simpa [hlt] using hj
      obtain ⟨h0, h1, _, _⟩ := hi j (by omega)
      obtain ⟨e0, e1⟩ := hq j hlt
      rw [hp] at e0 e1
      rw [e0] at h0
      rw [e1] at h1
      refine ⟨_, rfl, Go.Proofs.Ytjppanekddljbaa.Pr.k68_mk _ _, fun i u hi => ?_⟩
      have hi2 : i < 2 := (List.getElem?_eq_some_iff.1 hi).1
      rcases (by omega : i = 0 ∨ i = 1) with rfl | rfl
      · obtain rfl := Option.some.inj hi; exact h0
      · obtain rfl := Option.some.inj hi; exact h1
    · subst hx
      have z := sized_slice hsz ht hd Try.underlying23
      rw [show Try.prog.bytesOf 68 = 16 from by kernel_rfl] at z
      simp only [List.length_map, List.length_range] at z
      exact Nat.le_trans (Nat.mul_le_mul_right _ (Nat.le_add_right _ _)) z
set_option maxRecDepth 100000 in
theorem lifted (os : Os) (started : os.Started) (H : Type) (enc : TypeId × Value → H) :
    ReturnsInHanded {} Try.checked os 3 .any (Rows.oddsChancesSpec.pre6 enc Try.prog Try.f3 Rows.oddsChancesRow.domain false) (Rows.oddsChancesSpec.post enc Try.prog Try.f3 false true false false) := by
  refine returnsInHanded_of_change_sized (C := Try.checked) own started (by kernel_rfl) Try.func3
    (ChangeSpec.witness6 (enc := enc) (C := Try.checked) false ⟨#[], #[.slice none 0 0, .slice none 0 0], []⟩ 8 (by kernel_rfl) (by kernel_rfl) (by kernel_rfl) (by kernel_rfl)) ?_
  intro W base args ds gs before hval0 hW hcnd hsz0 _
  have hsz : (DataW.weightsEach Try.prog (Try.f3.params.toList ++ Rows.oddsChancesSpec.plain.varTypes Try.prog) (ds ++ gs)).all (· ≤ reachBytes) = true := hsz0
  have hval : ∀ (j : Nat) t v, Try.f3.params[j]? = some t → args[j]? = some v → Value.okWide Try.prog W .any base t v := hval0
  have hW' := hW
  obtain ⟨p, q, hA0, hV, rfl, hfz, hnd⟩ := hW
  have hA : DataW.TrodAll enc Try.prog W 0 (fun _ => true) true Try.f3.params.toList args.toList ds p := hA0
  rw [Try.params3] at hA hval hsz
  obtain ⟨v0, vs0, d0, ds0, p0, q0, hargs, rfl, rfl, h0, r0⟩ := trodAll_cons hA
  obtain ⟨v1, vs1, d1, ds1, p1, q1, hargs1, rfl, rfl, h1, r1⟩ := trodAll_cons r0
  obtain ⟨rfl, rfl, rfl⟩ := trodAll_nil r1
  subst hargs1
  obtain rfl : args = #[v0, v1] := by cases args; simp_all
  obtain ⟨rfl, rfl⟩ := trodVars_none hV
  obtain ⟨a0, len0, cap0, rfl⟩ := okWide_slice Try.underlying22 (hval 0 22 v0 rfl rfl)
  obtain ⟨a1, len1, cap1, rfl⟩ := okWide_slice Try.underlying23 (hval 1 23 v1 rfl rfl)
  have k0 := h0
  have k1 := h1
  have lt0 : ∀ x ∈ p0, x.block < W.heap.size := by obtain ⟨m, hm⟩ := k0; exact DataW.trod_lt m _ _ _ hm
  have lt1 : ∀ x ∈ p1, x.block < W.heap.size := by obtain ⟨m, hm⟩ := k1; exact DataW.trod_lt m _ _ _ hm
  obtain ⟨z0, w0⟩ : ∃ zs, IsRow .u64 W a0 len0 cap0 zs := by
    obtain ⟨fuel, hf⟩ := h0
    rcases open_ints Try.underlying22 Try.underlying31 (by kernel_rfl) hf with ⟨hcs, _⟩ | ⟨x, l, c, zs, hcs, _, hl, hm, hz, _, hcell, hwz⟩
    · simp [Value.cells] at hcs
      obtain ⟨rfl, rfl, rfl⟩ := hcs
      exact ⟨[], .inl ⟨rfl, rfl, rfl, rfl⟩⟩
    · simp [Value.cells] at hcs
      obtain ⟨rfl, rfl, rfl⟩ := hcs
      exact ⟨zs, .inr ⟨_, rfl, hl, hm, by simpa using hz, hcell, hwz⟩⟩
  have y0 : len0 * 8 ≤ 140737488351232 := PrintWords.sized_ints hsz (j := 0) (t := 22) rfl rfl Try.underlying22 Try.underlying31 (by kernel_rfl) (by kernel_rfl) h0
  obtain ⟨⟨log, rfl, hc1, hr1⟩, y1⟩ := open_picks hsz (j := 1) rfl rfl h1
  clear hA0 hval0 hsz0 hsz
  obtain ⟨l0, rfl, hr0, hm0, hw0, hc0⟩ := PrintWords.ReadsInt.ofRowC w0
  refine (Go.Proofs.Ytjppanekddljbaa.H.chances_calls a0 cap0 l0 a1 cap1 log W (PrintWords.Kd.C_of_reads (d := (0 : Int)) (h1 := fun _ => rfl) hr0) hc0 (by omega) hw0 hr1 hc1 (by omega)).mono fun e W' ⟨he, bel⟩ => ?_
  subst he
  exact ⟨_, rfl, _, _, _, [], _, [], hW', trodAll_mk1 (shut_bool Try.underlying4 _), (trodAll_cons_mk (Below.trod laidOut (by kernel_rfl) (of_decide_eq_true (by kernel_rfl)) k0 bel lt0) (trodAll_cons_mk (Below.trod laidOut (by kernel_rfl) (of_decide_eq_true (by kernel_rfl)) k1 bel lt1) trodAll_mk0)), rfl, bel.frame _, fun h => by cases h⟩
theorem over : Rows.oddsChancesRow.holds Try.pinned (OpenSpec.ofChange Rows.oddsChancesSpec) :=
  OpenClaim.holds_of_wide 3 Try.f3 rfl rfl rfl rfl rfl rfl rfl ⟨rfl, rfl, rfl, rfl, rfl⟩ rfl rfl rfl rfl rfl (by kernel_rfl) Try.func3 (by kernel_rfl)
    (of_decide_eq_true (by kernel_rfl)) (by unfold Func.isWrapper; first | (rw [if_pos (by decide +kernel)]; kernel_rfl) | (rw [if_neg (by decide +kernel)]; exact ⟨rfl, rfl⟩))
    (fun os started H enc _ => lifted os started H enc)
theorem proved : Rows.OddsChancesSaid := over
end Go.Proofs.Ytjppanekddljbaa.oddsChances
namespace Go.Proofs.Ytjppanekddljbaa
/-- The row, under a short name, for the claim. -/
theorem oddsChances_holds : Rows.OddsChancesSaid := oddsChances.proved
end Go.Proofs.Ytjppanekddljbaa
#print axioms Go.Proofs.Ytjppanekddljbaa.oddsChances_holds
